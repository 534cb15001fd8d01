import Derived.Test.YtihfblnjgaalcaaRN2
import Derived.Test.YtihfblnjgaalcaaRL1
namespace Go.Proofs.Ytihfblnjgaalcaa.R
open Go.RowKit Go.Proofs.YtihfblnjgaalcaaW.PrintWords Go.Proofs.YtihfblnjgaalcaaW.PrintLast Go.Proofs.YtihfblnjgaalcaaW.PrintMore
attribute [local go_sem] max2_int min2_int max_two min_two max_three min_three max_four min_four
set_option linter.unusedVariables false
set_option linter.unusedSimpArgs false

/-! ### oracle_Stuck: function 28 -/
def oracle_Stuck.f (a0_0 : Int) (a0_1 : Int) (a0_2 : Int) (a1 : Int) (l2 : List (S55)) (a3 : Int) (a4 : Bool) : Option (Bool) := (oracle_NoFit.f a0_0 a0_1 a0_2 a1 l2 a3).bind fun t210 => (if t210 = true then (if a4 = true then (some true) else (some (decide (a1 ≥ a0_1)))) else (some false))
set_option maxHeartbeats 8000000 in
set_option maxRecDepth 100000 in
theorem oracle_Stuck.calls (a0_0 : Int) (a0_1 : Int) (a0_2 : Int) (a1 : Int) (A2 : Option Addr) (c2 : Nat) (l2 : List (S55)) (a3 : Int) (a4 : Bool) (r : Bool) (w : World) (hr2 : Kd.C k55 w A2 l2.length l2) (hc2 : l2.length ≤ c2) (h : oracle_Stuck.f a0_0 a0_1 a0_2 a1 l2 a3 a4 = some r) :
  Calls Try.prog 28 #[.agg #[.int .u64 a0_0, .int .i64 a0_1, .int .i64 a0_2], .int .i64 a1, .slice A2 l2.length c2, .int .u64 a3, .bool a4] w fun e w' => e = .returned (.bool r) ∧ Below w.heap.size w w' := by
 have hu29 := Try.underlying29
 have HR2 := Aside0.mk hr2
 have HC2 := Aside0.mk hc2
 clear hr2 hc2
 have HB := Aside0.mk (Below.refl w.heap.size w)
 have H : ((oracle_NoFit.f a0_0 a0_1 a0_2 a1 l2 a3).bind fun t210 => (if t210 = true then (if a4 = true then (some true) else (some (decide (a1 ≥ a0_1)))) else (some false))) = some r := h
 clear h
 replace H := Option.bind_eq_some_iff.mp H
 obtain ⟨t210, A60, H⟩ := H
 replace H : (if t210 = true then (if a4 = true then (some true) else (some (decide (a1 ≥ a0_1)))) else (some false)) = some r := H
 have A6 := Aside0.mk A60
 clear A60
 by_cases c7 : t210 = true
 ·subst c7
  have H1 : (if a4 = true then (some true) else (some (decide (a1 ≥ a0_1)))) = some r := by rw [if_pos rfl] at H; exact H
  clear H
  have H := H1
  clear H1
  by_cases c8 : a4 = true
  ·subst c8
   have H1 : (some true) = some r := by rw [if_pos rfl] at H; exact H
   clear H
   have H := H1
   clear H1
   obtain rfl := Option.some.inj H
   go_enter Try.func28, Try.ntmps28
   go_wp2_with (first | ((with_reducible refine gate_dst (N := 5) rfl ?_); refine box_event ?hg (N := 5) ?hd (cs := #[.int .u64 a0_0, .int .i64 a0_1, .int .i64 a0_2]) (t := 29) ?hr ?_; (case hd => rfl); (case hg => rfl); (case hr => first | (go_simp; done) | (go_simp; rfl)); intro gb209 hg w9 hbox hb; have n0_ := Aside0.mk (below_step (by repeat (first | (with_reducible first | exact HB.out | apply below_alloc | apply pw_below_drewN | apply below_drew1) | exact HB.out)) hb); have n1_ := Aside0.mk (hbox); have n2_ := Aside0.mk ((by rw [hg]; exact (below_size (by repeat (first | (with_reducible first | exact HB.out | apply below_alloc | apply pw_below_drewN | apply below_drew1) | exact HB.out))) : w.heap.size ≤ gb209)); have n3_ := Aside0.mk ((by rw [hg]; exact (below_size (by repeat (first | (with_reducible first | exact HB.out | apply below_alloc | apply pw_below_drewN | apply below_drew1) | exact HB.out))) : w.heap.size ≤ gb209)); clear HB; have HB := n0_; have BK209 := n1_; have GW209 := n2_; have GE209 := n3_; clear n0_ n1_ n2_ n3_; clear hb hbox hg; have hcz10_0 : w9.cell? ⟨gb209, 0, none⟩ = some (.int .u64 a0_0) := (blk_cell BK209.out 0).trans rfl; have hcz10_1 : w9.cell? ⟨gb209, 1, none⟩ = some (.int .i64 a0_1) := (blk_cell BK209.out 1).trans rfl; have hcz10_2 : w9.cell? ⟨gb209, 2, none⟩ = some (.int .i64 a0_2) := (blk_cell BK209.out 2).trans rfl; have hfz10_0 := blk_frozen BK209.out 0; have hfz10_1 := blk_frozen BK209.out 1; have hfz10_2 := blk_frozen BK209.out 2) | ((with_reducible refine gate_callee (f := 23) rfl ?_); refine goesL_ (some 15) rfl rfl Try.func23 (by kernel_rfl) rfl #[.agg #[.int .u64 a0_0, .int .i64 a0_1, .int .i64 a0_2], .int .i64 a1, .slice A2 l2.length c2, .int .u64 a3] rfl (by (try simp only [List.map_toArray, List.map_cons, List.map_nil]); first | done | rfl | (simp only [List.length_drop, List.length_take]; rfl)) ?_; (with_reducible refine (oracle_NoFit.calls a0_0 a0_1 a0_2 a1 _ _ l2 a3 true _ ?side1 ?side2 A6.out).mono ?_); (case side1 => repeat (first | exact (Kd.C_below HR2.out HB.out) | (with_reducible refine Kd.C_alloc ?_ _) | (with_reducible refine Kd.C_drewN ?_ _) | (with_reducible refine Kd.C_drew ?_))); (case side2 => exact HC2.out); rintro e w11 ⟨rfl, hb⟩; refine ⟨_, rfl, ?_⟩; have n0_ := Aside0.mk (blk_below (g := gb209) (o := .cells #[.int .u64 a0_0, .int .i64 a0_1, .int .i64 a0_2] 29 (0, 0)) (by (with_reducible repeat (first | refine blk_drewN ?_ _ | refine blk_drew ?_ | refine blk_alloc ?_ _)); exact BK209.out) hb); have n1_ := Aside0.mk (below_step (by repeat (first | (with_reducible first | exact HB.out | apply below_alloc | apply pw_below_drewN | apply below_drew1 | refine below_set ?_ GE209.out) | exact HB.out)) hb); clear BK209; clear HB; have BK209 := n0_; have HB := n1_; clear n0_ n1_; (try clear hb); (try clear hb2); (try clear hk); (try clear hi)))
   go_ret
   exact ⟨by first | rfl | (simp [errW_none, errW_some] <;> rfl) | (simp [*, errW_none, errW_some] <;> rfl), by repeat (first | (with_reducible first | exact HB.out | apply below_alloc | apply pw_below_drewN | apply below_drew1 | refine below_set ?_ GE209.out) | exact HB.out)⟩
  ·replace c8 := Bool.eq_false_iff.mpr c8
   subst c8
   have H1 : (some (decide (a1 ≥ a0_1))) = some r := by rw [if_neg (show ¬ (false = true) by decide)] at H; exact H
   clear H
   have H := H1
   clear H1
   obtain rfl := Option.some.inj H
   go_enter Try.func28, Try.ntmps28
   go_wp2_with (first | ((with_reducible refine gate_dst (N := 5) rfl ?_); refine box_event ?hg (N := 5) ?hd (cs := #[.int .u64 a0_0, .int .i64 a0_1, .int .i64 a0_2]) (t := 29) ?hr ?_; (case hd => rfl); (case hg => rfl); (case hr => first | (go_simp; done) | (go_simp; rfl)); intro gb209 hg w12 hbox hb; have n0_ := Aside0.mk (below_step (by repeat (first | (with_reducible first | exact HB.out | apply below_alloc | apply pw_below_drewN | apply below_drew1) | exact HB.out)) hb); have n1_ := Aside0.mk (hbox); have n2_ := Aside0.mk ((by rw [hg]; exact (below_size (by repeat (first | (with_reducible first | exact HB.out | apply below_alloc | apply pw_below_drewN | apply below_drew1) | exact HB.out))) : w.heap.size ≤ gb209)); have n3_ := Aside0.mk ((by rw [hg]; exact (below_size (by repeat (first | (with_reducible first | exact HB.out | apply below_alloc | apply pw_below_drewN | apply below_drew1) | exact HB.out))) : w.heap.size ≤ gb209)); clear HB; have HB := n0_; have BK209 := n1_; have GW209 := n2_; have GE209 := n3_; clear n0_ n1_ n2_ n3_; clear hb hbox hg; have hcz13_0 : w12.cell? ⟨gb209, 0, none⟩ = some (.int .u64 a0_0) := (blk_cell BK209.out 0).trans rfl; have hcz13_1 : w12.cell? ⟨gb209, 1, none⟩ = some (.int .i64 a0_1) := (blk_cell BK209.out 1).trans rfl; have hcz13_2 : w12.cell? ⟨gb209, 2, none⟩ = some (.int .i64 a0_2) := (blk_cell BK209.out 2).trans rfl; have hfz13_0 := blk_frozen BK209.out 0; have hfz13_1 := blk_frozen BK209.out 1; have hfz13_2 := blk_frozen BK209.out 2) | ((with_reducible refine gate_callee (f := 23) rfl ?_); refine goesL_ (some 15) rfl rfl Try.func23 (by kernel_rfl) rfl #[.agg #[.int .u64 a0_0, .int .i64 a0_1, .int .i64 a0_2], .int .i64 a1, .slice A2 l2.length c2, .int .u64 a3] rfl (by (try simp only [List.map_toArray, List.map_cons, List.map_nil]); first | done | rfl | (simp only [List.length_drop, List.length_take]; rfl)) ?_; (with_reducible refine (oracle_NoFit.calls a0_0 a0_1 a0_2 a1 _ _ l2 a3 true _ ?side1 ?side2 A6.out).mono ?_); (case side1 => repeat (first | exact (Kd.C_below HR2.out HB.out) | (with_reducible refine Kd.C_alloc ?_ _) | (with_reducible refine Kd.C_drewN ?_ _) | (with_reducible refine Kd.C_drew ?_))); (case side2 => exact HC2.out); rintro e w14 ⟨rfl, hb⟩; refine ⟨_, rfl, ?_⟩; have n0_ := Aside0.mk (blk_below (g := gb209) (o := .cells #[.int .u64 a0_0, .int .i64 a0_1, .int .i64 a0_2] 29 (0, 0)) (by (with_reducible repeat (first | refine blk_drewN ?_ _ | refine blk_drew ?_ | refine blk_alloc ?_ _)); exact BK209.out) hb); have n1_ := Aside0.mk (below_step (by repeat (first | (with_reducible first | exact HB.out | apply below_alloc | apply pw_below_drewN | apply below_drew1 | refine below_set ?_ GE209.out) | exact HB.out)) hb); clear BK209; clear HB; have BK209 := n0_; have HB := n1_; clear n0_ n1_; (try clear hb); (try clear hb2); (try clear hk); (try clear hi); have hcz15_0 : w14.cell? ⟨gb209, 0, none⟩ = some (.int .u64 a0_0) := (blk_cell BK209.out 0).trans rfl; have hcz15_1 : w14.cell? ⟨gb209, 1, none⟩ = some (.int .i64 a0_1) := (blk_cell BK209.out 1).trans rfl; have hcz15_2 : w14.cell? ⟨gb209, 2, none⟩ = some (.int .i64 a0_2) := (blk_cell BK209.out 2).trans rfl; have hfz15_0 := blk_frozen BK209.out 0; have hfz15_1 := blk_frozen BK209.out 1; have hfz15_2 := blk_frozen BK209.out 2))
   go_ret
   exact ⟨by first | rfl | (simp [errW_none, errW_some] <;> rfl) | (simp [*, errW_none, errW_some] <;> rfl), by repeat (first | (with_reducible first | exact HB.out | apply below_alloc | apply pw_below_drewN | apply below_drew1 | refine below_set ?_ GE209.out) | exact HB.out)⟩
 ·replace c7 := Bool.eq_false_iff.mpr c7
  subst c7
  have H1 : (some false) = some r := by rw [if_neg (show ¬ (false = true) by decide)] at H; exact H
  clear H
  have H := H1
  clear H1
  obtain rfl := Option.some.inj H
  go_enter Try.func28, Try.ntmps28
  go_wp2_with (first | ((with_reducible refine gate_dst (N := 5) rfl ?_); refine box_event ?hg (N := 5) ?hd (cs := #[.int .u64 a0_0, .int .i64 a0_1, .int .i64 a0_2]) (t := 29) ?hr ?_; (case hd => rfl); (case hg => rfl); (case hr => first | (go_simp; done) | (go_simp; rfl)); intro gb209 hg w16 hbox hb; have n0_ := Aside0.mk (below_step (by repeat (first | (with_reducible first | exact HB.out | apply below_alloc | apply pw_below_drewN | apply below_drew1) | exact HB.out)) hb); have n1_ := Aside0.mk (hbox); have n2_ := Aside0.mk ((by rw [hg]; exact (below_size (by repeat (first | (with_reducible first | exact HB.out | apply below_alloc | apply pw_below_drewN | apply below_drew1) | exact HB.out))) : w.heap.size ≤ gb209)); have n3_ := Aside0.mk ((by rw [hg]; exact (below_size (by repeat (first | (with_reducible first | exact HB.out | apply below_alloc | apply pw_below_drewN | apply below_drew1) | exact HB.out))) : w.heap.size ≤ gb209)); clear HB; have HB := n0_; have BK209 := n1_; have GW209 := n2_; have GE209 := n3_; clear n0_ n1_ n2_ n3_; clear hb hbox hg; have hcz17_0 : w16.cell? ⟨gb209, 0, none⟩ = some (.int .u64 a0_0) := (blk_cell BK209.out 0).trans rfl; have hcz17_1 : w16.cell? ⟨gb209, 1, none⟩ = some (.int .i64 a0_1) := (blk_cell BK209.out 1).trans rfl; have hcz17_2 : w16.cell? ⟨gb209, 2, none⟩ = some (.int .i64 a0_2) := (blk_cell BK209.out 2).trans rfl; have hfz17_0 := blk_frozen BK209.out 0; have hfz17_1 := blk_frozen BK209.out 1; have hfz17_2 := blk_frozen BK209.out 2) | ((with_reducible refine gate_callee (f := 23) rfl ?_); refine goesL_ (some 15) rfl rfl Try.func23 (by kernel_rfl) rfl #[.agg #[.int .u64 a0_0, .int .i64 a0_1, .int .i64 a0_2], .int .i64 a1, .slice A2 l2.length c2, .int .u64 a3] rfl (by (try simp only [List.map_toArray, List.map_cons, List.map_nil]); first | done | rfl | (simp only [List.length_drop, List.length_take]; rfl)) ?_; (with_reducible refine (oracle_NoFit.calls a0_0 a0_1 a0_2 a1 _ _ l2 a3 false _ ?side1 ?side2 A6.out).mono ?_); (case side1 => repeat (first | exact (Kd.C_below HR2.out HB.out) | (with_reducible refine Kd.C_alloc ?_ _) | (with_reducible refine Kd.C_drewN ?_ _) | (with_reducible refine Kd.C_drew ?_))); (case side2 => exact HC2.out); rintro e w18 ⟨rfl, hb⟩; refine ⟨_, rfl, ?_⟩; have n0_ := Aside0.mk (blk_below (g := gb209) (o := .cells #[.int .u64 a0_0, .int .i64 a0_1, .int .i64 a0_2] 29 (0, 0)) (by (with_reducible repeat (first | refine blk_drewN ?_ _ | refine blk_drew ?_ | refine blk_alloc ?_ _)); exact BK209.out) hb); have n1_ := Aside0.mk (below_step (by repeat (first | (with_reducible first | exact HB.out | apply below_alloc | apply pw_below_drewN | apply below_drew1 | refine below_set ?_ GE209.out) | exact HB.out)) hb); clear BK209; clear HB; have BK209 := n0_; have HB := n1_; clear n0_ n1_; (try clear hb); (try clear hb2); (try clear hk); (try clear hi)))
  go_ret
  exact ⟨by first | rfl | (simp [errW_none, errW_some] <;> rfl) | (simp [*, errW_none, errW_some] <;> rfl), by repeat (first | (with_reducible first | exact HB.out | apply below_alloc | apply pw_below_drewN | apply below_drew1 | refine below_set ?_ GE209.out) | exact HB.out)⟩

/-! ### croftref11_Stuck: function 29 -/
def croftref11_Stuck.f (k : Nat) (a0_0 : Int) (a0_1 : Int) (a0_2 : Int) (a1 : Int) (l2 : List (S49)) (a3 : Int) (a4 : Bool) : Option (Bool) := (croftref11_NoFit.f k a0_0 a0_1 a0_2 a1 l2 a3).bind fun t212 => (if t212 = true then (if a1 ≥ a0_1 then (some true) else (some a4)) else (some false))
theorem croftref11_Stuck.mono : ∀ a0 a1 a2 a3 a4 a5 a6 k, LeO (croftref11_Stuck.f k a0 a1 a2 a3 a4 a5 a6) (croftref11_Stuck.f (k + 1) a0 a1 a2 a3 a4 a5 a6) := by
 intro a0 a1 a2 a3 a4 a5 a6 k
 unfold croftref11_Stuck.f
 repeat' first
   | (with_reducible exact croftref11_NoFit.mono _ _ _ _ _ _ _)
   | (with_reducible exact LeO.refl _)
   | (with_reducible exact LeO.none _)
   | (with_reducible refine LeO.ite ?_ ?_)
   | (with_reducible refine LeO.bind ?_ (fun _ => ?_))
   | exact croftref11_NoFit.mono _ _ _ _ _ _ _
   | exact LeO.none _
   | refine LeO.ite ?_ ?_
   | refine LeO.bind ?_ (fun _ => ?_)
set_option maxHeartbeats 8000000 in
set_option maxRecDepth 100000 in
theorem croftref11_Stuck.calls (k : Nat) (a0_0 : Int) (a0_1 : Int) (a0_2 : Int) (a1 : Int) (A2 : Option Addr) (c2 : Nat) (l2 : List (S49)) (a3 : Int) (a4 : Bool) (r : Bool) (w : World) (hr2 : Kd.C k49 w A2 l2.length l2) (hc2 : l2.length ≤ c2) (h : croftref11_Stuck.f k a0_0 a0_1 a0_2 a1 l2 a3 a4 = some r) :
  Calls Try.prog 29 #[.agg #[.int .u64 a0_0, .int .i64 a0_1, .int .i64 a0_2], .int .i64 a1, .slice A2 l2.length c2, .int .u64 a3, .bool a4] w fun e w' => e = .returned (.bool r) ∧ Below w.heap.size w w' := by
 have hu24 := Try.underlying24
 have HR2 := Aside0.mk hr2
 have HC2 := Aside0.mk hc2
 clear hr2 hc2
 have HB := Aside0.mk (Below.refl w.heap.size w)
 have H : ((croftref11_NoFit.f k a0_0 a0_1 a0_2 a1 l2 a3).bind fun t212 => (if t212 = true then (if a1 ≥ a0_1 then (some true) else (some a4)) else (some false))) = some r := h
 clear h
 replace H := Option.bind_eq_some_iff.mp H
 obtain ⟨t212, A60, H⟩ := H
 replace H : (if t212 = true then (if a1 ≥ a0_1 then (some true) else (some a4)) else (some false)) = some r := H
 have A6 := Aside0.mk A60
 clear A60
 by_cases c7 : t212 = true
 ·subst c7
  have H1 : (if a1 ≥ a0_1 then (some true) else (some a4)) = some r := by rw [if_pos rfl] at H; exact H
  clear H
  have H := H1
  clear H1
  by_cases c8 : a1 ≥ a0_1
  ·rw [if_pos c8] at H
   have c8b0 : decide (a0_1 ≤ a1) = true := decide_eq_true c8
   clear c8
   obtain rfl := Option.some.inj H
   go_enter Try.func29, Try.ntmps29
   go_wp2_with (first | ((with_reducible refine gate_dst (N := 5) rfl ?_); refine box_event ?hg (N := 5) ?hd (cs := #[.int .u64 a0_0, .int .i64 a0_1, .int .i64 a0_2]) (t := 24) ?hr ?_; (case hd => rfl); (case hg => rfl); (case hr => first | (go_simp; done) | (go_simp; rfl)); intro gb211 hg w9 hbox hb; have n0_ := Aside0.mk (below_step (by repeat (first | (with_reducible first | exact HB.out | apply below_alloc | apply pw_below_drewN | apply below_drew1) | exact HB.out)) hb); have n1_ := Aside0.mk (hbox); have n2_ := Aside0.mk ((by rw [hg]; exact (below_size (by repeat (first | (with_reducible first | exact HB.out | apply below_alloc | apply pw_below_drewN | apply below_drew1) | exact HB.out))) : w.heap.size ≤ gb211)); have n3_ := Aside0.mk ((by rw [hg]; exact (below_size (by repeat (first | (with_reducible first | exact HB.out | apply below_alloc | apply pw_below_drewN | apply below_drew1) | exact HB.out))) : w.heap.size ≤ gb211)); clear HB; have HB := n0_; have BK211 := n1_; have GW211 := n2_; have GE211 := n3_; clear n0_ n1_ n2_ n3_; clear hb hbox hg; have hcz10_0 : w9.cell? ⟨gb211, 0, none⟩ = some (.int .u64 a0_0) := (blk_cell BK211.out 0).trans rfl; have hcz10_1 : w9.cell? ⟨gb211, 1, none⟩ = some (.int .i64 a0_1) := (blk_cell BK211.out 1).trans rfl; have hcz10_2 : w9.cell? ⟨gb211, 2, none⟩ = some (.int .i64 a0_2) := (blk_cell BK211.out 2).trans rfl; have hfz10_0 := blk_frozen BK211.out 0; have hfz10_1 := blk_frozen BK211.out 1; have hfz10_2 := blk_frozen BK211.out 2) | ((with_reducible refine gate_callee (f := 27) rfl ?_); refine goesL_ (some 15) rfl rfl Try.func27 (by kernel_rfl) rfl #[.agg #[.int .u64 a0_0, .int .i64 a0_1, .int .i64 a0_2], .int .i64 a1, .slice A2 l2.length c2, .int .u64 a3] rfl (by (try simp only [List.map_toArray, List.map_cons, List.map_nil]); first | done | rfl | (simp only [List.length_drop, List.length_take]; rfl)) ?_; (with_reducible refine (croftref11_NoFit.calls k a0_0 a0_1 a0_2 a1 _ _ l2 a3 true _ ?side1 ?side2 A6.out).mono ?_); (case side1 => repeat (first | exact (Kd.C_below HR2.out HB.out) | (with_reducible refine Kd.C_alloc ?_ _) | (with_reducible refine Kd.C_drewN ?_ _) | (with_reducible refine Kd.C_drew ?_))); (case side2 => exact HC2.out); rintro e w11 ⟨rfl, hb⟩; refine ⟨_, rfl, ?_⟩; have n0_ := Aside0.mk (blk_below (g := gb211) (o := .cells #[.int .u64 a0_0, .int .i64 a0_1, .int .i64 a0_2] 24 (0, 0)) (by (with_reducible repeat (first | refine blk_drewN ?_ _ | refine blk_drew ?_ | refine blk_alloc ?_ _)); exact BK211.out) hb); have n1_ := Aside0.mk (below_step (by repeat (first | (with_reducible first | exact HB.out | apply below_alloc | apply pw_below_drewN | apply below_drew1 | refine below_set ?_ GE211.out) | exact HB.out)) hb); clear BK211; clear HB; have BK211 := n0_; have HB := n1_; clear n0_ n1_; (try clear hb); (try clear hb2); (try clear hk); (try clear hi); have hcz12_0 : w11.cell? ⟨gb211, 0, none⟩ = some (.int .u64 a0_0) := (blk_cell BK211.out 0).trans rfl; have hcz12_1 : w11.cell? ⟨gb211, 1, none⟩ = some (.int .i64 a0_1) := (blk_cell BK211.out 1).trans rfl; have hcz12_2 : w11.cell? ⟨gb211, 2, none⟩ = some (.int .i64 a0_2) := (blk_cell BK211.out 2).trans rfl; have hfz12_0 := blk_frozen BK211.out 0; have hfz12_1 := blk_frozen BK211.out 1; have hfz12_2 := blk_frozen BK211.out 2))
   go_ret
   exact ⟨by first | rfl | (simp [errW_none, errW_some] <;> rfl) | (simp [*, errW_none, errW_some] <;> rfl), by repeat (first | (with_reducible first | exact HB.out | apply below_alloc | apply pw_below_drewN | apply below_drew1 | refine below_set ?_ GE211.out) | exact HB.out)⟩
  ·rw [if_neg c8] at H
   have c8b0 : decide (a0_1 ≤ a1) = false := decide_eq_false c8
   clear c8
   obtain rfl := Option.some.inj H
   go_enter Try.func29, Try.ntmps29
   go_wp2_with (first | ((with_reducible refine gate_dst (N := 5) rfl ?_); refine box_event ?hg (N := 5) ?hd (cs := #[.int .u64 a0_0, .int .i64 a0_1, .int .i64 a0_2]) (t := 24) ?hr ?_; (case hd => rfl); (case hg => rfl); (case hr => first | (go_simp; done) | (go_simp; rfl)); intro gb211 hg w13 hbox hb; have n0_ := Aside0.mk (below_step (by repeat (first | (with_reducible first | exact HB.out | apply below_alloc | apply pw_below_drewN | apply below_drew1) | exact HB.out)) hb); have n1_ := Aside0.mk (hbox); have n2_ := Aside0.mk ((by rw [hg]; exact (below_size (by repeat (first | (with_reducible first | exact HB.out | apply below_alloc | apply pw_below_drewN | apply below_drew1) | exact HB.out))) : w.heap.size ≤ gb211)); have n3_ := Aside0.mk ((by rw [hg]; exact (below_size (by repeat (first | (with_reducible first | exact HB.out | apply below_alloc | apply pw_below_drewN | apply below_drew1) | exact HB.out))) : w.heap.size ≤ gb211)); clear HB; have HB := n0_; have BK211 := n1_; have GW211 := n2_; have GE211 := n3_; clear n0_ n1_ n2_ n3_; clear hb hbox hg; have hcz14_0 : w13.cell? ⟨gb211, 0, none⟩ = some (.int .u64 a0_0) := (blk_cell BK211.out 0).trans rfl; have hcz14_1 : w13.cell? ⟨gb211, 1, none⟩ = some (.int .i64 a0_1) := (blk_cell BK211.out 1).trans rfl; have hcz14_2 : w13.cell? ⟨gb211, 2, none⟩ = some (.int .i64 a0_2) := (blk_cell BK211.out 2).trans rfl; have hfz14_0 := blk_frozen BK211.out 0; have hfz14_1 := blk_frozen BK211.out 1; have hfz14_2 := blk_frozen BK211.out 2) | ((with_reducible refine gate_callee (f := 27) rfl ?_); refine goesL_ (some 15) rfl rfl Try.func27 (by kernel_rfl) rfl #[.agg #[.int .u64 a0_0, .int .i64 a0_1, .int .i64 a0_2], .int .i64 a1, .slice A2 l2.length c2, .int .u64 a3] rfl (by (try simp only [List.map_toArray, List.map_cons, List.map_nil]); first | done | rfl | (simp only [List.length_drop, List.length_take]; rfl)) ?_; (with_reducible refine (croftref11_NoFit.calls k a0_0 a0_1 a0_2 a1 _ _ l2 a3 true _ ?side1 ?side2 A6.out).mono ?_); (case side1 => repeat (first | exact (Kd.C_below HR2.out HB.out) | (with_reducible refine Kd.C_alloc ?_ _) | (with_reducible refine Kd.C_drewN ?_ _) | (with_reducible refine Kd.C_drew ?_))); (case side2 => exact HC2.out); rintro e w15 ⟨rfl, hb⟩; refine ⟨_, rfl, ?_⟩; have n0_ := Aside0.mk (blk_below (g := gb211) (o := .cells #[.int .u64 a0_0, .int .i64 a0_1, .int .i64 a0_2] 24 (0, 0)) (by (with_reducible repeat (first | refine blk_drewN ?_ _ | refine blk_drew ?_ | refine blk_alloc ?_ _)); exact BK211.out) hb); have n1_ := Aside0.mk (below_step (by repeat (first | (with_reducible first | exact HB.out | apply below_alloc | apply pw_below_drewN | apply below_drew1 | refine below_set ?_ GE211.out) | exact HB.out)) hb); clear BK211; clear HB; have BK211 := n0_; have HB := n1_; clear n0_ n1_; (try clear hb); (try clear hb2); (try clear hk); (try clear hi); have hcz16_0 : w15.cell? ⟨gb211, 0, none⟩ = some (.int .u64 a0_0) := (blk_cell BK211.out 0).trans rfl; have hcz16_1 : w15.cell? ⟨gb211, 1, none⟩ = some (.int .i64 a0_1) := (blk_cell BK211.out 1).trans rfl; have hcz16_2 : w15.cell? ⟨gb211, 2, none⟩ = some (.int .i64 a0_2) := (blk_cell BK211.out 2).trans rfl; have hfz16_0 := blk_frozen BK211.out 0; have hfz16_1 := blk_frozen BK211.out 1; have hfz16_2 := blk_frozen BK211.out 2))
   go_ret
   exact ⟨by first | rfl | (simp [errW_none, errW_some] <;> rfl) | (simp [*, errW_none, errW_some] <;> rfl), by repeat (first | (with_reducible first | exact HB.out | apply below_alloc | apply pw_below_drewN | apply below_drew1 | refine below_set ?_ GE211.out) | exact HB.out)⟩
 ·replace c7 := Bool.eq_false_iff.mpr c7
  subst c7
  have H1 : (some false) = some r := by rw [if_neg (show ¬ (false = true) by decide)] at H; exact H
  clear H
  have H := H1
  clear H1
  obtain rfl := Option.some.inj H
  go_enter Try.func29, Try.ntmps29
  go_wp2_with (first | ((with_reducible refine gate_dst (N := 5) rfl ?_); refine box_event ?hg (N := 5) ?hd (cs := #[.int .u64 a0_0, .int .i64 a0_1, .int .i64 a0_2]) (t := 24) ?hr ?_; (case hd => rfl); (case hg => rfl); (case hr => first | (go_simp; done) | (go_simp; rfl)); intro gb211 hg w17 hbox hb; have n0_ := Aside0.mk (below_step (by repeat (first | (with_reducible first | exact HB.out | apply below_alloc | apply pw_below_drewN | apply below_drew1) | exact HB.out)) hb); have n1_ := Aside0.mk (hbox); have n2_ := Aside0.mk ((by rw [hg]; exact (below_size (by repeat (first | (with_reducible first | exact HB.out | apply below_alloc | apply pw_below_drewN | apply below_drew1) | exact HB.out))) : w.heap.size ≤ gb211)); have n3_ := Aside0.mk ((by rw [hg]; exact (below_size (by repeat (first | (with_reducible first | exact HB.out | apply below_alloc | apply pw_below_drewN | apply below_drew1) | exact HB.out))) : w.heap.size ≤ gb211)); clear HB; have HB := n0_; have BK211 := n1_; have GW211 := n2_; have GE211 := n3_; clear n0_ n1_ n2_ n3_; clear hb hbox hg; have hcz18_0 : w17.cell? ⟨gb211, 0, none⟩ = some (.int .u64 a0_0) := (blk_cell BK211.out 0).trans rfl; have hcz18_1 : w17.cell? ⟨gb211, 1, none⟩ = some (.int .i64 a0_1) := (blk_cell BK211.out 1).trans rfl; have hcz18_2 : w17.cell? ⟨gb211, 2, none⟩ = some (.int .i64 a0_2) := (blk_cell BK211.out 2).trans rfl; have hfz18_0 := blk_frozen BK211.out 0; have hfz18_1 := blk_frozen BK211.out 1; have hfz18_2 := blk_frozen BK211.out 2) | ((with_reducible refine gate_callee (f := 27) rfl ?_); refine goesL_ (some 15) rfl rfl Try.func27 (by kernel_rfl) rfl #[.agg #[.int .u64 a0_0, .int .i64 a0_1, .int .i64 a0_2], .int .i64 a1, .slice A2 l2.length c2, .int .u64 a3] rfl (by (try simp only [List.map_toArray, List.map_cons, List.map_nil]); first | done | rfl | (simp only [List.length_drop, List.length_take]; rfl)) ?_; (with_reducible refine (croftref11_NoFit.calls k a0_0 a0_1 a0_2 a1 _ _ l2 a3 false _ ?side1 ?side2 A6.out).mono ?_); (case side1 => repeat (first | exact (Kd.C_below HR2.out HB.out) | (with_reducible refine Kd.C_alloc ?_ _) | (with_reducible refine Kd.C_drewN ?_ _) | (with_reducible refine Kd.C_drew ?_))); (case side2 => exact HC2.out); rintro e w19 ⟨rfl, hb⟩; refine ⟨_, rfl, ?_⟩; have n0_ := Aside0.mk (blk_below (g := gb211) (o := .cells #[.int .u64 a0_0, .int .i64 a0_1, .int .i64 a0_2] 24 (0, 0)) (by (with_reducible repeat (first | refine blk_drewN ?_ _ | refine blk_drew ?_ | refine blk_alloc ?_ _)); exact BK211.out) hb); have n1_ := Aside0.mk (below_step (by repeat (first | (with_reducible first | exact HB.out | apply below_alloc | apply pw_below_drewN | apply below_drew1 | refine below_set ?_ GE211.out) | exact HB.out)) hb); clear BK211; clear HB; have BK211 := n0_; have HB := n1_; clear n0_ n1_; (try clear hb); (try clear hb2); (try clear hk); (try clear hi)))
  go_ret
  exact ⟨by first | rfl | (simp [errW_none, errW_some] <;> rfl) | (simp [*, errW_none, errW_some] <;> rfl), by repeat (first | (with_reducible first | exact HB.out | apply below_alloc | apply pw_below_drewN | apply below_drew1 | refine below_set ?_ GE211.out) | exact HB.out)⟩

/-! ### croftlaw11_OracleFits: function 9 -/
def croftlaw11_OracleFits.j0 : Nat → List (S55) → Bool → Int → Int → Int → Int → List (S49) → Int → Bool → Option (Bool)
 | 0, _, _, _, _, _, _, _, _, _ => none
 | k + 1, x3, x62, x214000, x214001, x214002, x214003, x214004, x214005, x214006 => if x62 = true then (some false) else ((croftlaw11_left.f k x3 x214004).bind fun t235 => (if t235 = true then ((croftlaw11_awake.f k).bind fun t236 => (some t236)) else (some false)))
def croftlaw11_OracleFits.f (k : Nat) (a0_0 : Int) (a0_1 : Int) (a0_2 : Int) (a0_3 : Int) (l0_4 : List (S49)) (a0_5 : Int) (a0_6 : Bool) : Option (Bool) := (croftlaw11_blocks.f k l0_4).bind fun t214 => ((croftlaw11_config.f a0_0 a0_1 a0_2).bind fun bt217 => (if 0 ≤ (l0_4.length : Int) then (if (l0_4.length : Int) ≤ (t214.length : Int) then ((oracle_NoFit.f bt217.1 bt217.2.1 bt217.2.2 a0_3 (t214.take ((l0_4.length : Int) : Int).toNat) a0_5).bind fun t224 => ((croftlaw11_config.f a0_0 a0_1 a0_2).bind fun bt225 => ((oracle_Stuck.f bt225.1 bt225.2.1 bt225.2.2 a0_3 (t214.take ((l0_4.length : Int) : Int).toNat) a0_5 a0_6).bind fun t232 => ((croftref11_NoFit.f k a0_0 a0_1 a0_2 a0_3 l0_4 a0_5).bind fun t233 => (if (t224 != t233) = true then (croftlaw11_OracleFits.j0 k t214 true a0_0 a0_1 a0_2 a0_3 l0_4 a0_5 a0_6) else ((croftref11_Stuck.f k a0_0 a0_1 a0_2 a0_3 l0_4 a0_5 a0_6).bind fun t234 => (croftlaw11_OracleFits.j0 k t214 (t232 != t234) a0_0 a0_1 a0_2 a0_3 l0_4 a0_5 a0_6))))))) else (none)) else (none)))
theorem croftlaw11_OracleFits.mono_l : ∀ k, (∀ y0 y1 y2 y3 y4 y5 y6 y7 y8, LeO (croftlaw11_OracleFits.j0 k y0 y1 y2 y3 y4 y5 y6 y7 y8) (croftlaw11_OracleFits.j0 (k + 1) y0 y1 y2 y3 y4 y5 y6 y7 y8))
 | 0 => fun _ _ _ _ _ _ _ _ _ r h => by simp [croftlaw11_OracleFits.j0] at h
 | k + 1 => by
  have ih0 := croftlaw11_OracleFits.mono_l k
  ·intro y0 y1 y2 y3 y4 y5 y6 y7 y8
   unfold croftlaw11_OracleFits.j0
   repeat' first
   | (with_reducible exact ih0 _ _ _ _ _ _ _ _ _)
   | (with_reducible exact croftlaw11_awake.mono _)
   | (with_reducible exact croftlaw11_blocks.mono _ _)
   | (with_reducible exact croftlaw11_left.mono _ _ _)
   | (with_reducible exact croftref11_NoFit.mono _ _ _ _ _ _ _)
   | (with_reducible exact croftref11_Stuck.mono _ _ _ _ _ _ _ _)
   | (with_reducible exact LeO.refl _)
   | (with_reducible exact LeO.none _)
   | (with_reducible refine LeO.ite ?_ ?_)
   | (with_reducible refine LeO.bind ?_ (fun _ => ?_))
   | exact ih0 _ _ _ _ _ _ _ _ _
   | exact croftlaw11_awake.mono _
   | exact croftlaw11_blocks.mono _ _
   | exact croftlaw11_left.mono _ _ _
   | exact croftref11_NoFit.mono _ _ _ _ _ _ _
   | exact croftref11_Stuck.mono _ _ _ _ _ _ _ _
   | exact LeO.none _
   | refine LeO.ite ?_ ?_
   | refine LeO.bind ?_ (fun _ => ?_)
theorem croftlaw11_OracleFits.mono : ∀ a0 a1 a2 a3 a4 a5 a6 k, LeO (croftlaw11_OracleFits.f k a0 a1 a2 a3 a4 a5 a6) (croftlaw11_OracleFits.f (k + 1) a0 a1 a2 a3 a4 a5 a6) := by
 intro a0 a1 a2 a3 a4 a5 a6 k
 have ih0 := croftlaw11_OracleFits.mono_l k
 unfold croftlaw11_OracleFits.f
 repeat' first
   | (with_reducible exact ih0 _ _ _ _ _ _ _ _ _)
   | (with_reducible exact croftlaw11_awake.mono _)
   | (with_reducible exact croftlaw11_blocks.mono _ _)
   | (with_reducible exact croftlaw11_left.mono _ _ _)
   | (with_reducible exact croftref11_NoFit.mono _ _ _ _ _ _ _)
   | (with_reducible exact croftref11_Stuck.mono _ _ _ _ _ _ _ _)
   | (with_reducible exact LeO.refl _)
   | (with_reducible exact LeO.none _)
   | (with_reducible refine LeO.ite ?_ ?_)
   | (with_reducible refine LeO.bind ?_ (fun _ => ?_))
   | exact ih0 _ _ _ _ _ _ _ _ _
   | exact croftlaw11_awake.mono _
   | exact croftlaw11_blocks.mono _ _
   | exact croftlaw11_left.mono _ _ _
   | exact croftref11_NoFit.mono _ _ _ _ _ _ _
   | exact croftref11_Stuck.mono _ _ _ _ _ _ _ _
   | exact LeO.none _
   | refine LeO.ite ?_ ?_
   | refine LeO.bind ?_ (fun _ => ?_)
def croftlaw11_OracleFits.T2 : Bool × List (List Nat × List Nat) := (true, [([], []), ([0], [0]), ([1], [1]), ([], []), ([3], [3]), ([], []), ([], []), ([6], [6]), ([7], [7]), ([5, 8], [5, 8]), ([], []), ([10], [10]), ([2, 4, 9, 11, 2], [2, 4, 9, 11]), ([12, 12, 0, 1, 2, 3, 4, 5, 6, 7, 8, 9, 10, 11, 12], [12])])
def croftlaw11_OracleFits.B2 : List Nat := [0, 1, 3, 0, 8, 0, 0, 64, 192, 480, 0, 1024, 4095, 8191]
theorem croftlaw11_OracleFits.tab2 : rtab .any (opsOf Try.f9 2) = croftlaw11_OracleFits.T2 := by kernel_rfl
theorem croftlaw11_OracleFits.bits2 : waitsOk croftlaw11_OracleFits.T2.2 croftlaw11_OracleFits.B2 = true := by kernel_rfl
def croftlaw11_OracleFits.T3 : Bool × List (List Nat × List Nat) := (true, [([], []), ([0], [0]), ([1], [1]), ([], []), ([3], [3]), ([], []), ([], []), ([6], [6]), ([7], [7]), ([5, 8], [5, 8]), ([], []), ([10], [10]), ([], []), ([12], [12]), ([2, 4, 9, 11, 13, 2], [2, 4, 9, 11, 13]), ([14, 14, 0, 1, 2, 3, 4, 5, 6, 7, 8, 9, 10, 11, 12, 13, 14], [14])])
def croftlaw11_OracleFits.B3 : List Nat := [0, 1, 3, 0, 8, 0, 0, 64, 192, 480, 0, 1024, 0, 4096, 16383, 32767]
theorem croftlaw11_OracleFits.tab3 : rtab .any (opsOf Try.f9 3) = croftlaw11_OracleFits.T3 := by kernel_rfl
theorem croftlaw11_OracleFits.bits3 : waitsOk croftlaw11_OracleFits.T3.2 croftlaw11_OracleFits.B3 = true := by kernel_rfl
set_option maxHeartbeats 8000000 in
set_option maxRecDepth 100000 in
theorem croftlaw11_OracleFits.calls (k : Nat) (a0_0 : Int) (a0_1 : Int) (a0_2 : Int) (a0_3 : Int) (A0_4 : Option Addr) (c0_4 : Nat) (l0_4 : List (S49)) (a0_5 : Int) (a0_6 : Bool) (r : Bool) (w : World) (hr0_4 : Kd.C k49 w A0_4 l0_4.length l0_4) (hc0_4 : l0_4.length ≤ c0_4) (h : croftlaw11_OracleFits.f k a0_0 a0_1 a0_2 a0_3 l0_4 a0_5 a0_6 = some r) :
  Calls Try.prog 9 #[.agg #[.int .u64 a0_0, .int .i64 a0_1, .int .i64 a0_2, .int .i64 a0_3, .slice A0_4 l0_4.length c0_4, .int .u64 a0_5, .bool a0_6]] w fun e w' => e = .returned (.bool r) ∧ Below w.heap.size w w' := by
 have hu44 := Try.underlying44
 have hu24 := Try.underlying24
 have HR0_4 := Aside0.mk hr0_4
 have HC0_4 := Aside0.mk hc0_4
 clear hr0_4 hc0_4
 have HB := Aside0.mk (Below.refl w.heap.size w)
 have H : ((croftlaw11_blocks.f k l0_4).bind fun t214 => ((croftlaw11_config.f a0_0 a0_1 a0_2).bind fun bt217 => (if 0 ≤ (l0_4.length : Int) then (if (l0_4.length : Int) ≤ (t214.length : Int) then ((oracle_NoFit.f bt217.1 bt217.2.1 bt217.2.2 a0_3 (t214.take ((l0_4.length : Int) : Int).toNat) a0_5).bind fun t224 => ((croftlaw11_config.f a0_0 a0_1 a0_2).bind fun bt225 => ((oracle_Stuck.f bt225.1 bt225.2.1 bt225.2.2 a0_3 (t214.take ((l0_4.length : Int) : Int).toNat) a0_5 a0_6).bind fun t232 => ((croftref11_NoFit.f k a0_0 a0_1 a0_2 a0_3 l0_4 a0_5).bind fun t233 => (if (t224 != t233) = true then (croftlaw11_OracleFits.j0 k t214 true a0_0 a0_1 a0_2 a0_3 l0_4 a0_5 a0_6) else ((croftref11_Stuck.f k a0_0 a0_1 a0_2 a0_3 l0_4 a0_5 a0_6).bind fun t234 => (croftlaw11_OracleFits.j0 k t214 (t232 != t234) a0_0 a0_1 a0_2 a0_3 l0_4 a0_5 a0_6))))))) else (none)) else (none)))) = some r := h
 clear h
 replace H := Option.bind_eq_some_iff.mp H
 obtain ⟨t214, A20, H⟩ := H
 replace H : ((croftlaw11_config.f a0_0 a0_1 a0_2).bind fun bt217 => (if 0 ≤ (l0_4.length : Int) then (if (l0_4.length : Int) ≤ (t214.length : Int) then ((oracle_NoFit.f bt217.1 bt217.2.1 bt217.2.2 a0_3 (t214.take ((l0_4.length : Int) : Int).toNat) a0_5).bind fun t224 => ((croftlaw11_config.f a0_0 a0_1 a0_2).bind fun bt225 => ((oracle_Stuck.f bt225.1 bt225.2.1 bt225.2.2 a0_3 (t214.take ((l0_4.length : Int) : Int).toNat) a0_5 a0_6).bind fun t232 => ((croftref11_NoFit.f k a0_0 a0_1 a0_2 a0_3 l0_4 a0_5).bind fun t233 => (if (t224 != t233) = true then (croftlaw11_OracleFits.j0 k t214 true a0_0 a0_1 a0_2 a0_3 l0_4 a0_5 a0_6) else ((croftref11_Stuck.f k a0_0 a0_1 a0_2 a0_3 l0_4 a0_5 a0_6).bind fun t234 => (croftlaw11_OracleFits.j0 k t214 (t232 != t234) a0_0 a0_1 a0_2 a0_3 l0_4 a0_5 a0_6))))))) else (none)) else (none))) = some r := H
 have A2 := Aside0.mk A20
 clear A20
 replace H := Option.bind_eq_some_iff.mp H
 obtain ⟨⟨t217, t218, t219⟩, A30, H⟩ := H
 replace H : (if 0 ≤ (l0_4.length : Int) then (if (l0_4.length : Int) ≤ (t214.length : Int) then ((oracle_NoFit.f t217 t218 t219 a0_3 (t214.take ((l0_4.length : Int) : Int).toNat) a0_5).bind fun t224 => ((croftlaw11_config.f a0_0 a0_1 a0_2).bind fun bt225 => ((oracle_Stuck.f bt225.1 bt225.2.1 bt225.2.2 a0_3 (t214.take ((l0_4.length : Int) : Int).toNat) a0_5 a0_6).bind fun t232 => ((croftref11_NoFit.f k a0_0 a0_1 a0_2 a0_3 l0_4 a0_5).bind fun t233 => (if (t224 != t233) = true then (croftlaw11_OracleFits.j0 k t214 true a0_0 a0_1 a0_2 a0_3 l0_4 a0_5 a0_6) else ((croftref11_Stuck.f k a0_0 a0_1 a0_2 a0_3 l0_4 a0_5 a0_6).bind fun t234 => (croftlaw11_OracleFits.j0 k t214 (t232 != t234) a0_0 a0_1 a0_2 a0_3 l0_4 a0_5 a0_6))))))) else (none)) else (none)) = some r := H
 have A3 := Aside0.mk A30
 clear A30
 by_cases c4 : 0 ≤ (l0_4.length : Int)
 ·rw [if_pos c4] at H
  have c4b0 := eq_true c4
  have c4b1 : decide (0 ≤ (l0_4.length : Int)) = true := decide_eq_true c4
  clear c4
  by_cases c5 : (l0_4.length : Int) ≤ (t214.length : Int)
  ·rw [if_pos c5] at H
   have c5b0 := eq_true c5
   have c5b1 : decide ((l0_4.length : Int) ≤ (t214.length : Int)) = true := decide_eq_true c5
   clear c5
   obtain ⟨y220, hy220⟩ : ∃ y_ : List (S55), y_ = (t214.take ((l0_4.length : Int) : Int).toNat) := ⟨_, rfl⟩
   replace H : ((oracle_NoFit.f t217 t218 t219 a0_3 y220 a0_5).bind fun t224 => ((croftlaw11_config.f a0_0 a0_1 a0_2).bind fun bt225 => ((oracle_Stuck.f bt225.1 bt225.2.1 bt225.2.2 a0_3 (t214.take ((l0_4.length : Int) : Int).toNat) a0_5 a0_6).bind fun t232 => ((croftref11_NoFit.f k a0_0 a0_1 a0_2 a0_3 l0_4 a0_5).bind fun t233 => (if (t224 != t233) = true then (croftlaw11_OracleFits.j0 k t214 true a0_0 a0_1 a0_2 a0_3 l0_4 a0_5 a0_6) else ((croftref11_Stuck.f k a0_0 a0_1 a0_2 a0_3 l0_4 a0_5 a0_6).bind fun t234 => (croftlaw11_OracleFits.j0 k t214 (t232 != t234) a0_0 a0_1 a0_2 a0_3 l0_4 a0_5 a0_6))))))) = some r := by first | (rw [hy220]; with_reducible exact H) | (have H2_ := (Option.bind_some _ _).symm.trans H; rw [hy220]; with_reducible exact H2_) | (have H2_ := (Option.bind_some _ _).symm.trans H; with_reducible exact H2_) | with_reducible exact H | (rw [hy220]; exact H) | exact H
   have Ny220 := Aside0.mk hy220
   clear hy220
   replace H := Option.bind_eq_some_iff.mp H
   obtain ⟨t224, A60, H⟩ := H
   replace H : ((croftlaw11_config.f a0_0 a0_1 a0_2).bind fun bt225 => ((oracle_Stuck.f bt225.1 bt225.2.1 bt225.2.2 a0_3 (t214.take ((l0_4.length : Int) : Int).toNat) a0_5 a0_6).bind fun t232 => ((croftref11_NoFit.f k a0_0 a0_1 a0_2 a0_3 l0_4 a0_5).bind fun t233 => (if (t224 != t233) = true then (croftlaw11_OracleFits.j0 k t214 true a0_0 a0_1 a0_2 a0_3 l0_4 a0_5 a0_6) else ((croftref11_Stuck.f k a0_0 a0_1 a0_2 a0_3 l0_4 a0_5 a0_6).bind fun t234 => (croftlaw11_OracleFits.j0 k t214 (t232 != t234) a0_0 a0_1 a0_2 a0_3 l0_4 a0_5 a0_6)))))) = some r := H
   have A6 := Aside0.mk A60
   clear A60
   replace H := Option.bind_eq_some_iff.mp H
   obtain ⟨⟨t225, t226, t227⟩, A70, H⟩ := H
   replace H : ((oracle_Stuck.f t225 t226 t227 a0_3 (t214.take ((l0_4.length : Int) : Int).toNat) a0_5 a0_6).bind fun t232 => ((croftref11_NoFit.f k a0_0 a0_1 a0_2 a0_3 l0_4 a0_5).bind fun t233 => (if (t224 != t233) = true then (croftlaw11_OracleFits.j0 k t214 true a0_0 a0_1 a0_2 a0_3 l0_4 a0_5 a0_6) else ((croftref11_Stuck.f k a0_0 a0_1 a0_2 a0_3 l0_4 a0_5 a0_6).bind fun t234 => (croftlaw11_OracleFits.j0 k t214 (t232 != t234) a0_0 a0_1 a0_2 a0_3 l0_4 a0_5 a0_6))))) = some r := H
   have A7 := Aside0.mk A70
   clear A70
   have c8b0 := eq_true (of_decide_eq_true (by first | (with_reducible assumption) | assumption) : 0 ≤ (l0_4.length : Int))
   have c9b0 := eq_true (of_decide_eq_true (by first | (with_reducible assumption) | assumption) : (l0_4.length : Int) ≤ (t214.length : Int))
   obtain ⟨y228, hy228⟩ : ∃ y_ : List (S55), y_ = (t214.take ((l0_4.length : Int) : Int).toNat) := ⟨_, rfl⟩
   replace H : ((oracle_Stuck.f t225 t226 t227 a0_3 y228 a0_5 a0_6).bind fun t232 => ((croftref11_NoFit.f k a0_0 a0_1 a0_2 a0_3 l0_4 a0_5).bind fun t233 => (if (t224 != t233) = true then (croftlaw11_OracleFits.j0 k t214 true a0_0 a0_1 a0_2 a0_3 l0_4 a0_5 a0_6) else ((croftref11_Stuck.f k a0_0 a0_1 a0_2 a0_3 l0_4 a0_5 a0_6).bind fun t234 => (croftlaw11_OracleFits.j0 k t214 (t232 != t234) a0_0 a0_1 a0_2 a0_3 l0_4 a0_5 a0_6))))) = some r := by first | (rw [hy228]; with_reducible exact H) | (have H2_ := (Option.bind_some _ _).symm.trans H; rw [hy228]; with_reducible exact H2_) | (have H2_ := (Option.bind_some _ _).symm.trans H; with_reducible exact H2_) | with_reducible exact H | (rw [hy228]; exact H) | exact H
   have Ny228 := Aside0.mk hy228
   clear hy228
   replace H := Option.bind_eq_some_iff.mp H
   obtain ⟨t232, A100, H⟩ := H
   replace H : ((croftref11_NoFit.f k a0_0 a0_1 a0_2 a0_3 l0_4 a0_5).bind fun t233 => (if (t224 != t233) = true then (croftlaw11_OracleFits.j0 k t214 true a0_0 a0_1 a0_2 a0_3 l0_4 a0_5 a0_6) else ((croftref11_Stuck.f k a0_0 a0_1 a0_2 a0_3 l0_4 a0_5 a0_6).bind fun t234 => (croftlaw11_OracleFits.j0 k t214 (t232 != t234) a0_0 a0_1 a0_2 a0_3 l0_4 a0_5 a0_6)))) = some r := H
   have A10 := Aside0.mk A100
   clear A100
   have HC11 := Aside0.mk H
   clear H
   go_enter Try.func9, Try.ntmps9
   try go_wp2_with (first | ((with_reducible refine gate_dst (N := 1) rfl ?_); refine box_event ?hg (N := 1) ?hd (cs := #[.int .u64 a0_0, .int .i64 a0_1, .int .i64 a0_2, .int .i64 a0_3, .slice A0_4 l0_4.length c0_4, .int .u64 a0_5, .bool a0_6]) (t := 44) ?hr ?_; (case hd => rfl); (case hg => rfl); (case hr => first | (go_simp; done) | (go_simp; rfl)); intro gb213 hg w12 hbox hb; have n0_ := Aside0.mk (below_step (by repeat (first | (with_reducible first | exact HB.out | apply below_alloc | apply pw_below_drewN | apply below_drew1) | exact HB.out)) hb); have n1_ := Aside0.mk (hbox); have n2_ := Aside0.mk ((by rw [hg]; exact (below_size (by repeat (first | (with_reducible first | exact HB.out | apply below_alloc | apply pw_below_drewN | apply below_drew1) | exact HB.out))) : w.heap.size ≤ gb213)); have n3_ := Aside0.mk ((by rw [hg]; exact (below_size (by repeat (first | (with_reducible first | exact HB.out | apply below_alloc | apply pw_below_drewN | apply below_drew1) | exact HB.out))) : w.heap.size ≤ gb213)); clear HB; have HB := n0_; have BK213 := n1_; have GW213 := n2_; have GE213 := n3_; clear n0_ n1_ n2_ n3_; clear hb hbox hg; have hcz13_0 : w12.cell? ⟨gb213, 0, none⟩ = some (.int .u64 a0_0) := (blk_cell BK213.out 0).trans rfl; have hcz13_1 : w12.cell? ⟨gb213, 1, none⟩ = some (.int .i64 a0_1) := (blk_cell BK213.out 1).trans rfl; have hcz13_2 : w12.cell? ⟨gb213, 2, none⟩ = some (.int .i64 a0_2) := (blk_cell BK213.out 2).trans rfl; have hcz13_3 : w12.cell? ⟨gb213, 3, none⟩ = some (.int .i64 a0_3) := (blk_cell BK213.out 3).trans rfl; have hcz13_4 : w12.cell? ⟨gb213, 4, none⟩ = some (.slice A0_4 l0_4.length c0_4) := (blk_cell BK213.out 4).trans rfl; have hcz13_5 : w12.cell? ⟨gb213, 5, none⟩ = some (.int .u64 a0_5) := (blk_cell BK213.out 5).trans rfl; have hcz13_6 : w12.cell? ⟨gb213, 6, none⟩ = some (.bool a0_6) := (blk_cell BK213.out 6).trans rfl; have hfz13_0 := blk_frozen BK213.out 0; have hfz13_1 := blk_frozen BK213.out 1; have hfz13_2 := blk_frozen BK213.out 2; have hfz13_3 := blk_frozen BK213.out 3; have hfz13_4 := blk_frozen BK213.out 4; have hfz13_5 := blk_frozen BK213.out 5; have hfz13_6 := blk_frozen BK213.out 6) | ((with_reducible refine gate_callee (f := 13) rfl ?_); refine goesL_ (some 8) rfl rfl Try.func13 (by kernel_rfl) rfl #[.slice A0_4 l0_4.length c0_4] rfl (by (try simp only [List.map_toArray, List.map_cons, List.map_nil]); first | done | rfl | (simp only [List.length_drop, List.length_take]; rfl)) ?_; (with_reducible refine (croftlaw11_blocks.calls k _ _ l0_4 t214 _ ?side1 ?side2 A2.out).mono ?_); (case side1 => repeat (first | exact (Kd.C_below HR0_4.out HB.out) | (with_reducible refine Kd.C_alloc ?_ _) | (with_reducible refine Kd.C_drewN ?_ _) | (with_reducible refine Kd.C_drew ?_))); (case side2 => exact HC0_4.out); rintro e w14 ⟨v215, rfl, ho0, hb⟩; refine ⟨_, rfl, ?_⟩; have n0_ := Aside0.mk (Kd.R_lower ho0 (below_size (by repeat (first | (with_reducible first | exact HB.out | apply below_alloc | apply pw_below_drewN | apply below_drew1 | refine below_set ?_ GE213.out) | exact HB.out)))); have n1_ := Aside0.mk (blk_below (g := gb213) (o := .cells #[.int .u64 a0_0, .int .i64 a0_1, .int .i64 a0_2, .int .i64 a0_3, .slice A0_4 l0_4.length c0_4, .int .u64 a0_5, .bool a0_6] 44 (0, 0)) (by (with_reducible repeat (first | refine blk_drewN ?_ _ | refine blk_drew ?_ | refine blk_alloc ?_ _)); exact BK213.out) hb); have n2_ := Aside0.mk (below_step (by repeat (first | (with_reducible first | exact HB.out | apply below_alloc | apply pw_below_drewN | apply below_drew1 | refine below_set ?_ GE213.out) | exact HB.out)) hb); clear BK213; clear HB; have HO216 := n0_; have BK213 := n1_; have HB := n2_; clear n0_ n1_ n2_; (try clear hb); (try clear hb2); (try clear hk); (try clear hi); (try clear ho0)))
   have n0_ := Aside0.mk (Kd.R_drew HO216.out)
   have n1_ := Aside0.mk (blk_drew BK213.out)
   have n2_ := Aside0.mk (below_drew1 HB.out)
   clear HO216
   clear BK213
   clear HB
   have HO216 := n0_
   have BK213 := n1_
   have HB := n2_
   clear n0_ n1_ n2_
   obtain ⟨Ao17, co17, eo17⟩ := Kd.R_slice HO216.out
   (first | subst eo17 | (injection eo17 with f1_ f2_ f3_; have f4_ := f1_.symm; have f5_ := f3_.symm; clear f1_ f2_ f3_; subst f4_; subst f5_))
   have q16 : ((l0_4.length : Int) : Int) ≤ ((t214.length : Int) : Int) := of_decide_eq_true (by first | (with_reducible assumption) | assumption)
   obtain ⟨i016, hi016, _, hsz16, _⟩ := info_parts info55
   have hroom16 : t214.length ≤ co17 := (Kd.R_reads' HO216.out).2.1
   have hC16 : Kd.C k55 _ Ao17 t214.length t214 := (Kd.R_reads' HO216.out).2.2
   have hcut16 := cut_to (P := Try.prog) 26 55 .i64 Try.underlying26 hi016 Ao17 t214.length co17 (l0_4.length : Int) (of_decide_eq_true (by first | (with_reducible assumption) | assumption)) q16 hroom16
   have hr16 := Kd.C_take (m := ((l0_4.length : Int) : Int).toNat) hC16 (by omega)
   have hy16 : y220.length = ((l0_4.length : Int) : Int).toNat := (by rw [Ny220.out, List.length_take]; omega)
   rw [← Ny220.out] at hr16
   rw [← hy16] at hcut16
   have HR223 := Aside0.mk hr16
   have HC223 := Aside0.mk (show y220.length ≤ co17 from by omega)
   clear hr16 hC16 hroom16 hi016 hsz16
   have KY16 := Aside0.mk hy16
   clear hy16
   have KL16 := Aside0.mk (show ((l0_4.length : Int) : Int).toNat ≤ t214.length from by omega)
   replace q16 := eq_true q16
   refine start_ (n := 14) (S := fun w' => w'.cell? ⟨gb213, 0, none⟩ = some (.int .u64 a0_0) ∧ w'.cell? ⟨gb213, 1, none⟩ = some (.int .i64 a0_1) ∧ w'.cell? ⟨gb213, 2, none⟩ = some (.int .i64 a0_2) ∧ w'.cell? ⟨gb213, 3, none⟩ = some (.int .i64 a0_3) ∧ w'.cell? ⟨gb213, 4, none⟩ = some (.slice A0_4 l0_4.length c0_4) ∧ w'.cell? ⟨gb213, 5, none⟩ = some (.int .u64 a0_5) ∧ w'.cell? ⟨gb213, 6, none⟩ = some (.bool a0_6)) (ds := []) #[F,F,F,F,F,F,F,F,F,F,F,F,F,F] (by kernel_rfl) rfl rfl ⟨(blk_cell BK213.out 0).trans rfl, (blk_cell BK213.out 1).trans rfl, (blk_cell BK213.out 2).trans rfl, (blk_cell BK213.out 3).trans rfl, (blk_cell BK213.out 4).trans rfl, (blk_cell BK213.out 5).trans rfl, (blk_cell BK213.out 6).trans rfl⟩ (fun hHeld => ?_); refine with_tabW croftlaw11_OracleFits.tab2 croftlaw11_OracleFits.bits2 (fun HT_ HW_ => ?_)
   generalize w14.drew = w15 at HO216 BK213 HB HR223 hHeld ⊢
   refine pure_ (i := 0) (N := some 9) (v := ?_) (a' := ?_) #[T,F,F,F,F,F,F,F,F,F,F,F,F,F] rfl rfl (any_of HT_.out (by kernel_rfl)) (fun _ _ _ h => h) (Or.inl ⟨by rfl, ?_⟩) ?_ ?_
   rotate_left
   ·intro w'
    go_simp
    with_reducible rfl
   rotate_left
   ·simp only [Act.put, Sa, Sb, Sc, i64_w, i32_w]
    rfl
   refine pure_ (i := 3) (N := some 12) (v := ?_) (a' := ?_) #[T,F,F,T,F,F,F,F,F,F,F,F,F,F] rfl rfl (any_of HT_.out (by kernel_rfl)) (fun _ _ _ h => h) (Or.inl ⟨by rfl, ?_⟩) ?_ ?_
   rotate_left
   ·intro w'
    go_simp
    with_reducible rfl
   rotate_left
   ·simp only [Act.put, Sa, Sb, Sc, i64_w, i32_w]
    rfl
   refine pure_ (i := 5) (N := some 14) (v := ?_) (a' := ?_) #[T,F,F,T,F,T,F,F,F,F,F,F,F,F] rfl rfl (any_of HT_.out (by kernel_rfl)) (fun _ _ _ h => h) (Or.inl ⟨by rfl, ?_⟩) ?_ ?_
   rotate_left
   ·intro w'
    go_simp
    with_reducible rfl
   rotate_left
   ·simp only [Act.put, Sa, Sb, Sc, i64_w, i32_w]
    rfl
   refine pure_ (i := 6) (N := some 15) (v := ?_) (a' := ?_) #[T,F,F,T,F,T,T,F,F,F,F,F,F,F] rfl rfl (any_of HT_.out (by kernel_rfl)) (fun _ _ _ h => h) (Or.inl ⟨by rfl, ?_⟩) ?_ ?_
   rotate_left
   ·intro w'
    go_simp
    with_reducible rfl
   rotate_left
   ·simp only [Act.put, Sa, Sb, Sc, i64_w, i32_w]
    rfl
   refine pure_ (i := 10) (N := some 19) (v := ?_) (a' := ?_) #[T,F,F,T,F,T,T,F,F,F,T,F,F,F] rfl rfl (any_of HT_.out (by kernel_rfl)) (fun _ _ _ h => h) (Or.inl ⟨by rfl, ?_⟩) ?_ ?_
   rotate_left
   ·intro w'
    go_simp
    with_reducible rfl
   rotate_left
   ·simp only [Act.put, Sa, Sb, Sc, i64_w, i32_w]
    rfl
   refine take_ (i := 1) (N := some 10) (v := ?_) (a' := ?_) #[T,T,F,T,F,T,T,F,F,F,T,F,F,F] rfl rfl (take_ofW HT_.out HW_.out (by kernel_rfl)) (fun _ _ _ h => h) (Or.inl ⟨by rfl, ?_⟩) hHeld ?_ ?_
   rotate_left
   ·rintro w' ⟨s0, s1, s2, s3, s4, s5, s6⟩
    go_simp
    with_reducible rfl
   rotate_left
   ·simp only [Act.put, Sa, Sb, Sc, i64_w, i32_w]
    rfl
   refine take_ (i := 4) (N := some 13) (v := ?_) (a' := ?_) #[T,T,F,T,T,T,T,F,F,F,T,F,F,F] rfl rfl (take_ofW HT_.out HW_.out (by kernel_rfl)) (fun _ _ _ h => h) (Or.inl ⟨by rfl, ?_⟩) hHeld ?_ ?_
   rotate_left
   ·rintro w' ⟨s0, s1, s2, s3, s4, s5, s6⟩
    go_simp
    with_reducible rfl
   rotate_left
   ·simp only [Act.put, Sa, Sb, Sc, i64_w, i32_w]
    rfl
   refine take_ (i := 7) (N := some 16) (v := ?_) (a' := ?_) #[T,T,F,T,T,T,T,T,F,F,T,F,F,F] rfl rfl (take_ofW HT_.out HW_.out (by kernel_rfl)) (fun _ _ _ h => h) (Or.inl ⟨by rfl, ?_⟩) hHeld ?_ ?_
   rotate_left
   ·rintro w' ⟨s0, s1, s2, s3, s4, s5, s6⟩
    go_simp
    with_reducible rfl
   rotate_left
   ·simp only [Act.put, Sa, Sb, Sc, i64_w, i32_w]
    rfl
   refine pure_ (i := 8) (N := some 17) (v := ?_) (a' := ?_) #[T,T,F,T,T,T,T,T,T,F,T,F,F,F] rfl rfl (any_of HT_.out (by kernel_rfl)) (fun _ _ _ h => h) (Or.inl ⟨by rfl, ?_⟩) ?_ ?_
   rotate_left
   ·intro w'
    go_simp
    with_reducible rfl
   rotate_left
   ·simp only [Act.put, Sa, Sb, Sc, i64_w, i32_w]
    rfl
   refine pure_ (i := 9) (N := some 18) (v := ?_) (a' := ?_) #[T,T,F,T,T,T,T,T,T,T,T,F,F,F] rfl rfl (any_of HT_.out (by kernel_rfl)) (fun _ _ _ h => h) (Or.inl ⟨by rfl, ?_⟩) ?_ ?_
   rotate_left
   ·intro w'
    go_simp
    with_reducible rfl
   rotate_left
   ·simp only [Act.put, Sa, Sb, Sc, i64_w, i32_w]
    rfl
   refine take_ (i := 11) (N := some 20) (v := ?_) (a' := ?_) #[T,T,F,T,T,T,T,T,T,T,T,T,F,F] rfl rfl (take_ofW HT_.out HW_.out (by kernel_rfl)) (fun _ _ _ h => h) (Or.inl ⟨by rfl, ?_⟩) hHeld ?_ ?_
   rotate_left
   ·rintro w' ⟨s0, s1, s2, s3, s4, s5, s6⟩
    go_simp
    with_reducible rfl
   rotate_left
   ·simp only [Act.put, Sa, Sb, Sc, i64_w, i32_w]
    rfl
   refine one_ (i := 2) (N := some 11) #[T,T,T,T,T,T,T,T,T,T,T,T,F,F] rfl rfl (one_of HT_.out (by kernel_rfl)) (by decide) (fun K hK => ?_)
   refine goes_ Try.func15 (by kernel_rfl) rfl #[.agg #[.int .u64 a0_0, .int .i64 a0_1, .int .i64 a0_2]] (by rfl) rfl rfl (by (try simp only [List.map_toArray, List.map_cons, List.map_nil]); first | done | rfl | (simp only [List.length_drop, List.length_take]; rfl)) ?_
   with_reducible refine (croftlaw11_config.calls a0_0 a0_1 a0_2 t217 t218 t219 _ A3.out).mono ?_
   rintro e w18 ⟨rfl, hb⟩
   refine ⟨_, rfl, ?_⟩
   have n0_ := Aside0.mk (Kd.R_below (by (with_reducible repeat (first | apply Kd.R_alloc | apply Kd.R_drewN | apply Kd.R_drew)); exact HO216.out) hb)
   have n1_ := Aside0.mk (blk_below (g := gb213) (o := .cells #[.int .u64 a0_0, .int .i64 a0_1, .int .i64 a0_2, .int .i64 a0_3, .slice A0_4 l0_4.length c0_4, .int .u64 a0_5, .bool a0_6] 44 (0, 0)) (by (with_reducible repeat (first | refine blk_drewN ?_ _ | refine blk_drew ?_ | refine blk_alloc ?_ _)); exact BK213.out) hb)
   have n2_ := Aside0.mk (Kd.C_below (by repeat (first | (with_reducible exact HR223.out) | (with_reducible refine Kd.C_alloc ?_ _) | (with_reducible refine Kd.C_drewN ?_ _) | (with_reducible refine Kd.C_drew ?_) | exact HR223.out)) hb)
   have n3_ := Aside0.mk (below_step (by repeat (first | (with_reducible first | exact HB.out | apply below_alloc | apply pw_below_drewN | apply below_drew1 | refine below_set ?_ GE213.out) | exact HB.out)) hb)
   clear HO216
   clear BK213
   clear HR223
   clear HB
   have HO216 := n0_
   have BK213 := n1_
   have HR223 := n2_
   have HB := n3_
   clear n0_ n1_ n2_ n3_
   (try clear hb)
   (try clear hb2)
   (try clear hk)
   (try clear hi)
   refine hK.out _ _ ⟨(blk_cell BK213.out 0).trans rfl, (blk_cell BK213.out 1).trans rfl, (blk_cell BK213.out 2).trans rfl, (blk_cell BK213.out 3).trans rfl, (blk_cell BK213.out 4).trans rfl, (blk_cell BK213.out 5).trans rfl, (blk_cell BK213.out 6).trans rfl⟩ (fun hHeld => ?_)
   clear hK K
   refine norm_ (a' := ?_) ?_ ?_
   rotate_left
   ·show Act.put _ (some 11) _ = _
    simp only [Act.put, Sa, Sb, Sc, i64_w, i32_w]
    rfl
   refine one_ (i := 12) (N := some 21) #[T,T,T,T,T,T,T,T,T,T,T,T,T,F] rfl rfl (one_of HT_.out (by kernel_rfl)) (by decide) (fun K hK => ?_)
   refine goes_ Try.func23 (by kernel_rfl) rfl #[.agg #[.int .u64 t217, .int .i64 t218, .int .i64 t219], .int .i64 a0_3, .slice Ao17 y220.length co17, .int .u64 a0_5] (by rfl) rfl rfl (by (try simp only [List.map_toArray, List.map_cons, List.map_nil]); first | done | rfl | (rw [show y220.length = y228.length from by rw [Ny220.out, Ny228.out]]; rfl) | (simp only [List.length_drop, List.length_take]; rfl)) ?_
   with_reducible refine (oracle_NoFit.calls t217 t218 t219 a0_3 _ _ y220 a0_5 t224 _ ?side1 ?side2 A6.out).mono ?_
   (case side1 => repeat (first | exact (by repeat (first | (with_reducible exact HR223.out) | (with_reducible refine Kd.C_alloc ?_ _) | (with_reducible refine Kd.C_drewN ?_ _) | (with_reducible refine Kd.C_drew ?_) | exact HR223.out)) | (with_reducible refine Kd.C_alloc ?_ _) | (with_reducible refine Kd.C_drewN ?_ _) | (with_reducible refine Kd.C_drew ?_)))
   (case side2 => exact HC223.out)
   rintro e w19 ⟨rfl, hb⟩
   refine ⟨_, rfl, ?_⟩
   have n0_ := Aside0.mk (Kd.R_below (by (with_reducible repeat (first | apply Kd.R_alloc | apply Kd.R_drewN | apply Kd.R_drew)); exact HO216.out) hb)
   have n1_ := Aside0.mk (blk_below (g := gb213) (o := .cells #[.int .u64 a0_0, .int .i64 a0_1, .int .i64 a0_2, .int .i64 a0_3, .slice A0_4 l0_4.length c0_4, .int .u64 a0_5, .bool a0_6] 44 (0, 0)) (by (with_reducible repeat (first | refine blk_drewN ?_ _ | refine blk_drew ?_ | refine blk_alloc ?_ _)); exact BK213.out) hb)
   have n2_ := Aside0.mk (Kd.C_below (by repeat (first | (with_reducible exact HR223.out) | (with_reducible refine Kd.C_alloc ?_ _) | (with_reducible refine Kd.C_drewN ?_ _) | (with_reducible refine Kd.C_drew ?_) | exact HR223.out)) hb)
   have n3_ := Aside0.mk (below_step (by repeat (first | (with_reducible first | exact HB.out | apply below_alloc | apply pw_below_drewN | apply below_drew1 | refine below_set ?_ GE213.out) | exact HB.out)) hb)
   clear HO216
   clear BK213
   clear HR223
   clear HB
   have HO216 := n0_
   have BK213 := n1_
   have HR223 := n2_
   have HB := n3_
   clear n0_ n1_ n2_ n3_
   (try clear hb)
   (try clear hb2)
   (try clear hk)
   (try clear hi)
   refine hK.out _ _ ⟨(blk_cell BK213.out 0).trans rfl, (blk_cell BK213.out 1).trans rfl, (blk_cell BK213.out 2).trans rfl, (blk_cell BK213.out 3).trans rfl, (blk_cell BK213.out 4).trans rfl, (blk_cell BK213.out 5).trans rfl, (blk_cell BK213.out 6).trans rfl⟩ (fun hHeld => ?_)
   clear hK K
   refine norm_ (a' := ?_) ?_ ?_
   rotate_left
   ·show Act.put _ (some 21) _ = _
    simp only [Act.put, Sa, Sb, Sc, i64_w, i32_w]
    rfl
   refine pure_ (i := 13) (N := some 4) (v := ?_) (a' := ?_) #[T,T,T,T,T,T,T,T,T,T,T,T,T,T] rfl rfl (any_of HT_.out (by kernel_rfl)) (fun _ _ _ h => h) (Or.inl ⟨by rfl, ?_⟩) ?_ ?_
   rotate_left
   ·intro w'
    go_simp
    with_reducible rfl
   rotate_left
   ·simp only [Act.put, Sa, Sb, Sc, i64_w, i32_w]
    rfl
   refine done_ (done_of HT_.out (by kernel_rfl)) ?_
   try go_wp2
   have n0_ := Aside0.mk (Kd.R_drew HO216.out)
   have n1_ := Aside0.mk (blk_drew BK213.out)
   have n2_ := Aside0.mk (Kd.C_drew HR223.out)
   have n3_ := Aside0.mk (below_drew1 HB.out)
   clear HO216
   clear BK213
   clear HR223
   clear HB
   have HO216 := n0_
   have BK213 := n1_
   have HR223 := n2_
   have HB := n3_
   clear n0_ n1_ n2_ n3_
   have q21 : ((l0_4.length : Int) : Int) ≤ ((t214.length : Int) : Int) := of_decide_eq_true (by first | (with_reducible assumption) | assumption)
   obtain ⟨i021, hi021, _, hsz21, _⟩ := info_parts info55
   have hroom21 : t214.length ≤ co17 := (Kd.R_reads' HO216.out).2.1
   have hC21 : Kd.C k55 _ Ao17 t214.length t214 := (Kd.R_reads' HO216.out).2.2
   have hcut21 := cut_to (P := Try.prog) 26 55 .i64 Try.underlying26 hi021 Ao17 t214.length co17 (l0_4.length : Int) (of_decide_eq_true (by first | (with_reducible assumption) | assumption)) q21 hroom21
   have hr21 := Kd.C_take (m := ((l0_4.length : Int) : Int).toNat) hC21 (by omega)
   have hy21 : y228.length = ((l0_4.length : Int) : Int).toNat := (by rw [Ny228.out, List.length_take]; omega)
   rw [← Ny228.out] at hr21
   rw [← hy21] at hcut21
   have HR231 := Aside0.mk hr21
   have HC231 := Aside0.mk (show y228.length ≤ co17 from by omega)
   clear hr21 hC21 hroom21 hi021 hsz21
   have KY21 := Aside0.mk hy21
   clear hy21
   have KL21 := Aside0.mk (show ((l0_4.length : Int) : Int).toNat ≤ t214.length from by omega)
   replace q21 := eq_true q21
   refine start_ (n := 16) (S := fun w' => w'.cell? ⟨gb213, 0, none⟩ = some (.int .u64 a0_0) ∧ w'.cell? ⟨gb213, 1, none⟩ = some (.int .i64 a0_1) ∧ w'.cell? ⟨gb213, 2, none⟩ = some (.int .i64 a0_2) ∧ w'.cell? ⟨gb213, 3, none⟩ = some (.int .i64 a0_3) ∧ w'.cell? ⟨gb213, 4, none⟩ = some (.slice A0_4 l0_4.length c0_4) ∧ w'.cell? ⟨gb213, 5, none⟩ = some (.int .u64 a0_5) ∧ w'.cell? ⟨gb213, 6, none⟩ = some (.bool a0_6)) (ds := []) #[F,F,F,F,F,F,F,F,F,F,F,F,F,F,F,F] (by kernel_rfl) rfl rfl ⟨(blk_cell BK213.out 0).trans rfl, (blk_cell BK213.out 1).trans rfl, (blk_cell BK213.out 2).trans rfl, (blk_cell BK213.out 3).trans rfl, (blk_cell BK213.out 4).trans rfl, (blk_cell BK213.out 5).trans rfl, (blk_cell BK213.out 6).trans rfl⟩ (fun hHeld => ?_); refine with_tabW croftlaw11_OracleFits.tab3 croftlaw11_OracleFits.bits3 (fun HT_ HW_ => ?_)
   generalize w19.drew = w20 at HO216 BK213 HR223 HB HR231 hHeld ⊢
   refine pure_ (i := 0) (N := some 22) (v := ?_) (a' := ?_) #[T,F,F,F,F,F,F,F,F,F,F,F,F,F,F,F] rfl rfl (any_of HT_.out (by kernel_rfl)) (fun _ _ _ h => h) (Or.inl ⟨by rfl, ?_⟩) ?_ ?_
   rotate_left
   ·intro w'
    go_simp
    with_reducible rfl
   rotate_left
   ·simp only [Act.put, Sa, Sb, Sc, i64_w, i32_w]
    rfl
   refine pure_ (i := 3) (N := some 25) (v := ?_) (a' := ?_) #[T,F,F,T,F,F,F,F,F,F,F,F,F,F,F,F] rfl rfl (any_of HT_.out (by kernel_rfl)) (fun _ _ _ h => h) (Or.inl ⟨by rfl, ?_⟩) ?_ ?_
   rotate_left
   ·intro w'
    go_simp
    with_reducible rfl
   rotate_left
   ·simp only [Act.put, Sa, Sb, Sc, i64_w, i32_w]
    rfl
   refine pure_ (i := 5) (N := some 27) (v := ?_) (a' := ?_) #[T,F,F,T,F,T,F,F,F,F,F,F,F,F,F,F] rfl rfl (any_of HT_.out (by kernel_rfl)) (fun _ _ _ h => h) (Or.inl ⟨by rfl, ?_⟩) ?_ ?_
   rotate_left
   ·intro w'
    go_simp
    with_reducible rfl
   rotate_left
   ·simp only [Act.put, Sa, Sb, Sc, i64_w, i32_w]
    rfl
   refine pure_ (i := 6) (N := some 28) (v := ?_) (a' := ?_) #[T,F,F,T,F,T,T,F,F,F,F,F,F,F,F,F] rfl rfl (any_of HT_.out (by kernel_rfl)) (fun _ _ _ h => h) (Or.inl ⟨by rfl, ?_⟩) ?_ ?_
   rotate_left
   ·intro w'
    go_simp
    with_reducible rfl
   rotate_left
   ·simp only [Act.put, Sa, Sb, Sc, i64_w, i32_w]
    rfl
   refine pure_ (i := 10) (N := some 32) (v := ?_) (a' := ?_) #[T,F,F,T,F,T,T,F,F,F,T,F,F,F,F,F] rfl rfl (any_of HT_.out (by kernel_rfl)) (fun _ _ _ h => h) (Or.inl ⟨by rfl, ?_⟩) ?_ ?_
   rotate_left
   ·intro w'
    go_simp
    with_reducible rfl
   rotate_left
   ·simp only [Act.put, Sa, Sb, Sc, i64_w, i32_w]
    rfl
   refine pure_ (i := 12) (N := some 34) (v := ?_) (a' := ?_) #[T,F,F,T,F,T,T,F,F,F,T,F,T,F,F,F] rfl rfl (any_of HT_.out (by kernel_rfl)) (fun _ _ _ h => h) (Or.inl ⟨by rfl, ?_⟩) ?_ ?_
   rotate_left
   ·intro w'
    go_simp
    with_reducible rfl
   rotate_left
   ·simp only [Act.put, Sa, Sb, Sc, i64_w, i32_w]
    rfl
   refine take_ (i := 1) (N := some 23) (v := ?_) (a' := ?_) #[T,T,F,T,F,T,T,F,F,F,T,F,T,F,F,F] rfl rfl (take_ofW HT_.out HW_.out (by kernel_rfl)) (fun _ _ _ h => h) (Or.inl ⟨by rfl, ?_⟩) hHeld ?_ ?_
   rotate_left
   ·rintro w' ⟨s0, s1, s2, s3, s4, s5, s6⟩
    go_simp
    with_reducible rfl
   rotate_left
   ·simp only [Act.put, Sa, Sb, Sc, i64_w, i32_w]
    rfl
   refine take_ (i := 4) (N := some 26) (v := ?_) (a' := ?_) #[T,T,F,T,T,T,T,F,F,F,T,F,T,F,F,F] rfl rfl (take_ofW HT_.out HW_.out (by kernel_rfl)) (fun _ _ _ h => h) (Or.inl ⟨by rfl, ?_⟩) hHeld ?_ ?_
   rotate_left
   ·rintro w' ⟨s0, s1, s2, s3, s4, s5, s6⟩
    go_simp
    with_reducible rfl
   rotate_left
   ·simp only [Act.put, Sa, Sb, Sc, i64_w, i32_w]
    rfl
   refine take_ (i := 7) (N := some 29) (v := ?_) (a' := ?_) #[T,T,F,T,T,T,T,T,F,F,T,F,T,F,F,F] rfl rfl (take_ofW HT_.out HW_.out (by kernel_rfl)) (fun _ _ _ h => h) (Or.inl ⟨by rfl, ?_⟩) hHeld ?_ ?_
   rotate_left
   ·rintro w' ⟨s0, s1, s2, s3, s4, s5, s6⟩
    go_simp
    with_reducible rfl
   rotate_left
   ·simp only [Act.put, Sa, Sb, Sc, i64_w, i32_w]
    rfl
   refine pure_ (i := 8) (N := some 30) (v := ?_) (a' := ?_) #[T,T,F,T,T,T,T,T,T,F,T,F,T,F,F,F] rfl rfl (any_of HT_.out (by kernel_rfl)) (fun _ _ _ h => h) (Or.inl ⟨by rfl, ?_⟩) ?_ ?_
   rotate_left
   ·intro w'
    go_simp
    with_reducible rfl
   rotate_left
   ·simp only [Act.put, Sa, Sb, Sc, i64_w, i32_w]
    rfl
   refine pure_ (i := 9) (N := some 31) (v := ?_) (a' := ?_) #[T,T,F,T,T,T,T,T,T,T,T,F,T,F,F,F] rfl rfl (any_of HT_.out (by kernel_rfl)) (fun _ _ _ h => h) (Or.inl ⟨by rfl, ?_⟩) ?_ ?_
   rotate_left
   ·intro w'
    go_simp
    with_reducible rfl
   rotate_left
   ·simp only [Act.put, Sa, Sb, Sc, i64_w, i32_w]
    rfl
   refine take_ (i := 11) (N := some 33) (v := ?_) (a' := ?_) #[T,T,F,T,T,T,T,T,T,T,T,T,T,F,F,F] rfl rfl (take_ofW HT_.out HW_.out (by kernel_rfl)) (fun _ _ _ h => h) (Or.inl ⟨by rfl, ?_⟩) hHeld ?_ ?_
   rotate_left
   ·rintro w' ⟨s0, s1, s2, s3, s4, s5, s6⟩
    go_simp
    with_reducible rfl
   rotate_left
   ·simp only [Act.put, Sa, Sb, Sc, i64_w, i32_w]
    rfl
   refine take_ (i := 13) (N := some 35) (v := ?_) (a' := ?_) #[T,T,F,T,T,T,T,T,T,T,T,T,T,T,F,F] rfl rfl (take_ofW HT_.out HW_.out (by kernel_rfl)) (fun _ _ _ h => h) (Or.inl ⟨by rfl, ?_⟩) hHeld ?_ ?_
   rotate_left
   ·rintro w' ⟨s0, s1, s2, s3, s4, s5, s6⟩
    go_simp
    with_reducible rfl
   rotate_left
   ·simp only [Act.put, Sa, Sb, Sc, i64_w, i32_w]
    rfl
   refine one_ (i := 2) (N := some 24) #[T,T,T,T,T,T,T,T,T,T,T,T,T,T,F,F] rfl rfl (one_of HT_.out (by kernel_rfl)) (by decide) (fun K hK => ?_)
   refine goes_ Try.func15 (by kernel_rfl) rfl #[.agg #[.int .u64 a0_0, .int .i64 a0_1, .int .i64 a0_2]] (by rfl) rfl rfl (by (try simp only [List.map_toArray, List.map_cons, List.map_nil]); first | done | rfl | (simp only [List.length_drop, List.length_take]; rfl)) ?_
   with_reducible refine (croftlaw11_config.calls a0_0 a0_1 a0_2 t225 t226 t227 _ A7.out).mono ?_
   rintro e w22 ⟨rfl, hb⟩
   refine ⟨_, rfl, ?_⟩
   have n0_ := Aside0.mk (Kd.R_below (by (with_reducible repeat (first | apply Kd.R_alloc | apply Kd.R_drewN | apply Kd.R_drew)); exact HO216.out) hb)
   have n1_ := Aside0.mk (blk_below (g := gb213) (o := .cells #[.int .u64 a0_0, .int .i64 a0_1, .int .i64 a0_2, .int .i64 a0_3, .slice A0_4 l0_4.length c0_4, .int .u64 a0_5, .bool a0_6] 44 (0, 0)) (by (with_reducible repeat (first | refine blk_drewN ?_ _ | refine blk_drew ?_ | refine blk_alloc ?_ _)); exact BK213.out) hb)
   have n2_ := Aside0.mk (Kd.C_below (by repeat (first | (with_reducible exact HR223.out) | (with_reducible refine Kd.C_alloc ?_ _) | (with_reducible refine Kd.C_drewN ?_ _) | (with_reducible refine Kd.C_drew ?_) | exact HR223.out)) hb)
   have n3_ := Aside0.mk (Kd.C_below (by repeat (first | (with_reducible exact HR231.out) | (with_reducible refine Kd.C_alloc ?_ _) | (with_reducible refine Kd.C_drewN ?_ _) | (with_reducible refine Kd.C_drew ?_) | exact HR231.out)) hb)
   have n4_ := Aside0.mk (below_step (by repeat (first | (with_reducible first | exact HB.out | apply below_alloc | apply pw_below_drewN | apply below_drew1 | refine below_set ?_ GE213.out) | exact HB.out)) hb)
   clear HO216
   clear BK213
   clear HR223
   clear HR231
   clear HB
   have HO216 := n0_
   have BK213 := n1_
   have HR223 := n2_
   have HR231 := n3_
   have HB := n4_
   clear n0_ n1_ n2_ n3_ n4_
   (try clear hb)
   (try clear hb2)
   (try clear hk)
   (try clear hi)
   refine hK.out _ _ ⟨(blk_cell BK213.out 0).trans rfl, (blk_cell BK213.out 1).trans rfl, (blk_cell BK213.out 2).trans rfl, (blk_cell BK213.out 3).trans rfl, (blk_cell BK213.out 4).trans rfl, (blk_cell BK213.out 5).trans rfl, (blk_cell BK213.out 6).trans rfl⟩ (fun hHeld => ?_)
   clear hK K
   refine norm_ (a' := ?_) ?_ ?_
   rotate_left
   ·show Act.put _ (some 24) _ = _
    simp only [Act.put, Sa, Sb, Sc, i64_w, i32_w]
    rfl
   refine one_ (i := 14) (N := some 36) #[T,T,T,T,T,T,T,T,T,T,T,T,T,T,T,F] rfl rfl (one_of HT_.out (by kernel_rfl)) (by decide) (fun K hK => ?_)
   refine goes_ Try.func28 (by kernel_rfl) rfl #[.agg #[.int .u64 t225, .int .i64 t226, .int .i64 t227], .int .i64 a0_3, .slice Ao17 y228.length co17, .int .u64 a0_5, .bool a0_6] (by rfl) rfl rfl (by (try simp only [List.map_toArray, List.map_cons, List.map_nil]); first | done | rfl | (rw [show y228.length = y220.length from by rw [Ny228.out, Ny220.out]]; rfl) | (simp only [List.length_drop, List.length_take]; rfl)) ?_
   with_reducible refine (oracle_Stuck.calls t225 t226 t227 a0_3 _ _ y228 a0_5 a0_6 t232 _ ?side1 ?side2 A10.out).mono ?_
   (case side1 => repeat (first | exact (by repeat (first | (with_reducible exact HR231.out) | (with_reducible refine Kd.C_alloc ?_ _) | (with_reducible refine Kd.C_drewN ?_ _) | (with_reducible refine Kd.C_drew ?_) | exact HR231.out)) | (with_reducible refine Kd.C_alloc ?_ _) | (with_reducible refine Kd.C_drewN ?_ _) | (with_reducible refine Kd.C_drew ?_)))
   (case side2 => exact HC231.out)
   rintro e w23 ⟨rfl, hb⟩
   refine ⟨_, rfl, ?_⟩
   have n0_ := Aside0.mk (Kd.R_below (by (with_reducible repeat (first | apply Kd.R_alloc | apply Kd.R_drewN | apply Kd.R_drew)); exact HO216.out) hb)
   have n1_ := Aside0.mk (blk_below (g := gb213) (o := .cells #[.int .u64 a0_0, .int .i64 a0_1, .int .i64 a0_2, .int .i64 a0_3, .slice A0_4 l0_4.length c0_4, .int .u64 a0_5, .bool a0_6] 44 (0, 0)) (by (with_reducible repeat (first | refine blk_drewN ?_ _ | refine blk_drew ?_ | refine blk_alloc ?_ _)); exact BK213.out) hb)
   have n2_ := Aside0.mk (Kd.C_below (by repeat (first | (with_reducible exact HR223.out) | (with_reducible refine Kd.C_alloc ?_ _) | (with_reducible refine Kd.C_drewN ?_ _) | (with_reducible refine Kd.C_drew ?_) | exact HR223.out)) hb)
   have n3_ := Aside0.mk (Kd.C_below (by repeat (first | (with_reducible exact HR231.out) | (with_reducible refine Kd.C_alloc ?_ _) | (with_reducible refine Kd.C_drewN ?_ _) | (with_reducible refine Kd.C_drew ?_) | exact HR231.out)) hb)
   have n4_ := Aside0.mk (below_step (by repeat (first | (with_reducible first | exact HB.out | apply below_alloc | apply pw_below_drewN | apply below_drew1 | refine below_set ?_ GE213.out) | exact HB.out)) hb)
   clear HO216
   clear BK213
   clear HR223
   clear HR231
   clear HB
   have HO216 := n0_
   have BK213 := n1_
   have HR223 := n2_
   have HR231 := n3_
   have HB := n4_
   clear n0_ n1_ n2_ n3_ n4_
   (try clear hb)
   (try clear hb2)
   (try clear hk)
   (try clear hi)
   refine hK.out _ _ ⟨(blk_cell BK213.out 0).trans rfl, (blk_cell BK213.out 1).trans rfl, (blk_cell BK213.out 2).trans rfl, (blk_cell BK213.out 3).trans rfl, (blk_cell BK213.out 4).trans rfl, (blk_cell BK213.out 5).trans rfl, (blk_cell BK213.out 6).trans rfl⟩ (fun hHeld => ?_)
   clear hK K
   refine norm_ (a' := ?_) ?_ ?_
   rotate_left
   ·show Act.put _ (some 36) _ = _
    simp only [Act.put, Sa, Sb, Sc, i64_w, i32_w]
    rfl
   refine pure_ (i := 15) (N := some 5) (v := ?_) (a' := ?_) #[T,T,T,T,T,T,T,T,T,T,T,T,T,T,T,T] rfl rfl (any_of HT_.out (by kernel_rfl)) (fun _ _ _ h => h) (Or.inl ⟨by rfl, ?_⟩) ?_ ?_
   rotate_left
   ·intro w'
    go_simp
    with_reducible rfl
   rotate_left
   ·simp only [Act.put, Sa, Sb, Sc, i64_w, i32_w]
    rfl
   refine done_ (done_of HT_.out (by kernel_rfl)) ?_
   go_upto_region 4 with (fail)
   go_cut [62] (fun v62 wc => ∃ (kq : Nat) (x62_10 : Bool), v62 = .bool x62_10 ∧ Aside0 (croftlaw11_OracleFits.j0 kq t214 x62_10 a0_0 a0_1 a0_2 a0_3 l0_4 a0_5 a0_6 = some r) ∧ Aside0 (kq ≤ k) ∧ Aside0 (Kd.R k55 55 wc w.heap.size (fun _ => True) (.slice Ao17 t214.length co17) t214) ∧ Aside0 (wc.heap[gb213]? = some (.cells #[.int .u64 a0_0, .int .i64 a0_1, .int .i64 a0_2, .int .i64 a0_3, (.slice A0_4 l0_4.length c0_4), .int .u64 a0_5, .bool a0_6] 44 (0, 0))) ∧ Aside0 (Kd.C k55 wc Ao17 y220.length y220) ∧ Aside0 (Kd.C k55 wc Ao17 y228.length y228) ∧ Aside0 (Below w.heap.size w wc))
   case first =>
    have H := HC11.out
    clear HC11
    replace H := Option.bind_eq_some_iff.mp H
    obtain ⟨t233, A240, H⟩ := H
    replace H : (if (t224 != t233) = true then (croftlaw11_OracleFits.j0 k t214 true a0_0 a0_1 a0_2 a0_3 l0_4 a0_5 a0_6) else ((croftref11_Stuck.f k a0_0 a0_1 a0_2 a0_3 l0_4 a0_5 a0_6).bind fun t234 => (croftlaw11_OracleFits.j0 k t214 (t232 != t234) a0_0 a0_1 a0_2 a0_3 l0_4 a0_5 a0_6))) = some r := H
    have A24 := Aside0.mk A240
    clear A240
    by_cases c25 : (t224 != t233) = true
    ·rw [if_pos c25] at H
     have c25b0 : (t224 != t233) = true := c25
     (try (have c25b1 : decide (t224 = t233) = false := by simpa using c25))
     (try (have c25b2 : (t224 == t233) = false := by simpa using c25))
     (try (have c25b3 : ¬ (t224 = t233) := by simpa using c25))
     clear c25
     (first | rw [c25b0] | (simp only [i64_w, i32_w]; rw [c25b0]) | skip)
     have H' := Aside0.mk H
     clear H
     have hcz26_0 : w23.cell? ⟨gb213, 0, none⟩ = some (.int .u64 a0_0) := (blk_cell BK213.out 0).trans rfl
     have hcz26_1 : w23.cell? ⟨gb213, 1, none⟩ = some (.int .i64 a0_1) := (blk_cell BK213.out 1).trans rfl
     have hcz26_2 : w23.cell? ⟨gb213, 2, none⟩ = some (.int .i64 a0_2) := (blk_cell BK213.out 2).trans rfl
     have hcz26_3 : w23.cell? ⟨gb213, 3, none⟩ = some (.int .i64 a0_3) := (blk_cell BK213.out 3).trans rfl
     have hcz26_4 : w23.cell? ⟨gb213, 4, none⟩ = some (.slice A0_4 l0_4.length c0_4) := (blk_cell BK213.out 4).trans rfl
     have hcz26_5 : w23.cell? ⟨gb213, 5, none⟩ = some (.int .u64 a0_5) := (blk_cell BK213.out 5).trans rfl
     have hcz26_6 : w23.cell? ⟨gb213, 6, none⟩ = some (.bool a0_6) := (blk_cell BK213.out 6).trans rfl
     have hfz26_0 := blk_frozen BK213.out 0
     have hfz26_1 := blk_frozen BK213.out 1
     have hfz26_2 := blk_frozen BK213.out 2
     have hfz26_3 := blk_frozen BK213.out 3
     have hfz26_4 := blk_frozen BK213.out 4
     have hfz26_5 := blk_frozen BK213.out 5
     have hfz26_6 := blk_frozen BK213.out 6
     go_wp2_with (first | ((with_reducible refine gate_callee (f := 27) rfl ?_); refine goesL_ (some 46) rfl rfl Try.func27 (by kernel_rfl) rfl #[.agg #[.int .u64 a0_0, .int .i64 a0_1, .int .i64 a0_2], .int .i64 a0_3, .slice A0_4 l0_4.length c0_4, .int .u64 a0_5] rfl (by (try simp only [List.map_toArray, List.map_cons, List.map_nil]); first | done | rfl | (simp only [List.length_drop, List.length_take]; rfl)) ?_; (with_reducible refine (croftref11_NoFit.calls k a0_0 a0_1 a0_2 a0_3 _ _ l0_4 a0_5 t233 _ ?side1 ?side2 A24.out).mono ?_); (case side1 => repeat (first | exact (Kd.C_below HR0_4.out HB.out) | (with_reducible refine Kd.C_alloc ?_ _) | (with_reducible refine Kd.C_drewN ?_ _) | (with_reducible refine Kd.C_drew ?_))); (case side2 => exact HC0_4.out); rintro e w27 ⟨rfl, hb⟩; refine ⟨_, rfl, ?_⟩; have n0_ := Aside0.mk (Kd.R_below (by (with_reducible repeat (first | apply Kd.R_alloc | apply Kd.R_drewN | apply Kd.R_drew)); exact HO216.out) hb); have n1_ := Aside0.mk (blk_below (g := gb213) (o := .cells #[.int .u64 a0_0, .int .i64 a0_1, .int .i64 a0_2, .int .i64 a0_3, .slice A0_4 l0_4.length c0_4, .int .u64 a0_5, .bool a0_6] 44 (0, 0)) (by (with_reducible repeat (first | refine blk_drewN ?_ _ | refine blk_drew ?_ | refine blk_alloc ?_ _)); exact BK213.out) hb); have n2_ := Aside0.mk (Kd.C_below (by repeat (first | (with_reducible exact HR223.out) | (with_reducible refine Kd.C_alloc ?_ _) | (with_reducible refine Kd.C_drewN ?_ _) | (with_reducible refine Kd.C_drew ?_) | exact HR223.out)) hb); have n3_ := Aside0.mk (Kd.C_below (by repeat (first | (with_reducible exact HR231.out) | (with_reducible refine Kd.C_alloc ?_ _) | (with_reducible refine Kd.C_drewN ?_ _) | (with_reducible refine Kd.C_drew ?_) | exact HR231.out)) hb); have n4_ := Aside0.mk (below_step (by repeat (first | (with_reducible first | exact HB.out | apply below_alloc | apply pw_below_drewN | apply below_drew1 | refine below_set ?_ GE213.out) | exact HB.out)) hb); clear HO216; clear BK213; clear HR223; clear HR231; clear HB; have HO216 := n0_; have BK213 := n1_; have HR223 := n2_; have HR231 := n3_; have HB := n4_; clear n0_ n1_ n2_ n3_ n4_; (try clear hb); (try clear hb2); (try clear hk); (try clear hi)))
     go_meet
     case rel => exact ⟨_, (true), (by first | rfl | (simp; done) | (simp [*]; done)), H', ⟨by first | omega | exact Nat.le_refl _⟩, ⟨by (with_reducible repeat (first | apply Kd.R_alloc | apply Kd.R_drewN | apply Kd.R_drew)); exact HO216.out⟩, ⟨by (with_reducible repeat (first | refine blk_drewN ?_ _ | refine blk_drew ?_ | refine blk_alloc ?_ _)); exact BK213.out⟩, ⟨by repeat (first | (with_reducible exact HR223.out) | (with_reducible refine Kd.C_alloc ?_ _) | (with_reducible refine Kd.C_drewN ?_ _) | (with_reducible refine Kd.C_drew ?_) | exact HR223.out)⟩, ⟨by repeat (first | (with_reducible exact HR231.out) | (with_reducible refine Kd.C_alloc ?_ _) | (with_reducible refine Kd.C_drewN ?_ _) | (with_reducible refine Kd.C_drew ?_) | exact HR231.out)⟩, ⟨by repeat (first | (with_reducible first | exact HB.out | apply below_alloc | apply pw_below_drewN | apply below_drew1 | refine below_set ?_ GE213.out) | exact HB.out)⟩⟩
    ·rw [if_neg c25] at H
     have c25b0 : (t224 != t233) = false := by simpa using c25
     (try (have c25b1 : decide (t224 = t233) = true := by simpa using c25))
     (try (have c25b2 : (t224 == t233) = true := by simpa using c25))
     clear c25
     (first | rw [c25b0] | (simp only [i64_w, i32_w]; rw [c25b0]) | skip)
     replace H := Option.bind_eq_some_iff.mp H
     obtain ⟨t234, A280, H⟩ := H
     replace H : (croftlaw11_OracleFits.j0 k t214 (t232 != t234) a0_0 a0_1 a0_2 a0_3 l0_4 a0_5 a0_6) = some r := H
     have A28 := Aside0.mk A280
     clear A280
     have H' := Aside0.mk H
     clear H
     have hcz29_0 : w23.cell? ⟨gb213, 0, none⟩ = some (.int .u64 a0_0) := (blk_cell BK213.out 0).trans rfl
     have hcz29_1 : w23.cell? ⟨gb213, 1, none⟩ = some (.int .i64 a0_1) := (blk_cell BK213.out 1).trans rfl
     have hcz29_2 : w23.cell? ⟨gb213, 2, none⟩ = some (.int .i64 a0_2) := (blk_cell BK213.out 2).trans rfl
     have hcz29_3 : w23.cell? ⟨gb213, 3, none⟩ = some (.int .i64 a0_3) := (blk_cell BK213.out 3).trans rfl
     have hcz29_4 : w23.cell? ⟨gb213, 4, none⟩ = some (.slice A0_4 l0_4.length c0_4) := (blk_cell BK213.out 4).trans rfl
     have hcz29_5 : w23.cell? ⟨gb213, 5, none⟩ = some (.int .u64 a0_5) := (blk_cell BK213.out 5).trans rfl
     have hcz29_6 : w23.cell? ⟨gb213, 6, none⟩ = some (.bool a0_6) := (blk_cell BK213.out 6).trans rfl
     have hfz29_0 := blk_frozen BK213.out 0
     have hfz29_1 := blk_frozen BK213.out 1
     have hfz29_2 := blk_frozen BK213.out 2
     have hfz29_3 := blk_frozen BK213.out 3
     have hfz29_4 := blk_frozen BK213.out 4
     have hfz29_5 := blk_frozen BK213.out 5
     have hfz29_6 := blk_frozen BK213.out 6
     go_wp2_with (first | ((with_reducible refine gate_callee (f := 27) rfl ?_); refine goesL_ (some 46) rfl rfl Try.func27 (by kernel_rfl) rfl #[.agg #[.int .u64 a0_0, .int .i64 a0_1, .int .i64 a0_2], .int .i64 a0_3, .slice A0_4 l0_4.length c0_4, .int .u64 a0_5] rfl (by (try simp only [List.map_toArray, List.map_cons, List.map_nil]); first | done | rfl | (simp only [List.length_drop, List.length_take]; rfl)) ?_; (with_reducible refine (croftref11_NoFit.calls k a0_0 a0_1 a0_2 a0_3 _ _ l0_4 a0_5 t233 _ ?side1 ?side2 A24.out).mono ?_); (case side1 => repeat (first | exact (Kd.C_below HR0_4.out HB.out) | (with_reducible refine Kd.C_alloc ?_ _) | (with_reducible refine Kd.C_drewN ?_ _) | (with_reducible refine Kd.C_drew ?_))); (case side2 => exact HC0_4.out); rintro e w30 ⟨rfl, hb⟩; refine ⟨_, rfl, ?_⟩; have n0_ := Aside0.mk (Kd.R_below (by (with_reducible repeat (first | apply Kd.R_alloc | apply Kd.R_drewN | apply Kd.R_drew)); exact HO216.out) hb); have n1_ := Aside0.mk (blk_below (g := gb213) (o := .cells #[.int .u64 a0_0, .int .i64 a0_1, .int .i64 a0_2, .int .i64 a0_3, .slice A0_4 l0_4.length c0_4, .int .u64 a0_5, .bool a0_6] 44 (0, 0)) (by (with_reducible repeat (first | refine blk_drewN ?_ _ | refine blk_drew ?_ | refine blk_alloc ?_ _)); exact BK213.out) hb); have n2_ := Aside0.mk (Kd.C_below (by repeat (first | (with_reducible exact HR223.out) | (with_reducible refine Kd.C_alloc ?_ _) | (with_reducible refine Kd.C_drewN ?_ _) | (with_reducible refine Kd.C_drew ?_) | exact HR223.out)) hb); have n3_ := Aside0.mk (Kd.C_below (by repeat (first | (with_reducible exact HR231.out) | (with_reducible refine Kd.C_alloc ?_ _) | (with_reducible refine Kd.C_drewN ?_ _) | (with_reducible refine Kd.C_drew ?_) | exact HR231.out)) hb); have n4_ := Aside0.mk (below_step (by repeat (first | (with_reducible first | exact HB.out | apply below_alloc | apply pw_below_drewN | apply below_drew1 | refine below_set ?_ GE213.out) | exact HB.out)) hb); clear HO216; clear BK213; clear HR223; clear HR231; clear HB; have HO216 := n0_; have BK213 := n1_; have HR223 := n2_; have HR231 := n3_; have HB := n4_; clear n0_ n1_ n2_ n3_ n4_; (try clear hb); (try clear hb2); (try clear hk); (try clear hi); have hcz31_0 : w30.cell? ⟨gb213, 0, none⟩ = some (.int .u64 a0_0) := (blk_cell BK213.out 0).trans rfl; have hcz31_1 : w30.cell? ⟨gb213, 1, none⟩ = some (.int .i64 a0_1) := (blk_cell BK213.out 1).trans rfl; have hcz31_2 : w30.cell? ⟨gb213, 2, none⟩ = some (.int .i64 a0_2) := (blk_cell BK213.out 2).trans rfl; have hcz31_3 : w30.cell? ⟨gb213, 3, none⟩ = some (.int .i64 a0_3) := (blk_cell BK213.out 3).trans rfl; have hcz31_4 : w30.cell? ⟨gb213, 4, none⟩ = some (.slice A0_4 l0_4.length c0_4) := (blk_cell BK213.out 4).trans rfl; have hcz31_5 : w30.cell? ⟨gb213, 5, none⟩ = some (.int .u64 a0_5) := (blk_cell BK213.out 5).trans rfl; have hcz31_6 : w30.cell? ⟨gb213, 6, none⟩ = some (.bool a0_6) := (blk_cell BK213.out 6).trans rfl; have hfz31_0 := blk_frozen BK213.out 0; have hfz31_1 := blk_frozen BK213.out 1; have hfz31_2 := blk_frozen BK213.out 2; have hfz31_3 := blk_frozen BK213.out 3; have hfz31_4 := blk_frozen BK213.out 4; have hfz31_5 := blk_frozen BK213.out 5; have hfz31_6 := blk_frozen BK213.out 6) | (go_at_call 29; (with_reducible refine (croftref11_Stuck.calls k a0_0 a0_1 a0_2 a0_3 _ _ l0_4 a0_5 a0_6 t234 _ ?side1 ?side2 A28.out).mono ?_); (case side1 => repeat (first | exact (Kd.C_below HR0_4.out HB.out) | (with_reducible refine Kd.C_alloc ?_ _) | (with_reducible refine Kd.C_drewN ?_ _) | (with_reducible refine Kd.C_drew ?_))); (case side2 => exact HC0_4.out); rintro e w32 ⟨rfl, hb⟩; have n0_ := Aside0.mk (Kd.R_below (by (with_reducible repeat (first | apply Kd.R_alloc | apply Kd.R_drewN | apply Kd.R_drew)); exact HO216.out) hb); have n1_ := Aside0.mk (blk_below (g := gb213) (o := .cells #[.int .u64 a0_0, .int .i64 a0_1, .int .i64 a0_2, .int .i64 a0_3, .slice A0_4 l0_4.length c0_4, .int .u64 a0_5, .bool a0_6] 44 (0, 0)) (by (with_reducible repeat (first | refine blk_drewN ?_ _ | refine blk_drew ?_ | refine blk_alloc ?_ _)); exact BK213.out) hb); have n2_ := Aside0.mk (Kd.C_below (by repeat (first | (with_reducible exact HR223.out) | (with_reducible refine Kd.C_alloc ?_ _) | (with_reducible refine Kd.C_drewN ?_ _) | (with_reducible refine Kd.C_drew ?_) | exact HR223.out)) hb); have n3_ := Aside0.mk (Kd.C_below (by repeat (first | (with_reducible exact HR231.out) | (with_reducible refine Kd.C_alloc ?_ _) | (with_reducible refine Kd.C_drewN ?_ _) | (with_reducible refine Kd.C_drew ?_) | exact HR231.out)) hb); have n4_ := Aside0.mk (below_step (by repeat (first | (with_reducible first | exact HB.out | apply below_alloc | apply pw_below_drewN | apply below_drew1 | refine below_set ?_ GE213.out) | exact HB.out)) hb); clear HO216; clear BK213; clear HR223; clear HR231; clear HB; have HO216 := n0_; have BK213 := n1_; have HR223 := n2_; have HR231 := n3_; have HB := n4_; clear n0_ n1_ n2_ n3_ n4_; (try clear hb); (try clear hb2); (try clear hk); (try clear hi)))
     go_meet
     case rel => exact ⟨_, ((t232 != t234)), (by first | rfl | (simp; done) | (simp [*]; done)), H', ⟨by first | omega | exact Nat.le_refl _⟩, ⟨by (with_reducible repeat (first | apply Kd.R_alloc | apply Kd.R_drewN | apply Kd.R_drew)); exact HO216.out⟩, ⟨by (with_reducible repeat (first | refine blk_drewN ?_ _ | refine blk_drew ?_ | refine blk_alloc ?_ _)); exact BK213.out⟩, ⟨by repeat (first | (with_reducible exact HR223.out) | (with_reducible refine Kd.C_alloc ?_ _) | (with_reducible refine Kd.C_drewN ?_ _) | (with_reducible refine Kd.C_drew ?_) | exact HR223.out)⟩, ⟨by repeat (first | (with_reducible exact HR231.out) | (with_reducible refine Kd.C_alloc ?_ _) | (with_reducible refine Kd.C_drewN ?_ _) | (with_reducible refine Kd.C_drew ?_) | exact HR231.out)⟩, ⟨by repeat (first | (with_reducible first | exact HB.out | apply below_alloc | apply pw_below_drewN | apply below_drew1 | refine below_set ?_ GE213.out) | exact HB.out)⟩⟩
   case rest =>
    clear HC11
    try clear c1; try clear q1; try clear c2; try clear p2; try clear q2; try clear c4; try clear c4b0; try clear c4b1; try clear c5; try clear c5b0; try clear c5b1; try clear c8; try clear c8b0; try clear c9; try clear c9b0; try clear c13; try clear c15; try clear q16; try clear q21; try clear c23; try clear c25; try clear c25b0; try clear c25b1; try clear c25b2; try clear c27; try clear c28; try clear hcz13_0; try clear hcz13_1; try clear hcz13_2; try clear hcz13_3; try clear hcz13_4; try clear hcz13_5; try clear hcz13_6; try clear hcz26_0; try clear hcz26_1; try clear hcz26_2; try clear hcz26_3; try clear hcz26_4; try clear hcz26_5; try clear hcz26_6; try clear hcz29_0; try clear hcz29_1; try clear hcz29_2; try clear hcz29_3; try clear hcz29_4; try clear hcz29_5; try clear hcz29_6; try clear hcz31_0; try clear hcz31_1; try clear hcz31_2; try clear hcz31_3; try clear hcz31_4; try clear hcz31_5; try clear hcz31_6; try clear hfz13_0; try clear hfz13_1; try clear hfz13_2; try clear hfz13_3; try clear hfz13_4; try clear hfz13_5; try clear hfz13_6; try clear hfz26_0; try clear hfz26_1; try clear hfz26_2; try clear hfz26_3; try clear hfz26_4; try clear hfz26_5; try clear hfz26_6; try clear hfz29_0; try clear hfz29_1; try clear hfz29_2; try clear hfz29_3; try clear hfz29_4; try clear hfz29_5; try clear hfz29_6; try clear hfz31_0; try clear hfz31_1; try clear hfz31_2; try clear hfz31_3; try clear hfz31_4; try clear hfz31_5; try clear hfz31_6; try clear q16; try clear q21
    obtain ⟨kq, x62_10, rfl, HA, HJ10, HO_3, BK213, HR223, HR231, HB⟩ := hcut
    cases kq with
    | zero => exact absurd HA.out (by simp [croftlaw11_OracleFits.j0])
    | succ kj10 =>
     have H := HA.out
     clear HA
     simp only [croftlaw11_OracleFits.j0] at H
     by_cases c33 : x62_10 = true
     ·subst c33
      have H1 : (some false) = some r := by rw [if_pos rfl] at H; exact H
      clear H
      have H := H1
      clear H1
      obtain rfl := Option.some.inj H
      go_wp2
      go_ret
      exact ⟨by first | rfl | (simp [errW_none, errW_some] <;> rfl) | (simp [*, errW_none, errW_some] <;> rfl), by repeat (first | (with_reducible first | exact HB.out | apply below_alloc | apply pw_below_drewN | apply below_drew1 | refine below_set ?_ GE213.out) | exact HB.out)⟩
     ·replace c33 := Bool.eq_false_iff.mpr c33
      subst c33
      have H1 : ((croftlaw11_left.f kj10 t214 l0_4).bind fun t235 => (if t235 = true then ((croftlaw11_awake.f kj10).bind fun t236 => (some t236)) else (some false))) = some r := by rw [if_neg (show ¬ (false = true) by decide)] at H; exact H
      clear H
      have H := H1
      clear H1
      replace H := Option.bind_eq_some_iff.mp H
      obtain ⟨t235, A340, H⟩ := H
      replace H : (if t235 = true then ((croftlaw11_awake.f kj10).bind fun t236 => (some t236)) else (some false)) = some r := H
      have A34 := Aside0.mk A340
      clear A340
      by_cases c35 : t235 = true
      ·subst c35
       have H1 : ((croftlaw11_awake.f kj10).bind fun t236 => (some t236)) = some r := by rw [if_pos rfl] at H; exact H
       clear H
       have H := H1
       clear H1
       replace H := Option.bind_eq_some_iff.mp H
       obtain ⟨t236, A360, H⟩ := H
       replace H : (some t236) = some r := H
       have A36 := Aside0.mk A360
       clear A360
       obtain rfl := Option.some.inj H
       have hcz37_0 : wc.cell? ⟨gb213, 0, none⟩ = some (.int .u64 a0_0) := (blk_cell BK213.out 0).trans rfl
       have hcz37_1 : wc.cell? ⟨gb213, 1, none⟩ = some (.int .i64 a0_1) := (blk_cell BK213.out 1).trans rfl
       have hcz37_2 : wc.cell? ⟨gb213, 2, none⟩ = some (.int .i64 a0_2) := (blk_cell BK213.out 2).trans rfl
       have hcz37_3 : wc.cell? ⟨gb213, 3, none⟩ = some (.int .i64 a0_3) := (blk_cell BK213.out 3).trans rfl
       have hcz37_4 : wc.cell? ⟨gb213, 4, none⟩ = some (.slice A0_4 l0_4.length c0_4) := (blk_cell BK213.out 4).trans rfl
       have hcz37_5 : wc.cell? ⟨gb213, 5, none⟩ = some (.int .u64 a0_5) := (blk_cell BK213.out 5).trans rfl
       have hcz37_6 : wc.cell? ⟨gb213, 6, none⟩ = some (.bool a0_6) := (blk_cell BK213.out 6).trans rfl
       have hfz37_0 := blk_frozen BK213.out 0
       have hfz37_1 := blk_frozen BK213.out 1
       have hfz37_2 := blk_frozen BK213.out 2
       have hfz37_3 := blk_frozen BK213.out 3
       have hfz37_4 := blk_frozen BK213.out 4
       have hfz37_5 := blk_frozen BK213.out 5
       have hfz37_6 := blk_frozen BK213.out 6
       go_wp2_with (first | ((with_reducible refine gate_callee (f := 17) rfl ?_); refine goesL_ (some 66) rfl rfl Try.func17 (by kernel_rfl) rfl #[.slice Ao17 t214.length co17, .slice A0_4 l0_4.length c0_4] rfl (by (try simp only [List.map_toArray, List.map_cons, List.map_nil]); first | done | rfl | (simp only [List.length_drop, List.length_take]; rfl)) ?_; (with_reducible refine (croftlaw11_left.calls kj10 _ _ t214 _ _ l0_4 true _ ?side1 ?side2 ?side3 ?side4 A34.out).mono ?_); (case side1 => repeat (first | exact (Kd.R_reads' HO_3.out).2.2 | (with_reducible refine Kd.C_alloc ?_ _) | (with_reducible refine Kd.C_drewN ?_ _) | (with_reducible refine Kd.C_drew ?_))); (case side2 => exact (Kd.R_reads' HO_3.out).2.1); (case side3 => repeat (first | exact (Kd.C_below HR0_4.out HB.out) | (with_reducible refine Kd.C_alloc ?_ _) | (with_reducible refine Kd.C_drewN ?_ _) | (with_reducible refine Kd.C_drew ?_))); (case side4 => exact HC0_4.out); rintro e w' ⟨rfl, ⟨nd, rfl⟩⟩; refine ⟨_, rfl, ?_⟩) | (go_at_call 18; (with_reducible refine (croftlaw11_awake.calls kj10  t236 _ A36.out).mono ?_); rintro e w38 ⟨rfl, hb⟩; have n0_ := Aside0.mk (Kd.R_below (by (with_reducible repeat (first | apply Kd.R_alloc | apply Kd.R_drewN | apply Kd.R_drew)); exact HO_3.out) hb); have n1_ := Aside0.mk (blk_below (g := gb213) (o := .cells #[.int .u64 a0_0, .int .i64 a0_1, .int .i64 a0_2, .int .i64 a0_3, .slice A0_4 l0_4.length c0_4, .int .u64 a0_5, .bool a0_6] 44 (0, 0)) (by (with_reducible repeat (first | refine blk_drewN ?_ _ | refine blk_drew ?_ | refine blk_alloc ?_ _)); exact BK213.out) hb); have n2_ := Aside0.mk (Kd.C_below (by repeat (first | (with_reducible exact HR223.out) | (with_reducible refine Kd.C_alloc ?_ _) | (with_reducible refine Kd.C_drewN ?_ _) | (with_reducible refine Kd.C_drew ?_) | exact HR223.out)) hb); have n3_ := Aside0.mk (Kd.C_below (by repeat (first | (with_reducible exact HR231.out) | (with_reducible refine Kd.C_alloc ?_ _) | (with_reducible refine Kd.C_drewN ?_ _) | (with_reducible refine Kd.C_drew ?_) | exact HR231.out)) hb); have n4_ := Aside0.mk (below_step (by repeat (first | (with_reducible first | exact HB.out | apply below_alloc | apply pw_below_drewN | apply below_drew1 | refine below_set ?_ GE213.out) | exact HB.out)) hb); clear HO_3; clear BK213; clear HR223; clear HR231; clear HB; have HO_3 := n0_; have BK213 := n1_; have HR223 := n2_; have HR231 := n3_; have HB := n4_; clear n0_ n1_ n2_ n3_ n4_; (try clear hb); (try clear hb2); (try clear hk); (try clear hi)))
       go_ret
       exact ⟨by first | rfl | (simp [errW_none, errW_some] <;> rfl) | (simp [*, errW_none, errW_some] <;> rfl), by repeat (first | (with_reducible first | exact HB.out | apply below_alloc | apply pw_below_drewN | apply below_drew1 | refine below_set ?_ GE213.out) | exact HB.out)⟩
      ·replace c35 := Bool.eq_false_iff.mpr c35
       subst c35
       have H1 : (some false) = some r := by rw [if_neg (show ¬ (false = true) by decide)] at H; exact H
       clear H
       have H := H1
       clear H1
       obtain rfl := Option.some.inj H
       have hcz39_0 : wc.cell? ⟨gb213, 0, none⟩ = some (.int .u64 a0_0) := (blk_cell BK213.out 0).trans rfl
       have hcz39_1 : wc.cell? ⟨gb213, 1, none⟩ = some (.int .i64 a0_1) := (blk_cell BK213.out 1).trans rfl
       have hcz39_2 : wc.cell? ⟨gb213, 2, none⟩ = some (.int .i64 a0_2) := (blk_cell BK213.out 2).trans rfl
       have hcz39_3 : wc.cell? ⟨gb213, 3, none⟩ = some (.int .i64 a0_3) := (blk_cell BK213.out 3).trans rfl
       have hcz39_4 : wc.cell? ⟨gb213, 4, none⟩ = some (.slice A0_4 l0_4.length c0_4) := (blk_cell BK213.out 4).trans rfl
       have hcz39_5 : wc.cell? ⟨gb213, 5, none⟩ = some (.int .u64 a0_5) := (blk_cell BK213.out 5).trans rfl
       have hcz39_6 : wc.cell? ⟨gb213, 6, none⟩ = some (.bool a0_6) := (blk_cell BK213.out 6).trans rfl
       have hfz39_0 := blk_frozen BK213.out 0
       have hfz39_1 := blk_frozen BK213.out 1
       have hfz39_2 := blk_frozen BK213.out 2
       have hfz39_3 := blk_frozen BK213.out 3
       have hfz39_4 := blk_frozen BK213.out 4
       have hfz39_5 := blk_frozen BK213.out 5
       have hfz39_6 := blk_frozen BK213.out 6
       go_wp2_with (first | ((with_reducible refine gate_callee (f := 17) rfl ?_); refine goesL_ (some 66) rfl rfl Try.func17 (by kernel_rfl) rfl #[.slice Ao17 t214.length co17, .slice A0_4 l0_4.length c0_4] rfl (by (try simp only [List.map_toArray, List.map_cons, List.map_nil]); first | done | rfl | (simp only [List.length_drop, List.length_take]; rfl)) ?_; (with_reducible refine (croftlaw11_left.calls kj10 _ _ t214 _ _ l0_4 false _ ?side1 ?side2 ?side3 ?side4 A34.out).mono ?_); (case side1 => repeat (first | exact (Kd.R_reads' HO_3.out).2.2 | (with_reducible refine Kd.C_alloc ?_ _) | (with_reducible refine Kd.C_drewN ?_ _) | (with_reducible refine Kd.C_drew ?_))); (case side2 => exact (Kd.R_reads' HO_3.out).2.1); (case side3 => repeat (first | exact (Kd.C_below HR0_4.out HB.out) | (with_reducible refine Kd.C_alloc ?_ _) | (with_reducible refine Kd.C_drewN ?_ _) | (with_reducible refine Kd.C_drew ?_))); (case side4 => exact HC0_4.out); rintro e w' ⟨rfl, ⟨nd, rfl⟩⟩; refine ⟨_, rfl, ?_⟩))
       go_ret
       exact ⟨by first | rfl | (simp [errW_none, errW_some] <;> rfl) | (simp [*, errW_none, errW_some] <;> rfl), by repeat (first | (with_reducible first | exact HB.out | apply below_alloc | apply pw_below_drewN | apply below_drew1 | refine below_set ?_ GE213.out) | exact HB.out)⟩
  ·rw [if_neg c5] at H
   exact absurd H (by simp)
 ·rw [if_neg c4] at H
  exact absurd H (by simp)


end Go.Proofs.Ytihfblnjgaalcaa.R
