import Derived.Test.YtihfblnjgaalcaaRN1
namespace Go.Proofs.Ytihfblnjgaalcaa.R
open Go.RowKit Go.Proofs.YtihfblnjgaalcaaW.PrintWords Go.Proofs.YtihfblnjgaalcaaW.PrintLast Go.Proofs.YtihfblnjgaalcaaW.PrintMore
attribute [local go_sem] max2_int min2_int max_two min_two max_three min_three max_four min_four
set_option linter.unusedVariables false
set_option linter.unusedSimpArgs false

/-! ### croftref11_NoFit: function 27 -/
mutual
def croftref11_NoFit.j0 : Nat → Int → List (S49) → Int → Bool → Int → Int → Int → Option (Bool)
 | 0, _, _, _, _, _, _, _ => none
 | k + 1, x1, x2, x3, x40, x192000, x192001, x192002 => if x40 = true then (some false) else (if x3 < 4096 then (croftref11_NoFit.j1 k x1 x2 x3 4096 x192000 x192001 x192002) else (croftref11_NoFit.j1 k x1 x2 x3 x3 x192000 x192001 x192002))
def croftref11_NoFit.j1 : Nat → Int → List (S49) → Int → Int → Int → Int → Int → Option (Bool)
 | 0, _, _, _, _, _, _, _ => none
 | k + 1, x1, x2, x3, x9, x192000, x192001, x192002 => (croftref11_R.f x192000 x192001 x192002).bind fun t196 => (croftref11_NoFit.l0 k x2 x3 x9 (IntKind.u64.wrap ((IntKind.u64.wrap (x1)) * t196)) 0 x192000 x192001 x192002)
def croftref11_NoFit.l0 : Nat → List (S49) → Int → Int → Int → Int → Int → Int → Int → Option (Bool)
 | 0, _, _, _, _, _, _, _, _ => none
 | k + 1, x2, x3, x9, x10, x11, x192000, x192001, x192002 => if x11 < x10 then ((croftref11_taken.f k (IntKind.u64.wrap (x192000 + x11)) x9 x2).bind fun t197 => (if t197 = true then (croftref11_NoFit.l0 k x2 x3 x9 x10 (IntKind.u64.wrap (x11 + x9)) x192000 x192001 x192002) else (some false))) else (if x3 ≥ 4096 then (some true) else (croftref11_NoFit.l1 k x2 x3 x10 0 x192000 x192001 x192002))
def croftref11_NoFit.l1 : Nat → List (S49) → Int → Int → Int → Int → Int → Int → Option (Bool)
 | 0, _, _, _, _, _, _, _ => none
 | k + 1, x2, x3, x10, x12, x192000, x192001, x192002 => if x12 < x10 then (croftref11_NoFit.l2 k x2 x3 x10 x12 false 0 0 x192000 x192001 x192002) else (some true)
def croftref11_NoFit.l2 : Nat → List (S49) → Int → Int → Int → Bool → Int → Int → Int → Int → Int → Option (Bool)
 | 0, _, _, _, _, _, _, _, _, _, _ => none
 | k + 1, x2, x3, x10, x12, x13, x14, x15, x192000, x192001, x192002 => if x15 < (x2.length : Int) then (if 0 ≤ x15 then ((croftref11_Meet.f (IntKind.u64.wrap (x192000 + x12)) 4096 ((rd_T49 x2 x15).f0) ((rd_T49 x2 x15).f1)).bind fun t199 => (if t199 = true then (if x13 = true then (croftref11_NoFit.l2 k x2 x3 x10 x12 true (IntKind.u64.wrap (x14 + ((rd_T49 x2 x15).f1))) (wrap64 (x15 + 1)) x192000 x192001 x192002) else (croftref11_NoFit.l2 k x2 x3 x10 x12 (((rd_T49 x2 x15).f1) == x3) (IntKind.u64.wrap (x14 + ((rd_T49 x2 x15).f1))) (wrap64 (x15 + 1)) x192000 x192001 x192002)) else (croftref11_NoFit.l2 k x2 x3 x10 x12 x13 x14 (wrap64 (x15 + 1)) x192000 x192001 x192002))) else (none)) else (if x13 = true then (if x14 < 4096 then (some false) else (croftref11_NoFit.l1 k x2 x3 x10 (IntKind.u64.wrap (x12 + 4096)) x192000 x192001 x192002)) else (croftref11_NoFit.l1 k x2 x3 x10 (IntKind.u64.wrap (x12 + 4096)) x192000 x192001 x192002))
end
def croftref11_NoFit.f (k : Nat) (a0_0 : Int) (a0_1 : Int) (a0_2 : Int) (a1 : Int) (l2 : List (S49)) (a3 : Int) : Option (Bool) := (croftref11_May.f k a0_0 a0_1 a0_2).bind fun t192 => (if t192 = true then ((croftref11_Sound.f k a0_0 a0_1 a0_2 a1 l2).bind fun t193 => (if t193 = (-1) then ((croftref11_Power.f a3).bind fun t194 => (if t194 = true then (if a3 < 16 then (croftref11_NoFit.j0 k a1 l2 a3 true a0_0 a0_1 a0_2) else ((croftref11_R.f a0_0 a0_1 a0_2).bind fun t195 => (croftref11_NoFit.j0 k a1 l2 a3 (decide (a3 > t195)) a0_0 a0_1 a0_2))) else (croftref11_NoFit.j0 k a1 l2 a3 true a0_0 a0_1 a0_2))) else (croftref11_NoFit.j0 k a1 l2 a3 true a0_0 a0_1 a0_2))) else (croftref11_NoFit.j0 k a1 l2 a3 true a0_0 a0_1 a0_2))
theorem croftref11_NoFit.mono_l : ∀ k, (∀ y0 y1 y2 y3 y4 y5 y6, LeO (croftref11_NoFit.j0 k y0 y1 y2 y3 y4 y5 y6) (croftref11_NoFit.j0 (k + 1) y0 y1 y2 y3 y4 y5 y6)) ∧ (∀ y0 y1 y2 y3 y4 y5 y6, LeO (croftref11_NoFit.j1 k y0 y1 y2 y3 y4 y5 y6) (croftref11_NoFit.j1 (k + 1) y0 y1 y2 y3 y4 y5 y6)) ∧ (∀ y0 y1 y2 y3 y4 y5 y6 y7, LeO (croftref11_NoFit.l0 k y0 y1 y2 y3 y4 y5 y6 y7) (croftref11_NoFit.l0 (k + 1) y0 y1 y2 y3 y4 y5 y6 y7)) ∧ (∀ y0 y1 y2 y3 y4 y5 y6, LeO (croftref11_NoFit.l1 k y0 y1 y2 y3 y4 y5 y6) (croftref11_NoFit.l1 (k + 1) y0 y1 y2 y3 y4 y5 y6)) ∧ (∀ y0 y1 y2 y3 y4 y5 y6 y7 y8 y9, LeO (croftref11_NoFit.l2 k y0 y1 y2 y3 y4 y5 y6 y7 y8 y9) (croftref11_NoFit.l2 (k + 1) y0 y1 y2 y3 y4 y5 y6 y7 y8 y9))
 | 0 => ⟨fun _ _ _ _ _ _ _ r h => by simp [croftref11_NoFit.j0] at h, fun _ _ _ _ _ _ _ r h => by simp [croftref11_NoFit.j1] at h, fun _ _ _ _ _ _ _ _ r h => by simp [croftref11_NoFit.l0] at h, fun _ _ _ _ _ _ _ r h => by simp [croftref11_NoFit.l1] at h, fun _ _ _ _ _ _ _ _ _ _ r h => by simp [croftref11_NoFit.l2] at h⟩
 | k + 1 => by
  obtain ⟨ih0, ih1, ih2, ih3, ih4⟩ := croftref11_NoFit.mono_l k
  refine ⟨?_, ?_, ?_, ?_, ?_⟩
  ·intro y0 y1 y2 y3 y4 y5 y6
   unfold croftref11_NoFit.j0
   repeat' first
   | (with_reducible exact ih0 _ _ _ _ _ _ _)
   | (with_reducible exact ih1 _ _ _ _ _ _ _)
   | (with_reducible exact ih2 _ _ _ _ _ _ _ _)
   | (with_reducible exact ih3 _ _ _ _ _ _ _)
   | (with_reducible exact ih4 _ _ _ _ _ _ _ _ _ _)
   | (with_reducible exact croftref11_May.mono _ _ _ _)
   | (with_reducible exact croftref11_Sound.mono _ _ _ _ _ _)
   | (with_reducible exact croftref11_taken.mono _ _ _ _)
   | (with_reducible exact LeO.refl _)
   | (with_reducible exact LeO.none _)
   | (with_reducible refine LeO.ite ?_ ?_)
   | (with_reducible refine LeO.bind ?_ (fun _ => ?_))
   | exact ih0 _ _ _ _ _ _ _
   | exact ih1 _ _ _ _ _ _ _
   | exact ih2 _ _ _ _ _ _ _ _
   | exact ih3 _ _ _ _ _ _ _
   | exact ih4 _ _ _ _ _ _ _ _ _ _
   | exact croftref11_May.mono _ _ _ _
   | exact croftref11_Sound.mono _ _ _ _ _ _
   | exact croftref11_taken.mono _ _ _ _
   | exact LeO.none _
   | refine LeO.ite ?_ ?_
   | refine LeO.bind ?_ (fun _ => ?_)
  ·intro y0 y1 y2 y3 y4 y5 y6
   unfold croftref11_NoFit.j1
   repeat' first
   | (with_reducible exact ih0 _ _ _ _ _ _ _)
   | (with_reducible exact ih1 _ _ _ _ _ _ _)
   | (with_reducible exact ih2 _ _ _ _ _ _ _ _)
   | (with_reducible exact ih3 _ _ _ _ _ _ _)
   | (with_reducible exact ih4 _ _ _ _ _ _ _ _ _ _)
   | (with_reducible exact croftref11_May.mono _ _ _ _)
   | (with_reducible exact croftref11_Sound.mono _ _ _ _ _ _)
   | (with_reducible exact croftref11_taken.mono _ _ _ _)
   | (with_reducible exact LeO.refl _)
   | (with_reducible exact LeO.none _)
   | (with_reducible refine LeO.ite ?_ ?_)
   | (with_reducible refine LeO.bind ?_ (fun _ => ?_))
   | exact ih0 _ _ _ _ _ _ _
   | exact ih1 _ _ _ _ _ _ _
   | exact ih2 _ _ _ _ _ _ _ _
   | exact ih3 _ _ _ _ _ _ _
   | exact ih4 _ _ _ _ _ _ _ _ _ _
   | exact croftref11_May.mono _ _ _ _
   | exact croftref11_Sound.mono _ _ _ _ _ _
   | exact croftref11_taken.mono _ _ _ _
   | exact LeO.none _
   | refine LeO.ite ?_ ?_
   | refine LeO.bind ?_ (fun _ => ?_)
  ·intro y0 y1 y2 y3 y4 y5 y6 y7
   unfold croftref11_NoFit.l0
   repeat' first
   | (with_reducible exact ih0 _ _ _ _ _ _ _)
   | (with_reducible exact ih1 _ _ _ _ _ _ _)
   | (with_reducible exact ih2 _ _ _ _ _ _ _ _)
   | (with_reducible exact ih3 _ _ _ _ _ _ _)
   | (with_reducible exact ih4 _ _ _ _ _ _ _ _ _ _)
   | (with_reducible exact croftref11_May.mono _ _ _ _)
   | (with_reducible exact croftref11_Sound.mono _ _ _ _ _ _)
   | (with_reducible exact croftref11_taken.mono _ _ _ _)
   | (with_reducible exact LeO.refl _)
   | (with_reducible exact LeO.none _)
   | (with_reducible refine LeO.ite ?_ ?_)
   | (with_reducible refine LeO.bind ?_ (fun _ => ?_))
   | exact ih0 _ _ _ _ _ _ _
   | exact ih1 _ _ _ _ _ _ _
   | exact ih2 _ _ _ _ _ _ _ _
   | exact ih3 _ _ _ _ _ _ _
   | exact ih4 _ _ _ _ _ _ _ _ _ _
   | exact croftref11_May.mono _ _ _ _
   | exact croftref11_Sound.mono _ _ _ _ _ _
   | exact croftref11_taken.mono _ _ _ _
   | exact LeO.none _
   | refine LeO.ite ?_ ?_
   | refine LeO.bind ?_ (fun _ => ?_)
  ·intro y0 y1 y2 y3 y4 y5 y6
   unfold croftref11_NoFit.l1
   repeat' first
   | (with_reducible exact ih0 _ _ _ _ _ _ _)
   | (with_reducible exact ih1 _ _ _ _ _ _ _)
   | (with_reducible exact ih2 _ _ _ _ _ _ _ _)
   | (with_reducible exact ih3 _ _ _ _ _ _ _)
   | (with_reducible exact ih4 _ _ _ _ _ _ _ _ _ _)
   | (with_reducible exact croftref11_May.mono _ _ _ _)
   | (with_reducible exact croftref11_Sound.mono _ _ _ _ _ _)
   | (with_reducible exact croftref11_taken.mono _ _ _ _)
   | (with_reducible exact LeO.refl _)
   | (with_reducible exact LeO.none _)
   | (with_reducible refine LeO.ite ?_ ?_)
   | (with_reducible refine LeO.bind ?_ (fun _ => ?_))
   | exact ih0 _ _ _ _ _ _ _
   | exact ih1 _ _ _ _ _ _ _
   | exact ih2 _ _ _ _ _ _ _ _
   | exact ih3 _ _ _ _ _ _ _
   | exact ih4 _ _ _ _ _ _ _ _ _ _
   | exact croftref11_May.mono _ _ _ _
   | exact croftref11_Sound.mono _ _ _ _ _ _
   | exact croftref11_taken.mono _ _ _ _
   | exact LeO.none _
   | refine LeO.ite ?_ ?_
   | refine LeO.bind ?_ (fun _ => ?_)
  ·intro y0 y1 y2 y3 y4 y5 y6 y7 y8 y9
   unfold croftref11_NoFit.l2
   repeat' first
   | (with_reducible exact ih0 _ _ _ _ _ _ _)
   | (with_reducible exact ih1 _ _ _ _ _ _ _)
   | (with_reducible exact ih2 _ _ _ _ _ _ _ _)
   | (with_reducible exact ih3 _ _ _ _ _ _ _)
   | (with_reducible exact ih4 _ _ _ _ _ _ _ _ _ _)
   | (with_reducible exact croftref11_May.mono _ _ _ _)
   | (with_reducible exact croftref11_Sound.mono _ _ _ _ _ _)
   | (with_reducible exact croftref11_taken.mono _ _ _ _)
   | (with_reducible exact LeO.refl _)
   | (with_reducible exact LeO.none _)
   | (with_reducible refine LeO.ite ?_ ?_)
   | (with_reducible refine LeO.bind ?_ (fun _ => ?_))
   | exact ih0 _ _ _ _ _ _ _
   | exact ih1 _ _ _ _ _ _ _
   | exact ih2 _ _ _ _ _ _ _ _
   | exact ih3 _ _ _ _ _ _ _
   | exact ih4 _ _ _ _ _ _ _ _ _ _
   | exact croftref11_May.mono _ _ _ _
   | exact croftref11_Sound.mono _ _ _ _ _ _
   | exact croftref11_taken.mono _ _ _ _
   | exact LeO.none _
   | refine LeO.ite ?_ ?_
   | refine LeO.bind ?_ (fun _ => ?_)
theorem croftref11_NoFit.mono : ∀ a0 a1 a2 a3 a4 a5 k, LeO (croftref11_NoFit.f k a0 a1 a2 a3 a4 a5) (croftref11_NoFit.f (k + 1) a0 a1 a2 a3 a4 a5) := by
 intro a0 a1 a2 a3 a4 a5 k
 obtain ⟨ih0, ih1, ih2, ih3, ih4⟩ := croftref11_NoFit.mono_l k
 unfold croftref11_NoFit.f
 repeat' first
   | (with_reducible exact ih0 _ _ _ _ _ _ _)
   | (with_reducible exact ih1 _ _ _ _ _ _ _)
   | (with_reducible exact ih2 _ _ _ _ _ _ _ _)
   | (with_reducible exact ih3 _ _ _ _ _ _ _)
   | (with_reducible exact ih4 _ _ _ _ _ _ _ _ _ _)
   | (with_reducible exact croftref11_May.mono _ _ _ _)
   | (with_reducible exact croftref11_Sound.mono _ _ _ _ _ _)
   | (with_reducible exact croftref11_taken.mono _ _ _ _)
   | (with_reducible exact LeO.refl _)
   | (with_reducible exact LeO.none _)
   | (with_reducible refine LeO.ite ?_ ?_)
   | (with_reducible refine LeO.bind ?_ (fun _ => ?_))
   | exact ih0 _ _ _ _ _ _ _
   | exact ih1 _ _ _ _ _ _ _
   | exact ih2 _ _ _ _ _ _ _ _
   | exact ih3 _ _ _ _ _ _ _
   | exact ih4 _ _ _ _ _ _ _ _ _ _
   | exact croftref11_May.mono _ _ _ _
   | exact croftref11_Sound.mono _ _ _ _ _ _
   | exact croftref11_taken.mono _ _ _ _
   | exact LeO.none _
   | refine LeO.ite ?_ ?_
   | refine LeO.bind ?_ (fun _ => ?_)
def croftref11_NoFit.T22 : Bool × List (List Nat × List Nat) := (true, [([], []), ([0], [0]), ([], []), ([1, 2], [1, 2]), ([3], [3]), ([], []), ([], []), ([5, 6], [5, 6]), ([7], [7]), ([4, 8], [4, 8])])
def croftref11_NoFit.B22 : List Nat := [0, 1, 0, 7, 15, 0, 0, 96, 224, 511]
theorem croftref11_NoFit.tab22 : rtab .any (opsOf Try.f27 22) = croftref11_NoFit.T22 := by kernel_rfl
theorem croftref11_NoFit.bits22 : waitsOk croftref11_NoFit.T22.2 croftref11_NoFit.B22 = true := by kernel_rfl
set_option maxHeartbeats 8000000 in
set_option maxRecDepth 100000 in
theorem croftref11_NoFit.calls (k : Nat) (a0_0 : Int) (a0_1 : Int) (a0_2 : Int) (a1 : Int) (A2 : Option Addr) (c2 : Nat) (l2 : List (S49)) (a3 : Int) (r : Bool) (w : World) (hr2 : Kd.C k49 w A2 l2.length l2) (hc2 : l2.length ≤ c2) (h : croftref11_NoFit.f k a0_0 a0_1 a0_2 a1 l2 a3 = some r) :
  Calls Try.prog 27 #[.agg #[.int .u64 a0_0, .int .i64 a0_1, .int .i64 a0_2], .int .i64 a1, .slice A2 l2.length c2, .int .u64 a3] w fun e w' => e = .returned (.bool r) ∧ Below w.heap.size w w' := by
 have hu24 := Try.underlying24
 have hu49 := Try.underlying49
 have HR2 := Aside0.mk hr2
 have HC2 := Aside0.mk hc2
 clear hr2 hc2
 have HB := Aside0.mk (Below.refl w.heap.size w)
 have H : ((croftref11_May.f k a0_0 a0_1 a0_2).bind fun t192 => (if t192 = true then ((croftref11_Sound.f k a0_0 a0_1 a0_2 a1 l2).bind fun t193 => (if t193 = (-1) then ((croftref11_Power.f a3).bind fun t194 => (if t194 = true then (if a3 < 16 then (croftref11_NoFit.j0 k a1 l2 a3 true a0_0 a0_1 a0_2) else ((croftref11_R.f a0_0 a0_1 a0_2).bind fun t195 => (croftref11_NoFit.j0 k a1 l2 a3 (decide (a3 > t195)) a0_0 a0_1 a0_2))) else (croftref11_NoFit.j0 k a1 l2 a3 true a0_0 a0_1 a0_2))) else (croftref11_NoFit.j0 k a1 l2 a3 true a0_0 a0_1 a0_2))) else (croftref11_NoFit.j0 k a1 l2 a3 true a0_0 a0_1 a0_2))) = some r := h
 clear h
 have HC5 := Aside0.mk H
 clear H
 go_enter Try.func27, Try.ntmps27
 go_upto_region 1 with (first | ((with_reducible refine gate_dst (N := 4) rfl ?_); refine box_event ?hg (N := 4) ?hd (cs := #[.int .u64 a0_0, .int .i64 a0_1, .int .i64 a0_2]) (t := 24) ?hr ?_; (case hd => rfl); (case hg => rfl); (case hr => first | (go_simp; done) | (go_simp; rfl)); intro gb191 hg w6 hbox hb; have n0_ := Aside0.mk (below_step (by repeat (first | (with_reducible first | exact HB.out | apply below_alloc | apply pw_below_drewN | apply below_drew1) | exact HB.out)) hb); have n1_ := Aside0.mk (hbox); have n2_ := Aside0.mk ((by rw [hg]; exact (below_size (by repeat (first | (with_reducible first | exact HB.out | apply below_alloc | apply pw_below_drewN | apply below_drew1) | exact HB.out))) : w.heap.size ≤ gb191)); have n3_ := Aside0.mk ((by rw [hg]; exact (below_size (by repeat (first | (with_reducible first | exact HB.out | apply below_alloc | apply pw_below_drewN | apply below_drew1) | exact HB.out))) : w.heap.size ≤ gb191)); clear HB; have HB := n0_; have BK191 := n1_; have GW191 := n2_; have GE191 := n3_; clear n0_ n1_ n2_ n3_; clear hb hbox hg))
 (try simp only [Act.put, Sa, Sb, Sc])
 go_cut [40] (fun v40 wc => ∃ (kq : Nat) (x40_4 : Bool), v40 = .bool x40_4 ∧ Aside0 (croftref11_NoFit.j0 kq a1 l2 a3 x40_4 a0_0 a0_1 a0_2 = some r) ∧ Aside0 (kq ≤ k) ∧ Aside0 (wc.heap[gb191]? = some (.cells #[.int .u64 a0_0, .int .i64 a0_1, .int .i64 a0_2] 24 (0, 0))) ∧ Aside0 (Below w.heap.size w wc))
 case first =>
  have H := HC5.out
  clear HC5
  replace H := Option.bind_eq_some_iff.mp H
  obtain ⟨t192, A70, H⟩ := H
  replace H : (if t192 = true then ((croftref11_Sound.f k a0_0 a0_1 a0_2 a1 l2).bind fun t193 => (if t193 = (-1) then ((croftref11_Power.f a3).bind fun t194 => (if t194 = true then (if a3 < 16 then (croftref11_NoFit.j0 k a1 l2 a3 true a0_0 a0_1 a0_2) else ((croftref11_R.f a0_0 a0_1 a0_2).bind fun t195 => (croftref11_NoFit.j0 k a1 l2 a3 (decide (a3 > t195)) a0_0 a0_1 a0_2))) else (croftref11_NoFit.j0 k a1 l2 a3 true a0_0 a0_1 a0_2))) else (croftref11_NoFit.j0 k a1 l2 a3 true a0_0 a0_1 a0_2))) else (croftref11_NoFit.j0 k a1 l2 a3 true a0_0 a0_1 a0_2)) = some r := H
  have A7 := Aside0.mk A70
  clear A70
  by_cases c8 : t192 = true
  ·subst c8
   have H1 : ((croftref11_Sound.f k a0_0 a0_1 a0_2 a1 l2).bind fun t193 => (if t193 = (-1) then ((croftref11_Power.f a3).bind fun t194 => (if t194 = true then (if a3 < 16 then (croftref11_NoFit.j0 k a1 l2 a3 true a0_0 a0_1 a0_2) else ((croftref11_R.f a0_0 a0_1 a0_2).bind fun t195 => (croftref11_NoFit.j0 k a1 l2 a3 (decide (a3 > t195)) a0_0 a0_1 a0_2))) else (croftref11_NoFit.j0 k a1 l2 a3 true a0_0 a0_1 a0_2))) else (croftref11_NoFit.j0 k a1 l2 a3 true a0_0 a0_1 a0_2))) = some r := by rw [if_pos rfl] at H; exact H
   clear H
   have H := H1
   clear H1
   replace H := Option.bind_eq_some_iff.mp H
   obtain ⟨t193, A90, H⟩ := H
   replace H : (if t193 = (-1) then ((croftref11_Power.f a3).bind fun t194 => (if t194 = true then (if a3 < 16 then (croftref11_NoFit.j0 k a1 l2 a3 true a0_0 a0_1 a0_2) else ((croftref11_R.f a0_0 a0_1 a0_2).bind fun t195 => (croftref11_NoFit.j0 k a1 l2 a3 (decide (a3 > t195)) a0_0 a0_1 a0_2))) else (croftref11_NoFit.j0 k a1 l2 a3 true a0_0 a0_1 a0_2))) else (croftref11_NoFit.j0 k a1 l2 a3 true a0_0 a0_1 a0_2)) = some r := H
   have A9 := Aside0.mk A90
   clear A90
   by_cases c10 : t193 = (-1)
   ·rw [if_pos c10] at H
    have c10b0 : (t193 == (-1)) = true := beq_iff_eq.mpr c10
    have c10b1 : (t193 != (-1)) = false := bne_eq_false_iff_eq.mpr c10
    clear c10
    (first | rw [c10b0] | (simp only [i64_w, i32_w]; rw [c10b0]) | skip)
    replace H := Option.bind_eq_some_iff.mp H
    obtain ⟨t194, A110, H⟩ := H
    replace H : (if t194 = true then (if a3 < 16 then (croftref11_NoFit.j0 k a1 l2 a3 true a0_0 a0_1 a0_2) else ((croftref11_R.f a0_0 a0_1 a0_2).bind fun t195 => (croftref11_NoFit.j0 k a1 l2 a3 (decide (a3 > t195)) a0_0 a0_1 a0_2))) else (croftref11_NoFit.j0 k a1 l2 a3 true a0_0 a0_1 a0_2)) = some r := H
    have A11 := Aside0.mk A110
    clear A110
    by_cases c12 : t194 = true
    ·subst c12
     have H1 : (if a3 < 16 then (croftref11_NoFit.j0 k a1 l2 a3 true a0_0 a0_1 a0_2) else ((croftref11_R.f a0_0 a0_1 a0_2).bind fun t195 => (croftref11_NoFit.j0 k a1 l2 a3 (decide (a3 > t195)) a0_0 a0_1 a0_2))) = some r := by rw [if_pos rfl] at H; exact H
     clear H
     have H := H1
     clear H1
     by_cases c13 : a3 < 16
     ·rw [if_pos c13] at H
      have c13b0 : decide (a3 < 16) = true := decide_eq_true c13
      clear c13
      have H' := Aside0.mk H
      clear H
      have hcz14_0 : w6.cell? ⟨gb191, 0, none⟩ = some (.int .u64 a0_0) := (blk_cell BK191.out 0).trans rfl
      have hcz14_1 : w6.cell? ⟨gb191, 1, none⟩ = some (.int .i64 a0_1) := (blk_cell BK191.out 1).trans rfl
      have hcz14_2 : w6.cell? ⟨gb191, 2, none⟩ = some (.int .i64 a0_2) := (blk_cell BK191.out 2).trans rfl
      have hfz14_0 := blk_frozen BK191.out 0
      have hfz14_1 := blk_frozen BK191.out 1
      have hfz14_2 := blk_frozen BK191.out 2
      go_wp2_with (first | ((with_reducible refine gate_callee (f := 25) rfl ?_); refine goesL_ (some 17) rfl rfl Try.func25 (by kernel_rfl) rfl #[.agg #[.int .u64 a0_0, .int .i64 a0_1, .int .i64 a0_2]] rfl (by (try simp only [List.map_toArray, List.map_cons, List.map_nil]); first | done | rfl | (simp only [List.length_drop, List.length_take]; rfl)) ?_; (with_reducible refine (croftref11_May.calls k a0_0 a0_1 a0_2 true _ A7.out).mono ?_); rintro e w15 ⟨rfl, hb⟩; refine ⟨_, rfl, ?_⟩; have n0_ := Aside0.mk (blk_below (g := gb191) (o := .cells #[.int .u64 a0_0, .int .i64 a0_1, .int .i64 a0_2] 24 (0, 0)) (by (with_reducible repeat (first | refine blk_drewN ?_ _ | refine blk_drew ?_ | refine blk_alloc ?_ _)); exact BK191.out) hb); have n1_ := Aside0.mk (below_step (by repeat (first | (with_reducible first | exact HB.out | apply below_alloc | apply pw_below_drewN | apply below_drew1 | refine below_set ?_ GE191.out) | exact HB.out)) hb); clear BK191; clear HB; have BK191 := n0_; have HB := n1_; clear n0_ n1_; (try clear hb); (try clear hb2); (try clear hk); (try clear hi); have hcz16_0 : w15.cell? ⟨gb191, 0, none⟩ = some (.int .u64 a0_0) := (blk_cell BK191.out 0).trans rfl; have hcz16_1 : w15.cell? ⟨gb191, 1, none⟩ = some (.int .i64 a0_1) := (blk_cell BK191.out 1).trans rfl; have hcz16_2 : w15.cell? ⟨gb191, 2, none⟩ = some (.int .i64 a0_2) := (blk_cell BK191.out 2).trans rfl; have hfz16_0 := blk_frozen BK191.out 0; have hfz16_1 := blk_frozen BK191.out 1; have hfz16_2 := blk_frozen BK191.out 2) | (go_at_call 16; (with_reducible refine (croftref11_Sound.calls k a0_0 a0_1 a0_2 a1 _ _ l2 t193 _ ?side1 ?side2 A9.out).mono ?_); (case side1 => repeat (first | exact (Kd.C_below HR2.out HB.out) | (with_reducible refine Kd.C_alloc ?_ _) | (with_reducible refine Kd.C_drewN ?_ _) | (with_reducible refine Kd.C_drew ?_))); (case side2 => exact HC2.out); rintro e w17 ⟨rfl, hb⟩; have n0_ := Aside0.mk (blk_below (g := gb191) (o := .cells #[.int .u64 a0_0, .int .i64 a0_1, .int .i64 a0_2] 24 (0, 0)) (by (with_reducible repeat (first | refine blk_drewN ?_ _ | refine blk_drew ?_ | refine blk_alloc ?_ _)); exact BK191.out) hb); have n1_ := Aside0.mk (below_step (by repeat (first | (with_reducible first | exact HB.out | apply below_alloc | apply pw_below_drewN | apply below_drew1 | refine below_set ?_ GE191.out) | exact HB.out)) hb); clear BK191; clear HB; have BK191 := n0_; have HB := n1_; clear n0_ n1_; (try clear hb); (try clear hb2); (try clear hk); (try clear hi)) | (go_at_call 26; (with_reducible refine (croftref11_Power.calls a3 true _ A11.out).mono ?_); rintro e w' ⟨rfl, ⟨nd, rfl⟩⟩))
      go_meet
      case rel => exact ⟨_, (true), (by first | rfl | (simp; done) | (simp [*]; done)), H', ⟨by first | omega | exact Nat.le_refl _⟩, ⟨by (with_reducible repeat (first | refine blk_drewN ?_ _ | refine blk_drew ?_ | refine blk_alloc ?_ _)); exact BK191.out⟩, ⟨by repeat (first | (with_reducible first | exact HB.out | apply below_alloc | apply pw_below_drewN | apply below_drew1 | refine below_set ?_ GE191.out) | exact HB.out)⟩⟩
     ·rw [if_neg c13] at H
      have c13b0 : decide (a3 < 16) = false := decide_eq_false c13
      clear c13
      replace H := Option.bind_eq_some_iff.mp H
      obtain ⟨t195, A180, H⟩ := H
      replace H : (croftref11_NoFit.j0 k a1 l2 a3 (decide (a3 > t195)) a0_0 a0_1 a0_2) = some r := H
      have A18 := Aside0.mk A180
      clear A180
      have H' := Aside0.mk H
      clear H
      have hcz19_0 : w6.cell? ⟨gb191, 0, none⟩ = some (.int .u64 a0_0) := (blk_cell BK191.out 0).trans rfl
      have hcz19_1 : w6.cell? ⟨gb191, 1, none⟩ = some (.int .i64 a0_1) := (blk_cell BK191.out 1).trans rfl
      have hcz19_2 : w6.cell? ⟨gb191, 2, none⟩ = some (.int .i64 a0_2) := (blk_cell BK191.out 2).trans rfl
      have hfz19_0 := blk_frozen BK191.out 0
      have hfz19_1 := blk_frozen BK191.out 1
      have hfz19_2 := blk_frozen BK191.out 2
      go_wp2_with (first | ((with_reducible refine gate_callee (f := 25) rfl ?_); refine goesL_ (some 17) rfl rfl Try.func25 (by kernel_rfl) rfl #[.agg #[.int .u64 a0_0, .int .i64 a0_1, .int .i64 a0_2]] rfl (by (try simp only [List.map_toArray, List.map_cons, List.map_nil]); first | done | rfl | (simp only [List.length_drop, List.length_take]; rfl)) ?_; (with_reducible refine (croftref11_May.calls k a0_0 a0_1 a0_2 true _ A7.out).mono ?_); rintro e w20 ⟨rfl, hb⟩; refine ⟨_, rfl, ?_⟩; have n0_ := Aside0.mk (blk_below (g := gb191) (o := .cells #[.int .u64 a0_0, .int .i64 a0_1, .int .i64 a0_2] 24 (0, 0)) (by (with_reducible repeat (first | refine blk_drewN ?_ _ | refine blk_drew ?_ | refine blk_alloc ?_ _)); exact BK191.out) hb); have n1_ := Aside0.mk (below_step (by repeat (first | (with_reducible first | exact HB.out | apply below_alloc | apply pw_below_drewN | apply below_drew1 | refine below_set ?_ GE191.out) | exact HB.out)) hb); clear BK191; clear HB; have BK191 := n0_; have HB := n1_; clear n0_ n1_; (try clear hb); (try clear hb2); (try clear hk); (try clear hi); have hcz21_0 : w20.cell? ⟨gb191, 0, none⟩ = some (.int .u64 a0_0) := (blk_cell BK191.out 0).trans rfl; have hcz21_1 : w20.cell? ⟨gb191, 1, none⟩ = some (.int .i64 a0_1) := (blk_cell BK191.out 1).trans rfl; have hcz21_2 : w20.cell? ⟨gb191, 2, none⟩ = some (.int .i64 a0_2) := (blk_cell BK191.out 2).trans rfl; have hfz21_0 := blk_frozen BK191.out 0; have hfz21_1 := blk_frozen BK191.out 1; have hfz21_2 := blk_frozen BK191.out 2) | (go_at_call 16; (with_reducible refine (croftref11_Sound.calls k a0_0 a0_1 a0_2 a1 _ _ l2 t193 _ ?side1 ?side2 A9.out).mono ?_); (case side1 => repeat (first | exact (Kd.C_below HR2.out HB.out) | (with_reducible refine Kd.C_alloc ?_ _) | (with_reducible refine Kd.C_drewN ?_ _) | (with_reducible refine Kd.C_drew ?_))); (case side2 => exact HC2.out); rintro e w22 ⟨rfl, hb⟩; have n0_ := Aside0.mk (blk_below (g := gb191) (o := .cells #[.int .u64 a0_0, .int .i64 a0_1, .int .i64 a0_2] 24 (0, 0)) (by (with_reducible repeat (first | refine blk_drewN ?_ _ | refine blk_drew ?_ | refine blk_alloc ?_ _)); exact BK191.out) hb); have n1_ := Aside0.mk (below_step (by repeat (first | (with_reducible first | exact HB.out | apply below_alloc | apply pw_below_drewN | apply below_drew1 | refine below_set ?_ GE191.out) | exact HB.out)) hb); clear BK191; clear HB; have BK191 := n0_; have HB := n1_; clear n0_ n1_; (try clear hb); (try clear hb2); (try clear hk); (try clear hi)) | (go_at_call 26; (with_reducible refine (croftref11_Power.calls a3 true _ A11.out).mono ?_); rintro e w' ⟨rfl, ⟨nd, rfl⟩⟩; have hcz23_0 : w22.cell? ⟨gb191, 0, none⟩ = some (.int .u64 a0_0) := (blk_cell BK191.out 0).trans rfl; have hcz23_1 : w22.cell? ⟨gb191, 1, none⟩ = some (.int .i64 a0_1) := (blk_cell BK191.out 1).trans rfl; have hcz23_2 : w22.cell? ⟨gb191, 2, none⟩ = some (.int .i64 a0_2) := (blk_cell BK191.out 2).trans rfl; have hfz23_0 := blk_frozen BK191.out 0; have hfz23_1 := blk_frozen BK191.out 1; have hfz23_2 := blk_frozen BK191.out 2) | (go_at_call 24; (with_reducible refine (croftref11_R.calls a0_0 a0_1 a0_2 t195 _ A18.out).mono ?_); rintro e w24 ⟨rfl, hb⟩; have n0_ := Aside0.mk (blk_below (g := gb191) (o := .cells #[.int .u64 a0_0, .int .i64 a0_1, .int .i64 a0_2] 24 (0, 0)) (by (with_reducible repeat (first | refine blk_drewN ?_ _ | refine blk_drew ?_ | refine blk_alloc ?_ _)); exact BK191.out) hb); have n1_ := Aside0.mk (below_step (by repeat (first | (with_reducible first | exact HB.out | apply below_alloc | apply pw_below_drewN | apply below_drew1 | refine below_set ?_ GE191.out) | exact HB.out)) hb); clear BK191; clear HB; have BK191 := n0_; have HB := n1_; clear n0_ n1_; (try clear hb); (try clear hb2); (try clear hk); (try clear hi)))
      go_meet
      case rel => exact ⟨_, (decide (a3 > t195)), (by first | rfl | (simp; done) | (simp [*]; done)), H', ⟨by first | omega | exact Nat.le_refl _⟩, ⟨by (with_reducible repeat (first | refine blk_drewN ?_ _ | refine blk_drew ?_ | refine blk_alloc ?_ _)); exact BK191.out⟩, ⟨by repeat (first | (with_reducible first | exact HB.out | apply below_alloc | apply pw_below_drewN | apply below_drew1 | refine below_set ?_ GE191.out) | exact HB.out)⟩⟩
    ·replace c12 := Bool.eq_false_iff.mpr c12
     subst c12
     have H1 : (croftref11_NoFit.j0 k a1 l2 a3 true a0_0 a0_1 a0_2) = some r := by rw [if_neg (show ¬ (false = true) by decide)] at H; exact H
     clear H
     have H := H1
     clear H1
     have H' := Aside0.mk H
     clear H
     have hcz25_0 : w6.cell? ⟨gb191, 0, none⟩ = some (.int .u64 a0_0) := (blk_cell BK191.out 0).trans rfl
     have hcz25_1 : w6.cell? ⟨gb191, 1, none⟩ = some (.int .i64 a0_1) := (blk_cell BK191.out 1).trans rfl
     have hcz25_2 : w6.cell? ⟨gb191, 2, none⟩ = some (.int .i64 a0_2) := (blk_cell BK191.out 2).trans rfl
     have hfz25_0 := blk_frozen BK191.out 0
     have hfz25_1 := blk_frozen BK191.out 1
     have hfz25_2 := blk_frozen BK191.out 2
     go_wp2_with (first | ((with_reducible refine gate_callee (f := 25) rfl ?_); refine goesL_ (some 17) rfl rfl Try.func25 (by kernel_rfl) rfl #[.agg #[.int .u64 a0_0, .int .i64 a0_1, .int .i64 a0_2]] rfl (by (try simp only [List.map_toArray, List.map_cons, List.map_nil]); first | done | rfl | (simp only [List.length_drop, List.length_take]; rfl)) ?_; (with_reducible refine (croftref11_May.calls k a0_0 a0_1 a0_2 true _ A7.out).mono ?_); rintro e w26 ⟨rfl, hb⟩; refine ⟨_, rfl, ?_⟩; have n0_ := Aside0.mk (blk_below (g := gb191) (o := .cells #[.int .u64 a0_0, .int .i64 a0_1, .int .i64 a0_2] 24 (0, 0)) (by (with_reducible repeat (first | refine blk_drewN ?_ _ | refine blk_drew ?_ | refine blk_alloc ?_ _)); exact BK191.out) hb); have n1_ := Aside0.mk (below_step (by repeat (first | (with_reducible first | exact HB.out | apply below_alloc | apply pw_below_drewN | apply below_drew1 | refine below_set ?_ GE191.out) | exact HB.out)) hb); clear BK191; clear HB; have BK191 := n0_; have HB := n1_; clear n0_ n1_; (try clear hb); (try clear hb2); (try clear hk); (try clear hi); have hcz27_0 : w26.cell? ⟨gb191, 0, none⟩ = some (.int .u64 a0_0) := (blk_cell BK191.out 0).trans rfl; have hcz27_1 : w26.cell? ⟨gb191, 1, none⟩ = some (.int .i64 a0_1) := (blk_cell BK191.out 1).trans rfl; have hcz27_2 : w26.cell? ⟨gb191, 2, none⟩ = some (.int .i64 a0_2) := (blk_cell BK191.out 2).trans rfl; have hfz27_0 := blk_frozen BK191.out 0; have hfz27_1 := blk_frozen BK191.out 1; have hfz27_2 := blk_frozen BK191.out 2) | (go_at_call 16; (with_reducible refine (croftref11_Sound.calls k a0_0 a0_1 a0_2 a1 _ _ l2 t193 _ ?side1 ?side2 A9.out).mono ?_); (case side1 => repeat (first | exact (Kd.C_below HR2.out HB.out) | (with_reducible refine Kd.C_alloc ?_ _) | (with_reducible refine Kd.C_drewN ?_ _) | (with_reducible refine Kd.C_drew ?_))); (case side2 => exact HC2.out); rintro e w28 ⟨rfl, hb⟩; have n0_ := Aside0.mk (blk_below (g := gb191) (o := .cells #[.int .u64 a0_0, .int .i64 a0_1, .int .i64 a0_2] 24 (0, 0)) (by (with_reducible repeat (first | refine blk_drewN ?_ _ | refine blk_drew ?_ | refine blk_alloc ?_ _)); exact BK191.out) hb); have n1_ := Aside0.mk (below_step (by repeat (first | (with_reducible first | exact HB.out | apply below_alloc | apply pw_below_drewN | apply below_drew1 | refine below_set ?_ GE191.out) | exact HB.out)) hb); clear BK191; clear HB; have BK191 := n0_; have HB := n1_; clear n0_ n1_; (try clear hb); (try clear hb2); (try clear hk); (try clear hi)) | (go_at_call 26; (with_reducible refine (croftref11_Power.calls a3 false _ A11.out).mono ?_); rintro e w' ⟨rfl, ⟨nd, rfl⟩⟩))
     go_meet
     case rel => exact ⟨_, (true), (by first | rfl | (simp; done) | (simp [*]; done)), H', ⟨by first | omega | exact Nat.le_refl _⟩, ⟨by (with_reducible repeat (first | refine blk_drewN ?_ _ | refine blk_drew ?_ | refine blk_alloc ?_ _)); exact BK191.out⟩, ⟨by repeat (first | (with_reducible first | exact HB.out | apply below_alloc | apply pw_below_drewN | apply below_drew1 | refine below_set ?_ GE191.out) | exact HB.out)⟩⟩
   ·rw [if_neg c10] at H
    have c10b0 : (t193 == (-1)) = false := beq_eq_false_iff_ne.mpr c10
    have c10b1 : (t193 != (-1)) = true := bne_iff_ne.mpr c10
    (first | rw [c10b0] | (simp only [i64_w, i32_w]; rw [c10b0]) | skip)
    have H' := Aside0.mk H
    clear H
    have hcz29_0 : w6.cell? ⟨gb191, 0, none⟩ = some (.int .u64 a0_0) := (blk_cell BK191.out 0).trans rfl
    have hcz29_1 : w6.cell? ⟨gb191, 1, none⟩ = some (.int .i64 a0_1) := (blk_cell BK191.out 1).trans rfl
    have hcz29_2 : w6.cell? ⟨gb191, 2, none⟩ = some (.int .i64 a0_2) := (blk_cell BK191.out 2).trans rfl
    have hfz29_0 := blk_frozen BK191.out 0
    have hfz29_1 := blk_frozen BK191.out 1
    have hfz29_2 := blk_frozen BK191.out 2
    go_wp2_with (first | ((with_reducible refine gate_callee (f := 25) rfl ?_); refine goesL_ (some 17) rfl rfl Try.func25 (by kernel_rfl) rfl #[.agg #[.int .u64 a0_0, .int .i64 a0_1, .int .i64 a0_2]] rfl (by (try simp only [List.map_toArray, List.map_cons, List.map_nil]); first | done | rfl | (simp only [List.length_drop, List.length_take]; rfl)) ?_; (with_reducible refine (croftref11_May.calls k a0_0 a0_1 a0_2 true _ A7.out).mono ?_); rintro e w30 ⟨rfl, hb⟩; refine ⟨_, rfl, ?_⟩; have n0_ := Aside0.mk (blk_below (g := gb191) (o := .cells #[.int .u64 a0_0, .int .i64 a0_1, .int .i64 a0_2] 24 (0, 0)) (by (with_reducible repeat (first | refine blk_drewN ?_ _ | refine blk_drew ?_ | refine blk_alloc ?_ _)); exact BK191.out) hb); have n1_ := Aside0.mk (below_step (by repeat (first | (with_reducible first | exact HB.out | apply below_alloc | apply pw_below_drewN | apply below_drew1 | refine below_set ?_ GE191.out) | exact HB.out)) hb); clear BK191; clear HB; have BK191 := n0_; have HB := n1_; clear n0_ n1_; (try clear hb); (try clear hb2); (try clear hk); (try clear hi); have hcz31_0 : w30.cell? ⟨gb191, 0, none⟩ = some (.int .u64 a0_0) := (blk_cell BK191.out 0).trans rfl; have hcz31_1 : w30.cell? ⟨gb191, 1, none⟩ = some (.int .i64 a0_1) := (blk_cell BK191.out 1).trans rfl; have hcz31_2 : w30.cell? ⟨gb191, 2, none⟩ = some (.int .i64 a0_2) := (blk_cell BK191.out 2).trans rfl; have hfz31_0 := blk_frozen BK191.out 0; have hfz31_1 := blk_frozen BK191.out 1; have hfz31_2 := blk_frozen BK191.out 2) | (go_at_call 16; (with_reducible refine (croftref11_Sound.calls k a0_0 a0_1 a0_2 a1 _ _ l2 t193 _ ?side1 ?side2 A9.out).mono ?_); (case side1 => repeat (first | exact (Kd.C_below HR2.out HB.out) | (with_reducible refine Kd.C_alloc ?_ _) | (with_reducible refine Kd.C_drewN ?_ _) | (with_reducible refine Kd.C_drew ?_))); (case side2 => exact HC2.out); rintro e w32 ⟨rfl, hb⟩; have n0_ := Aside0.mk (blk_below (g := gb191) (o := .cells #[.int .u64 a0_0, .int .i64 a0_1, .int .i64 a0_2] 24 (0, 0)) (by (with_reducible repeat (first | refine blk_drewN ?_ _ | refine blk_drew ?_ | refine blk_alloc ?_ _)); exact BK191.out) hb); have n1_ := Aside0.mk (below_step (by repeat (first | (with_reducible first | exact HB.out | apply below_alloc | apply pw_below_drewN | apply below_drew1 | refine below_set ?_ GE191.out) | exact HB.out)) hb); clear BK191; clear HB; have BK191 := n0_; have HB := n1_; clear n0_ n1_; (try clear hb); (try clear hb2); (try clear hk); (try clear hi)))
    go_meet
    case rel => exact ⟨_, (true), (by first | rfl | (simp; done) | (simp [*]; done)), H', ⟨by first | omega | exact Nat.le_refl _⟩, ⟨by (with_reducible repeat (first | refine blk_drewN ?_ _ | refine blk_drew ?_ | refine blk_alloc ?_ _)); exact BK191.out⟩, ⟨by repeat (first | (with_reducible first | exact HB.out | apply below_alloc | apply pw_below_drewN | apply below_drew1 | refine below_set ?_ GE191.out) | exact HB.out)⟩⟩
  ·replace c8 := Bool.eq_false_iff.mpr c8
   subst c8
   have H1 : (croftref11_NoFit.j0 k a1 l2 a3 true a0_0 a0_1 a0_2) = some r := by rw [if_neg (show ¬ (false = true) by decide)] at H; exact H
   clear H
   have H := H1
   clear H1
   have H' := Aside0.mk H
   clear H
   have hcz33_0 : w6.cell? ⟨gb191, 0, none⟩ = some (.int .u64 a0_0) := (blk_cell BK191.out 0).trans rfl
   have hcz33_1 : w6.cell? ⟨gb191, 1, none⟩ = some (.int .i64 a0_1) := (blk_cell BK191.out 1).trans rfl
   have hcz33_2 : w6.cell? ⟨gb191, 2, none⟩ = some (.int .i64 a0_2) := (blk_cell BK191.out 2).trans rfl
   have hfz33_0 := blk_frozen BK191.out 0
   have hfz33_1 := blk_frozen BK191.out 1
   have hfz33_2 := blk_frozen BK191.out 2
   go_wp2_with (first | ((with_reducible refine gate_callee (f := 25) rfl ?_); refine goesL_ (some 17) rfl rfl Try.func25 (by kernel_rfl) rfl #[.agg #[.int .u64 a0_0, .int .i64 a0_1, .int .i64 a0_2]] rfl (by (try simp only [List.map_toArray, List.map_cons, List.map_nil]); first | done | rfl | (simp only [List.length_drop, List.length_take]; rfl)) ?_; (with_reducible refine (croftref11_May.calls k a0_0 a0_1 a0_2 false _ A7.out).mono ?_); rintro e w34 ⟨rfl, hb⟩; refine ⟨_, rfl, ?_⟩; have n0_ := Aside0.mk (blk_below (g := gb191) (o := .cells #[.int .u64 a0_0, .int .i64 a0_1, .int .i64 a0_2] 24 (0, 0)) (by (with_reducible repeat (first | refine blk_drewN ?_ _ | refine blk_drew ?_ | refine blk_alloc ?_ _)); exact BK191.out) hb); have n1_ := Aside0.mk (below_step (by repeat (first | (with_reducible first | exact HB.out | apply below_alloc | apply pw_below_drewN | apply below_drew1 | refine below_set ?_ GE191.out) | exact HB.out)) hb); clear BK191; clear HB; have BK191 := n0_; have HB := n1_; clear n0_ n1_; (try clear hb); (try clear hb2); (try clear hk); (try clear hi)))
   go_meet
   case rel => exact ⟨_, (true), (by first | rfl | (simp; done) | (simp [*]; done)), H', ⟨by first | omega | exact Nat.le_refl _⟩, ⟨by (with_reducible repeat (first | refine blk_drewN ?_ _ | refine blk_drew ?_ | refine blk_alloc ?_ _)); exact BK191.out⟩, ⟨by repeat (first | (with_reducible first | exact HB.out | apply below_alloc | apply pw_below_drewN | apply below_drew1 | refine below_set ?_ GE191.out) | exact HB.out)⟩⟩
 case rest =>
  clear HC5
  try clear c1; try clear c2; try clear p2; try clear c8; try clear c10; try clear c10b0; try clear c10b1; try clear c12; try clear c13; try clear c13b0; try clear c25; try clear c27; try clear hcz14_0; try clear hcz14_1; try clear hcz14_2; try clear hcz16_0; try clear hcz16_1; try clear hcz16_2; try clear hcz19_0; try clear hcz19_1; try clear hcz19_2; try clear hcz21_0; try clear hcz21_1; try clear hcz21_2; try clear hcz23_0; try clear hcz23_1; try clear hcz23_2; try clear hcz25_0; try clear hcz25_1; try clear hcz25_2; try clear hcz27_0; try clear hcz27_1; try clear hcz27_2; try clear hcz29_0; try clear hcz29_1; try clear hcz29_2; try clear hcz31_0; try clear hcz31_1; try clear hcz31_2; try clear hcz33_0; try clear hcz33_1; try clear hcz33_2; try clear hfz14_0; try clear hfz14_1; try clear hfz14_2; try clear hfz16_0; try clear hfz16_1; try clear hfz16_2; try clear hfz19_0; try clear hfz19_1; try clear hfz19_2; try clear hfz21_0; try clear hfz21_1; try clear hfz21_2; try clear hfz23_0; try clear hfz23_1; try clear hfz23_2; try clear hfz25_0; try clear hfz25_1; try clear hfz25_2; try clear hfz27_0; try clear hfz27_1; try clear hfz27_2; try clear hfz29_0; try clear hfz29_1; try clear hfz29_2; try clear hfz31_0; try clear hfz31_1; try clear hfz31_2; try clear hfz33_0; try clear hfz33_1; try clear hfz33_2
  obtain ⟨kq, x40_4, rfl, HA, HJ4, BK191, HB⟩ := hcut
  cases kq with
  | zero => exact absurd HA.out (by simp [croftref11_NoFit.j0])
  | succ kj4 =>
   have H := HA.out
   clear HA
   simp only [croftref11_NoFit.j0] at H
   by_cases c35 : x40_4 = true
   ·subst c35
    have H1 : (some false) = some r := by rw [if_pos rfl] at H; exact H
    clear H
    have H := H1
    clear H1
    obtain rfl := Option.some.inj H
    go_wp2
    go_ret
    exact ⟨by first | rfl | (simp [errW_none, errW_some] <;> rfl) | (simp [*, errW_none, errW_some] <;> rfl), by repeat (first | (with_reducible first | exact HB.out | apply below_alloc | apply pw_below_drewN | apply below_drew1 | refine below_set ?_ GE191.out) | exact HB.out)⟩
   ·replace c35 := Bool.eq_false_iff.mpr c35
    subst c35
    have H1 : (if a3 < 4096 then (croftref11_NoFit.j1 kj4 a1 l2 a3 4096 a0_0 a0_1 a0_2) else (croftref11_NoFit.j1 kj4 a1 l2 a3 a3 a0_0 a0_1 a0_2)) = some r := by rw [if_neg (show ¬ (false = true) by decide)] at H; exact H
    clear H
    have H := H1
    clear H1
    have HC36 := Aside0.mk H
    clear H
    go_upto_if 43 with (fail)
    go_cut [9] (fun v9 wc => ∃ (kq : Nat) (x9_35 : Int), v9 = .int .u64 x9_35 ∧ Aside0 (croftref11_NoFit.j1 kq a1 l2 a3 x9_35 a0_0 a0_1 a0_2 = some r) ∧ Aside0 (kq ≤ kj4) ∧ Aside0 (wc.heap[gb191]? = some (.cells #[.int .u64 a0_0, .int .i64 a0_1, .int .i64 a0_2] 24 (0, 0))) ∧ Aside0 (Below w.heap.size w wc))
    case first =>
     have H := HC36.out
     clear HC36
     by_cases c37 : a3 < 4096
     ·rw [if_pos c37] at H
      have c37b0 : decide (a3 < 4096) = true := decide_eq_true c37
      clear c37
      (first | rw [c37b0] | (simp only [i64_w, i32_w]; rw [c37b0]) | skip)
      have H' := Aside0.mk H
      clear H
      go_wp2
      go_meet
      case rel => exact ⟨_, (4096), (by first | rfl | (simp; done) | (simp [*]; done)), H', ⟨by have := HJ4.out; first | omega | exact Nat.le_refl _⟩, ⟨by (with_reducible repeat (first | refine blk_drewN ?_ _ | refine blk_drew ?_ | refine blk_alloc ?_ _)); exact BK191.out⟩, ⟨by repeat (first | (with_reducible first | exact HB.out | apply below_alloc | apply pw_below_drewN | apply below_drew1 | refine below_set ?_ GE191.out) | exact HB.out)⟩⟩
     ·rw [if_neg c37] at H
      have c37b0 : decide (a3 < 4096) = false := decide_eq_false c37
      clear c37
      (first | rw [c37b0] | (simp only [i64_w, i32_w]; rw [c37b0]) | skip)
      have H' := Aside0.mk H
      clear H
      go_wp2
      go_meet
      case rel => exact ⟨_, (a3), (by first | rfl | (simp; done) | (simp [*]; done)), H', ⟨by have := HJ4.out; first | omega | exact Nat.le_refl _⟩, ⟨by (with_reducible repeat (first | refine blk_drewN ?_ _ | refine blk_drew ?_ | refine blk_alloc ?_ _)); exact BK191.out⟩, ⟨by repeat (first | (with_reducible first | exact HB.out | apply below_alloc | apply pw_below_drewN | apply below_drew1 | refine below_set ?_ GE191.out) | exact HB.out)⟩⟩
    case rest =>
     clear HC36
     try clear c1; try clear c2; try clear p2; try clear c3; try clear c8; try clear c10; try clear c10b0; try clear c10b1; try clear c12; try clear c13; try clear c13b0; try clear c25; try clear c27; try clear c35; try clear c37; try clear c37b0; try clear hcz14_0; try clear hcz14_1; try clear hcz14_2; try clear hcz16_0; try clear hcz16_1; try clear hcz16_2; try clear hcz19_0; try clear hcz19_1; try clear hcz19_2; try clear hcz21_0; try clear hcz21_1; try clear hcz21_2; try clear hcz23_0; try clear hcz23_1; try clear hcz23_2; try clear hcz25_0; try clear hcz25_1; try clear hcz25_2; try clear hcz27_0; try clear hcz27_1; try clear hcz27_2; try clear hcz29_0; try clear hcz29_1; try clear hcz29_2; try clear hcz31_0; try clear hcz31_1; try clear hcz31_2; try clear hcz33_0; try clear hcz33_1; try clear hcz33_2; try clear hfz14_0; try clear hfz14_1; try clear hfz14_2; try clear hfz16_0; try clear hfz16_1; try clear hfz16_2; try clear hfz19_0; try clear hfz19_1; try clear hfz19_2; try clear hfz21_0; try clear hfz21_1; try clear hfz21_2; try clear hfz23_0; try clear hfz23_1; try clear hfz23_2; try clear hfz25_0; try clear hfz25_1; try clear hfz25_2; try clear hfz27_0; try clear hfz27_1; try clear hfz27_2; try clear hfz29_0; try clear hfz29_1; try clear hfz29_2; try clear hfz31_0; try clear hfz31_1; try clear hfz31_2; try clear hfz33_0; try clear hfz33_1; try clear hfz33_2; try clear p2
     obtain ⟨kq, x9_35, rfl, HA, HJ35, BK191, HB⟩ := hcut
     cases kq with
     | zero => exact absurd HA.out (by simp [croftref11_NoFit.j1])
     | succ kj35 =>
      have H := HA.out
      clear HA
      simp only [croftref11_NoFit.j1] at H
      replace H := Option.bind_eq_some_iff.mp H
      obtain ⟨t196, A380, H⟩ := H
      replace H : (croftref11_NoFit.l0 kj35 l2 a3 x9_35 (IntKind.u64.wrap ((IntKind.u64.wrap (a1)) * t196)) 0 a0_0 a0_1 a0_2) = some r := H
      have A38 := Aside0.mk A380
      clear A380
      have H' := Aside0.mk H
      clear H
      have hcz39_0 : wc.cell? ⟨gb191, 0, none⟩ = some (.int .u64 a0_0) := (blk_cell BK191.out 0).trans rfl
      have hcz39_1 : wc.cell? ⟨gb191, 1, none⟩ = some (.int .i64 a0_1) := (blk_cell BK191.out 1).trans rfl
      have hcz39_2 : wc.cell? ⟨gb191, 2, none⟩ = some (.int .i64 a0_2) := (blk_cell BK191.out 2).trans rfl
      have hfz39_0 := blk_frozen BK191.out 0
      have hfz39_1 := blk_frozen BK191.out 1
      have hfz39_2 := blk_frozen BK191.out 2
      go_wp2_with (first | ((with_reducible refine gate_callee (f := 24) rfl ?_); refine goesL_ (some 47) rfl rfl Try.func24 (by kernel_rfl) rfl #[.agg #[.int .u64 a0_0, .int .i64 a0_1, .int .i64 a0_2]] rfl (by (try simp only [List.map_toArray, List.map_cons, List.map_nil]); first | done | rfl | (simp only [List.length_drop, List.length_take]; rfl)) ?_; (with_reducible refine (croftref11_R.calls a0_0 a0_1 a0_2 t196 _ A38.out).mono ?_); rintro e w40 ⟨rfl, hb⟩; refine ⟨_, rfl, ?_⟩; have n0_ := Aside0.mk (blk_below (g := gb191) (o := .cells #[.int .u64 a0_0, .int .i64 a0_1, .int .i64 a0_2] 24 (0, 0)) (by (with_reducible repeat (first | refine blk_drewN ?_ _ | refine blk_drew ?_ | refine blk_alloc ?_ _)); exact BK191.out) hb); have n1_ := Aside0.mk (below_step (by repeat (first | (with_reducible first | exact HB.out | apply below_alloc | apply pw_below_drewN | apply below_drew1 | refine below_set ?_ GE191.out) | exact HB.out)) hb); clear BK191; clear HB; have BK191 := n0_; have HB := n1_; clear n0_ n1_; (try clear hb); (try clear hb2); (try clear hk); (try clear hi)))
      go_loopg [11] kj35 (fun kq v11 w' => ∃ (x11_3 : Int), v11 = .int .u64 x11_3 ∧ Aside0 (croftref11_NoFit.l0 kq l2 a3 x9_35 (IntKind.u64.wrap ((IntKind.u64.wrap (a1)) * t196)) x11_3 a0_0 a0_1 a0_2 = some r) ∧ Aside0 (kq ≤ kj35) ∧ Aside0 (w'.heap[gb191]? = some (.cells #[.int .u64 a0_0, .int .i64 a0_1, .int .i64 a0_2] 24 (0, 0))) ∧ Aside0 (Below w.heap.size w w'))
      case atStart => exact ⟨(0), (by first | rfl | (simp; done) | (simp [*]; done)), H', ⟨Nat.le_refl _⟩, ⟨by (with_reducible repeat (first | refine blk_drewN ?_ _ | refine blk_drew ?_ | refine blk_alloc ?_ _)); exact BK191.out⟩, ⟨by repeat (first | (with_reducible first | exact HB.out | apply below_alloc | apply pw_below_drewN | apply below_drew1 | refine below_set ?_ GE191.out) | exact HB.out)⟩⟩
      case round =>
       clear H'
       try clear c1; try clear c2; try clear p2; try clear c3; try clear c8; try clear c10; try clear c10b0; try clear c10b1; try clear c12; try clear c13; try clear c13b0; try clear c24; try clear c25; try clear c27; try clear c35; try clear c37; try clear c37b0; try clear hcz14_0; try clear hcz14_1; try clear hcz14_2; try clear hcz16_0; try clear hcz16_1; try clear hcz16_2; try clear hcz19_0; try clear hcz19_1; try clear hcz19_2; try clear hcz21_0; try clear hcz21_1; try clear hcz21_2; try clear hcz23_0; try clear hcz23_1; try clear hcz23_2; try clear hcz25_0; try clear hcz25_1; try clear hcz25_2; try clear hcz27_0; try clear hcz27_1; try clear hcz27_2; try clear hcz29_0; try clear hcz29_1; try clear hcz29_2; try clear hcz31_0; try clear hcz31_1; try clear hcz31_2; try clear hcz33_0; try clear hcz33_1; try clear hcz33_2; try clear hcz39_0; try clear hcz39_1; try clear hcz39_2; try clear hfz14_0; try clear hfz14_1; try clear hfz14_2; try clear hfz16_0; try clear hfz16_1; try clear hfz16_2; try clear hfz19_0; try clear hfz19_1; try clear hfz19_2; try clear hfz21_0; try clear hfz21_1; try clear hfz21_2; try clear hfz23_0; try clear hfz23_1; try clear hfz23_2; try clear hfz25_0; try clear hfz25_1; try clear hfz25_2; try clear hfz27_0; try clear hfz27_1; try clear hfz27_2; try clear hfz29_0; try clear hfz29_1; try clear hfz29_2; try clear hfz31_0; try clear hfz31_1; try clear hfz31_2; try clear hfz33_0; try clear hfz33_1; try clear hfz33_2; try clear hfz39_0; try clear hfz39_1; try clear hfz39_2; try clear p2
       obtain ⟨x11_3, rfl, HA, HK3, BK191, HB⟩ := hrel
       cases gk with
       | zero => exact absurd HA.out (by simp [croftref11_NoFit.l0])
       | succ k3 =>
        have H := HA.out
        clear HA
        simp only [croftref11_NoFit.l0] at H
        by_cases c41 : x11_3 < (IntKind.u64.wrap ((IntKind.u64.wrap (a1)) * t196))
        ·rw [if_pos c41] at H
         have c41b0 : decide (x11_3 < (IntKind.u64.wrap ((IntKind.u64.wrap (a1)) * t196))) = true := decide_eq_true c41
         clear c41
         replace H := Option.bind_eq_some_iff.mp H
         obtain ⟨t197, A420, H⟩ := H
         replace H : (if t197 = true then (croftref11_NoFit.l0 k3 l2 a3 x9_35 (IntKind.u64.wrap ((IntKind.u64.wrap (a1)) * t196)) (IntKind.u64.wrap (x11_3 + x9_35)) a0_0 a0_1 a0_2) else (some false)) = some r := H
         have A42 := Aside0.mk A420
         clear A420
         by_cases c43 : t197 = true
         ·subst c43
          have H1 : (croftref11_NoFit.l0 k3 l2 a3 x9_35 (IntKind.u64.wrap ((IntKind.u64.wrap (a1)) * t196)) (IntKind.u64.wrap (x11_3 + x9_35)) a0_0 a0_1 a0_2) = some r := by rw [if_pos rfl] at H; exact H
          clear H
          have H := H1
          clear H1
          have H' := Aside0.mk H
          clear H
          have hcz44_0 : wr.cell? ⟨gb191, 0, none⟩ = some (.int .u64 a0_0) := (blk_cell BK191.out 0).trans rfl
          have hcz44_1 : wr.cell? ⟨gb191, 1, none⟩ = some (.int .i64 a0_1) := (blk_cell BK191.out 1).trans rfl
          have hcz44_2 : wr.cell? ⟨gb191, 2, none⟩ = some (.int .i64 a0_2) := (blk_cell BK191.out 2).trans rfl
          have hfz44_0 := blk_frozen BK191.out 0
          have hfz44_1 := blk_frozen BK191.out 1
          have hfz44_2 := blk_frozen BK191.out 2
          go_wp2_with (first | ((with_reducible refine gate_callee (f := 48) rfl ?_); refine goesL_ (some 61) rfl rfl Try.func48 (by kernel_rfl) rfl #[.int .u64 (IntKind.u64.wrap (a0_0 + x11_3)), .int .u64 x9_35, .slice A2 l2.length c2] rfl (by (try simp only [List.map_toArray, List.map_cons, List.map_nil]); first | done | rfl | (simp only [List.length_drop, List.length_take]; rfl)) ?_; (with_reducible refine (croftref11_taken.calls k3 (IntKind.u64.wrap (a0_0 + x11_3)) x9_35 _ _ l2 true _ ?side1 ?side2 A42.out).mono ?_); (case side1 => repeat (first | exact (Kd.C_below HR2.out HB.out) | (with_reducible refine Kd.C_alloc ?_ _) | (with_reducible refine Kd.C_drewN ?_ _) | (with_reducible refine Kd.C_drew ?_))); (case side2 => exact HC2.out); rintro e w45 ⟨rfl, hb⟩; refine ⟨_, rfl, ?_⟩; have n0_ := Aside0.mk (blk_below (g := gb191) (o := .cells #[.int .u64 a0_0, .int .i64 a0_1, .int .i64 a0_2] 24 (0, 0)) (by (with_reducible repeat (first | refine blk_drewN ?_ _ | refine blk_drew ?_ | refine blk_alloc ?_ _)); exact BK191.out) hb); have n1_ := Aside0.mk (below_step (by repeat (first | (with_reducible first | exact HB.out | apply below_alloc | apply pw_below_drewN | apply below_drew1 | refine below_set ?_ GE191.out) | exact HB.out)) hb); clear BK191; clear HB; have BK191 := n0_; have HB := n1_; clear n0_ n1_; (try clear hb); (try clear hb2); (try clear hk); (try clear hi)))
          go_roundg k3
          case measure => have := HJ4.out; have := HJ35.out; have := HK3.out; omega
          case rel => exact ⟨(IntKind.u64.wrap (x11_3 + x9_35)), (by first | rfl | (simp; done) | (simp [*]; done)), H', ⟨by have := HJ4.out; have := HJ35.out; have := HK3.out; omega⟩, ⟨by (with_reducible repeat (first | refine blk_drewN ?_ _ | refine blk_drew ?_ | refine blk_alloc ?_ _)); exact BK191.out⟩, ⟨by repeat (first | (with_reducible first | exact HB.out | apply below_alloc | apply pw_below_drewN | apply below_drew1 | refine below_set ?_ GE191.out) | exact HB.out)⟩⟩
         ·replace c43 := Bool.eq_false_iff.mpr c43
          subst c43
          have H1 : (some false) = some r := by rw [if_neg (show ¬ (false = true) by decide)] at H; exact H
          clear H
          have H := H1
          clear H1
          obtain rfl := Option.some.inj H
          have hcz46_0 : wr.cell? ⟨gb191, 0, none⟩ = some (.int .u64 a0_0) := (blk_cell BK191.out 0).trans rfl
          have hcz46_1 : wr.cell? ⟨gb191, 1, none⟩ = some (.int .i64 a0_1) := (blk_cell BK191.out 1).trans rfl
          have hcz46_2 : wr.cell? ⟨gb191, 2, none⟩ = some (.int .i64 a0_2) := (blk_cell BK191.out 2).trans rfl
          have hfz46_0 := blk_frozen BK191.out 0
          have hfz46_1 := blk_frozen BK191.out 1
          have hfz46_2 := blk_frozen BK191.out 2
          go_wp2_with (first | ((with_reducible refine gate_callee (f := 48) rfl ?_); refine goesL_ (some 61) rfl rfl Try.func48 (by kernel_rfl) rfl #[.int .u64 (IntKind.u64.wrap (a0_0 + x11_3)), .int .u64 x9_35, .slice A2 l2.length c2] rfl (by (try simp only [List.map_toArray, List.map_cons, List.map_nil]); first | done | rfl | (simp only [List.length_drop, List.length_take]; rfl)) ?_; (with_reducible refine (croftref11_taken.calls k3 (IntKind.u64.wrap (a0_0 + x11_3)) x9_35 _ _ l2 false _ ?side1 ?side2 A42.out).mono ?_); (case side1 => repeat (first | exact (Kd.C_below HR2.out HB.out) | (with_reducible refine Kd.C_alloc ?_ _) | (with_reducible refine Kd.C_drewN ?_ _) | (with_reducible refine Kd.C_drew ?_))); (case side2 => exact HC2.out); rintro e w47 ⟨rfl, hb⟩; refine ⟨_, rfl, ?_⟩; have n0_ := Aside0.mk (blk_below (g := gb191) (o := .cells #[.int .u64 a0_0, .int .i64 a0_1, .int .i64 a0_2] 24 (0, 0)) (by (with_reducible repeat (first | refine blk_drewN ?_ _ | refine blk_drew ?_ | refine blk_alloc ?_ _)); exact BK191.out) hb); have n1_ := Aside0.mk (below_step (by repeat (first | (with_reducible first | exact HB.out | apply below_alloc | apply pw_below_drewN | apply below_drew1 | refine below_set ?_ GE191.out) | exact HB.out)) hb); clear BK191; clear HB; have BK191 := n0_; have HB := n1_; clear n0_ n1_; (try clear hb); (try clear hb2); (try clear hk); (try clear hi)))
          go_ret
          exact ⟨by first | rfl | (simp [errW_none, errW_some] <;> rfl) | (simp [*, errW_none, errW_some] <;> rfl), by repeat (first | (with_reducible first | exact HB.out | apply below_alloc | apply pw_below_drewN | apply below_drew1 | refine below_set ?_ GE191.out) | exact HB.out)⟩
        ·rw [if_neg c41] at H
         have c41b0 : decide (x11_3 < (IntKind.u64.wrap ((IntKind.u64.wrap (a1)) * t196))) = false := decide_eq_false c41
         clear c41
         by_cases c48 : a3 ≥ 4096
         ·rw [if_pos c48] at H
          have c48b0 : decide (4096 ≤ a3) = true := decide_eq_true c48
          clear c48
          obtain rfl := Option.some.inj H
          go_wp2
          go_ret
          exact ⟨by first | rfl | (simp [errW_none, errW_some] <;> rfl) | (simp [*, errW_none, errW_some] <;> rfl), by repeat (first | (with_reducible first | exact HB.out | apply below_alloc | apply pw_below_drewN | apply below_drew1 | refine below_set ?_ GE191.out) | exact HB.out)⟩
         ·rw [if_neg c48] at H
          have c48b0 : decide (4096 ≤ a3) = false := decide_eq_false c48
          clear c48
          have H' := Aside0.mk H
          clear H
          go_wp2
          go_loopg [12] k3 (fun kq v12 w' => ∃ (x12_4 : Int), v12 = .int .u64 x12_4 ∧ Aside0 (croftref11_NoFit.l1 kq l2 a3 (IntKind.u64.wrap ((IntKind.u64.wrap (a1)) * t196)) x12_4 a0_0 a0_1 a0_2 = some r) ∧ Aside0 (kq ≤ k3) ∧ Aside0 (w'.heap[gb191]? = some (.cells #[.int .u64 a0_0, .int .i64 a0_1, .int .i64 a0_2] 24 (0, 0))) ∧ Aside0 (Below w.heap.size w w'))
          case atStart => exact ⟨(0), (by first | rfl | (simp; done) | (simp [*]; done)), H', ⟨Nat.le_refl _⟩, ⟨by (with_reducible repeat (first | refine blk_drewN ?_ _ | refine blk_drew ?_ | refine blk_alloc ?_ _)); exact BK191.out⟩, ⟨by repeat (first | (with_reducible first | exact HB.out | apply below_alloc | apply pw_below_drewN | apply below_drew1 | refine below_set ?_ GE191.out) | exact HB.out)⟩⟩
          case round =>
           clear H'
           try clear c1; try clear c2; try clear p2; try clear c3; try clear c4; try clear c8; try clear c10; try clear c10b0; try clear c10b1; try clear c12; try clear c13; try clear c13b0; try clear c24; try clear c25; try clear c27; try clear c35; try clear c37; try clear c37b0; try clear c41; try clear c41b0; try clear c43; try clear c48; try clear c48b0; try clear hcz14_0; try clear hcz14_1; try clear hcz14_2; try clear hcz16_0; try clear hcz16_1; try clear hcz16_2; try clear hcz19_0; try clear hcz19_1; try clear hcz19_2; try clear hcz21_0; try clear hcz21_1; try clear hcz21_2; try clear hcz23_0; try clear hcz23_1; try clear hcz23_2; try clear hcz25_0; try clear hcz25_1; try clear hcz25_2; try clear hcz27_0; try clear hcz27_1; try clear hcz27_2; try clear hcz29_0; try clear hcz29_1; try clear hcz29_2; try clear hcz31_0; try clear hcz31_1; try clear hcz31_2; try clear hcz33_0; try clear hcz33_1; try clear hcz33_2; try clear hcz39_0; try clear hcz39_1; try clear hcz39_2; try clear hcz44_0; try clear hcz44_1; try clear hcz44_2; try clear hcz46_0; try clear hcz46_1; try clear hcz46_2; try clear hfz14_0; try clear hfz14_1; try clear hfz14_2; try clear hfz16_0; try clear hfz16_1; try clear hfz16_2; try clear hfz19_0; try clear hfz19_1; try clear hfz19_2; try clear hfz21_0; try clear hfz21_1; try clear hfz21_2; try clear hfz23_0; try clear hfz23_1; try clear hfz23_2; try clear hfz25_0; try clear hfz25_1; try clear hfz25_2; try clear hfz27_0; try clear hfz27_1; try clear hfz27_2; try clear hfz29_0; try clear hfz29_1; try clear hfz29_2; try clear hfz31_0; try clear hfz31_1; try clear hfz31_2; try clear hfz33_0; try clear hfz33_1; try clear hfz33_2; try clear hfz39_0; try clear hfz39_1; try clear hfz39_2; try clear hfz44_0; try clear hfz44_1; try clear hfz44_2; try clear hfz46_0; try clear hfz46_1; try clear hfz46_2; try clear p2
           obtain ⟨x12_4, rfl, HA, HK4, BK191, HB⟩ := hrel
           cases gk with
           | zero => exact absurd HA.out (by simp [croftref11_NoFit.l1])
           | succ k4 =>
            have H := HA.out
            clear HA
            simp only [croftref11_NoFit.l1] at H
            by_cases c49 : x12_4 < (IntKind.u64.wrap ((IntKind.u64.wrap (a1)) * t196))
            ·rw [if_pos c49] at H
             have c49b0 : decide (x12_4 < (IntKind.u64.wrap ((IntKind.u64.wrap (a1)) * t196))) = true := decide_eq_true c49
             clear c49
             have H' := Aside0.mk H
             clear H
             go_wp2
             go_loopg [13, 14, 15] k4 (fun kq v13 v14 v15 w' => ∃ (x13_5 : Bool) (x14_5 : Int) (x15_5 : Int), v13 = .bool x13_5 ∧ v14 = .int .u64 x14_5 ∧ v15 = .int .i64 x15_5 ∧ Aside0 (croftref11_NoFit.l2 kq l2 a3 (IntKind.u64.wrap ((IntKind.u64.wrap (a1)) * t196)) x12_4 x13_5 x14_5 x15_5 a0_0 a0_1 a0_2 = some r) ∧ Aside0 (kq ≤ k4) ∧ Aside0 (w'.heap[gb191]? = some (.cells #[.int .u64 a0_0, .int .i64 a0_1, .int .i64 a0_2] 24 (0, 0))) ∧ Aside0 (Below w.heap.size w w'))
             case atStart => exact ⟨(false), (0), (0), (by first | rfl | (simp; done) | (simp [*]; done)), (by first | rfl | (simp; done) | (simp [*]; done)), (by first | rfl | (simp; done) | (simp [*]; done)), H', ⟨Nat.le_refl _⟩, ⟨by (with_reducible repeat (first | refine blk_drewN ?_ _ | refine blk_drew ?_ | refine blk_alloc ?_ _)); exact BK191.out⟩, ⟨by repeat (first | (with_reducible first | exact HB.out | apply below_alloc | apply pw_below_drewN | apply below_drew1 | refine below_set ?_ GE191.out) | exact HB.out)⟩⟩
             case round =>
              clear H'
              try clear c1; try clear c2; try clear p2; try clear c3; try clear c4; try clear c8; try clear c10; try clear c10b0; try clear c10b1; try clear c12; try clear c13; try clear c13b0; try clear c24; try clear c25; try clear c27; try clear c35; try clear c37; try clear c37b0; try clear c41; try clear c41b0; try clear c43; try clear c48; try clear c48b0; try clear c49; try clear c49b0; try clear hcz14_0; try clear hcz14_1; try clear hcz14_2; try clear hcz16_0; try clear hcz16_1; try clear hcz16_2; try clear hcz19_0; try clear hcz19_1; try clear hcz19_2; try clear hcz21_0; try clear hcz21_1; try clear hcz21_2; try clear hcz23_0; try clear hcz23_1; try clear hcz23_2; try clear hcz25_0; try clear hcz25_1; try clear hcz25_2; try clear hcz27_0; try clear hcz27_1; try clear hcz27_2; try clear hcz29_0; try clear hcz29_1; try clear hcz29_2; try clear hcz31_0; try clear hcz31_1; try clear hcz31_2; try clear hcz33_0; try clear hcz33_1; try clear hcz33_2; try clear hcz39_0; try clear hcz39_1; try clear hcz39_2; try clear hcz44_0; try clear hcz44_1; try clear hcz44_2; try clear hcz46_0; try clear hcz46_1; try clear hcz46_2; try clear hfz14_0; try clear hfz14_1; try clear hfz14_2; try clear hfz16_0; try clear hfz16_1; try clear hfz16_2; try clear hfz19_0; try clear hfz19_1; try clear hfz19_2; try clear hfz21_0; try clear hfz21_1; try clear hfz21_2; try clear hfz23_0; try clear hfz23_1; try clear hfz23_2; try clear hfz25_0; try clear hfz25_1; try clear hfz25_2; try clear hfz27_0; try clear hfz27_1; try clear hfz27_2; try clear hfz29_0; try clear hfz29_1; try clear hfz29_2; try clear hfz31_0; try clear hfz31_1; try clear hfz31_2; try clear hfz33_0; try clear hfz33_1; try clear hfz33_2; try clear hfz39_0; try clear hfz39_1; try clear hfz39_2; try clear hfz44_0; try clear hfz44_1; try clear hfz44_2; try clear hfz46_0; try clear hfz46_1; try clear hfz46_2; try clear p2
              obtain ⟨x13_5, x14_5, x15_5, rfl, rfl, rfl, HA, HK5, BK191, HB⟩ := hrel
              cases gk with
              | zero => exact absurd HA.out (by simp [croftref11_NoFit.l2])
              | succ k5 =>
               have H := HA.out
               clear HA
               simp only [croftref11_NoFit.l2] at H
               by_cases c50 : x15_5 < (l2.length : Int)
               ·rw [if_pos c50] at H
                have c50b0 : decide (x15_5 < (l2.length : Int)) = true := decide_eq_true c50
                clear c50
                by_cases c51 : 0 ≤ x15_5
                ·rw [if_pos c51] at H
                 have c51b0 : decide (0 ≤ x15_5) = true := decide_eq_true c51
                 clear c51
                 replace H := Option.bind_eq_some_iff.mp H
                 obtain ⟨t199, A520, H⟩ := H
                 replace H : (if t199 = true then (if x13_5 = true then (croftref11_NoFit.l2 k5 l2 a3 (IntKind.u64.wrap ((IntKind.u64.wrap (a1)) * t196)) x12_4 true (IntKind.u64.wrap (x14_5 + ((rd_T49 l2 x15_5).f1))) (wrap64 (x15_5 + 1)) a0_0 a0_1 a0_2) else (croftref11_NoFit.l2 k5 l2 a3 (IntKind.u64.wrap ((IntKind.u64.wrap (a1)) * t196)) x12_4 (((rd_T49 l2 x15_5).f1) == a3) (IntKind.u64.wrap (x14_5 + ((rd_T49 l2 x15_5).f1))) (wrap64 (x15_5 + 1)) a0_0 a0_1 a0_2)) else (croftref11_NoFit.l2 k5 l2 a3 (IntKind.u64.wrap ((IntKind.u64.wrap (a1)) * t196)) x12_4 x13_5 x14_5 (wrap64 (x15_5 + 1)) a0_0 a0_1 a0_2)) = some r := H
                 have A52 := Aside0.mk A520
                 clear A520
                 by_cases c53 : t199 = true
                 ·subst c53
                  have H1 : (if x13_5 = true then (croftref11_NoFit.l2 k5 l2 a3 (IntKind.u64.wrap ((IntKind.u64.wrap (a1)) * t196)) x12_4 true (IntKind.u64.wrap (x14_5 + ((rd_T49 l2 x15_5).f1))) (wrap64 (x15_5 + 1)) a0_0 a0_1 a0_2) else (croftref11_NoFit.l2 k5 l2 a3 (IntKind.u64.wrap ((IntKind.u64.wrap (a1)) * t196)) x12_4 (((rd_T49 l2 x15_5).f1) == a3) (IntKind.u64.wrap (x14_5 + ((rd_T49 l2 x15_5).f1))) (wrap64 (x15_5 + 1)) a0_0 a0_1 a0_2)) = some r := by rw [if_pos rfl] at H; exact H
                  clear H
                  have H := H1
                  clear H1
                  by_cases c54 : x13_5 = true
                  ·subst c54
                   have H1 : (croftref11_NoFit.l2 k5 l2 a3 (IntKind.u64.wrap ((IntKind.u64.wrap (a1)) * t196)) x12_4 true (IntKind.u64.wrap (x14_5 + ((rd_T49 l2 x15_5).f1))) (wrap64 (x15_5 + 1)) a0_0 a0_1 a0_2) = some r := by rw [if_pos rfl] at H; exact H
                   clear H
                   have H := H1
                   clear H1
                   have H' := Aside0.mk H
                   clear H
                   try go_wp2
                   have n0_ := Aside0.mk (blk_drew BK191.out)
                   have n1_ := Aside0.mk (below_drew1 HB.out)
                   clear BK191
                   clear HB
                   have BK191 := n0_
                   have HB := n1_
                   clear n0_ n1_
                   have p198 : 0 ≤ (x15_5 : Int) := of_decide_eq_true (by first | (with_reducible assumption) | assumption)
                   have q198 : x15_5 < (l2.length : Int) := of_decide_eq_true (by first | (with_reducible assumption) | assumption)
                   obtain ⟨ad198, e198, hx198_0, hx198_1⟩ := at_T49 HR2.out x15_5 p198 q198
                   have hw198_1 := hx198_1
                   have hw198_0 := hx198_0
                   cases e198
                   replace hx198_0 := (HB.out.cell (World.block_lt_of_cell? w _ hx198_0)).trans hx198_0
                   replace hx198_1 := (HB.out.cell (World.block_lt_of_cell? w _ hx198_1)).trans hx198_1
                   replace p198 := eq_true p198
                   replace q198 := eq_true q198
                   refine start_ (n := 10) (S := fun w' => w'.cell? ⟨gb191, 0, none⟩ = some (.int .u64 a0_0) ∧ w'.cell? ⟨gb191, 1, none⟩ = some (.int .i64 a0_1) ∧ w'.cell? ⟨gb191, 2, none⟩ = some (.int .i64 a0_2) ∧ w'.cell? (ad198.add ((x15_5).toNat * 2)) = some (.int .u64 ((rd_T49 l2 x15_5).f0)) ∧ w'.cell? ⟨(ad198.add ((x15_5).toNat * 2)).block, (ad198.add ((x15_5).toNat * 2)).off + 1, none⟩ = some (.int .u64 ((rd_T49 l2 x15_5).f1))) (ds := []) #[F,F,F,F,F,F,F,F,F,F] (by kernel_rfl) rfl rfl ⟨(blk_cell BK191.out 0).trans rfl, (blk_cell BK191.out 1).trans rfl, (blk_cell BK191.out 2).trans rfl, ((HB.out.cell (World.block_lt_of_cell? w _ hw198_0)).trans hw198_0), ((HB.out.cell (World.block_lt_of_cell? w _ hw198_1)).trans hw198_1)⟩ (fun hHeld => ?_); refine with_tabW croftref11_NoFit.tab22 croftref11_NoFit.bits22 (fun HT_ HW_ => ?_)
                   generalize wr.drew = w55 at BK191 HB hx198_0 hx198_1 hHeld ⊢
                   refine pure_ (i := 0) (N := some 76) (v := ?_) (a' := ?_) #[T,F,F,F,F,F,F,F,F,F] rfl rfl (any_of HT_.out (by kernel_rfl)) (fun _ _ _ h => h) (Or.inl ⟨by rfl, ?_⟩) ?_ ?_
                   rotate_left
                   ·intro w'
                    go_simp
                    with_reducible rfl
                   rotate_left
                   ·simp only [Act.put, Sa, Sb, Sc, i64_w, i32_w]
                    rfl
                   refine pure_ (i := 2) (N := some 78) (v := ?_) (a' := ?_) #[T,F,T,F,F,F,F,F,F,F] rfl rfl (any_of HT_.out (by kernel_rfl)) (fun _ _ _ h => h) (Or.inl ⟨by rfl, ?_⟩) ?_ ?_
                   rotate_left
                   ·intro w'
                    go_simp
                    with_reducible rfl
                   rotate_left
                   ·simp only [Act.put, Sa, Sb, Sc, i64_w, i32_w]
                    rfl
                   refine pure_ (i := 5) (N := some 81) (v := ?_) (a' := ?_) #[T,F,T,F,F,T,F,F,F,F] rfl rfl (any_of HT_.out (by kernel_rfl)) (fun _ _ _ h => h) (Or.inl ⟨by rfl, ?_⟩) ?_ ?_
                   rotate_left
                   ·intro w'
                    go_simp
                    with_reducible rfl
                   rotate_left
                   ·simp only [Act.put, Sa, Sb, Sc, i64_w, i32_w]
                    rfl
                   refine pure_ (i := 6) (N := some 82) (v := ?_) (a' := ?_) #[T,F,T,F,F,T,T,F,F,F] rfl rfl (any_of HT_.out (by kernel_rfl)) (fun _ _ _ h => h) (Or.inl ⟨by rfl, ?_⟩) ?_ ?_
                   rotate_left
                   ·intro w'
                    go_simp
                    with_reducible rfl
                   rotate_left
                   ·simp only [Act.put, Sa, Sb, Sc, i64_w, i32_w]
                    rfl
                   refine pure_ (i := 7) (N := some 83) (v := ?_) (a' := ?_) #[T,F,T,F,F,T,T,T,F,F] rfl rfl (any_of HT_.out (by kernel_rfl)) (fun _ _ _ h => h) (Or.inl ⟨by rfl, ?_⟩) ?_ ?_
                   rotate_left
                   ·intro w'
                    go_simp
                    with_reducible rfl
                   rotate_left
                   ·simp only [Act.put, Sa, Sb, Sc, i64_w, i32_w]
                    rfl
                   refine take_ (i := 1) (N := some 77) (v := ?_) (a' := ?_) #[T,T,T,F,F,T,T,T,F,F] rfl rfl (take_ofW HT_.out HW_.out (by kernel_rfl)) (fun _ _ _ h => h) (Or.inl ⟨by rfl, ?_⟩) hHeld ?_ ?_
                   rotate_left
                   ·rintro w' ⟨s0, s1, s2, s3, s4⟩
                    go_simp
                    with_reducible rfl
                   rotate_left
                   ·simp only [Act.put, Sa, Sb, Sc, i64_w, i32_w]
                    rfl
                   refine pure_ (i := 3) (N := some 79) (v := ?_) (a' := ?_) #[T,T,T,T,F,T,T,T,F,F] rfl rfl (any_of HT_.out (by kernel_rfl)) (fun _ _ _ h => h) (Or.inl ⟨by rfl, ?_⟩) ?_ ?_
                   rotate_left
                   ·intro w'
                    go_simp
                    with_reducible rfl
                   rotate_left
                   ·simp only [Act.put, Sa, Sb, Sc, i64_w, i32_w]
                    rfl
                   refine pure_ (i := 4) (N := some 80) (v := ?_) (a' := ?_) #[T,T,T,T,T,T,T,T,F,F] rfl rfl (any_of HT_.out (by kernel_rfl)) (fun _ _ _ h => h) (Or.inl ⟨by rfl, ?_⟩) ?_ ?_
                   rotate_left
                   ·intro w'
                    go_simp
                    with_reducible rfl
                   rotate_left
                   ·simp only [Act.put, Sa, Sb, Sc, i64_w, i32_w]
                    rfl
                   refine take_ (i := 8) (N := some 84) (v := ?_) (a' := ?_) #[T,T,T,T,T,T,T,T,T,F] rfl rfl (take_ofW HT_.out HW_.out (by kernel_rfl)) (fun _ _ _ h => h) (Or.inl ⟨by rfl, ?_⟩) hHeld ?_ ?_
                   rotate_left
                   ·rintro w' ⟨s0, s1, s2, s3, s4⟩
                    go_simp
                    with_reducible rfl
                   rotate_left
                   ·simp only [Act.put, Sa, Sb, Sc, i64_w, i32_w]
                    rfl
                   refine one_ (i := 9) (N := some 85) #[T,T,T,T,T,T,T,T,T,T] rfl rfl (one_of HT_.out (by kernel_rfl)) (by decide) (fun K hK => ?_)
                   refine goes_ Try.func41 (by kernel_rfl) rfl #[.agg #[.int .u64 (IntKind.u64.wrap (a0_0 + x12_4)), .int .u64 4096], .agg #[.int .u64 ((rd_T49 l2 x15_5).f0), .int .u64 ((rd_T49 l2 x15_5).f1)]] (by rfl) rfl rfl (by (try simp only [List.map_toArray, List.map_cons, List.map_nil]); first | done | rfl | (simp only [List.length_drop, List.length_take]; rfl)) ?_
                   with_reducible refine (croftref11_Meet.calls (IntKind.u64.wrap (a0_0 + x12_4)) 4096 ((rd_T49 l2 x15_5).f0) ((rd_T49 l2 x15_5).f1) true _ A52.out).mono ?_
                   rintro e w56 ⟨rfl, hb⟩
                   refine ⟨_, rfl, ?_⟩
                   have n0_ := Aside0.mk (blk_below (g := gb191) (o := .cells #[.int .u64 a0_0, .int .i64 a0_1, .int .i64 a0_2] 24 (0, 0)) (by (with_reducible repeat (first | refine blk_drewN ?_ _ | refine blk_drew ?_ | refine blk_alloc ?_ _)); exact BK191.out) hb)
                   have n1_ := Aside0.mk (below_step (by repeat (first | (with_reducible first | exact HB.out | apply below_alloc | apply pw_below_drewN | apply below_drew1 | refine below_set ?_ GE191.out) | exact HB.out)) hb)
                   clear BK191
                   clear HB
                   have BK191 := n0_
                   have HB := n1_
                   clear n0_ n1_
                   (try clear hb)
                   (try clear hb2)
                   (try clear hk)
                   (try clear hi)
                   refine hK.out _ _ ⟨(blk_cell BK191.out 0).trans rfl, (blk_cell BK191.out 1).trans rfl, (blk_cell BK191.out 2).trans rfl, ((HB.out.cell (World.block_lt_of_cell? w _ hw198_0)).trans hw198_0), ((HB.out.cell (World.block_lt_of_cell? w _ hw198_1)).trans hw198_1)⟩ (fun hHeld => ?_)
                   clear hK K
                   refine norm_ (a' := ?_) ?_ ?_
                   rotate_left
                   ·show Act.put _ (some 85) _ = _
                    simp only [Act.put, Sa, Sb, Sc, i64_w, i32_w]
                    rfl
                   refine done_ (done_of HT_.out (by kernel_rfl)) ?_
                   have p200 : 0 ≤ (x15_5 : Int) := of_decide_eq_true (by first | (with_reducible assumption) | assumption)
                   have q200 : x15_5 < (l2.length : Int) := of_decide_eq_true (by first | (with_reducible assumption) | assumption)
                   obtain ⟨ad200, e200, hx200_0, hx200_1⟩ := at_T49 HR2.out x15_5 p200 q200
                   obtain rfl : ad198 = ad200 := (by injection e200)
                   replace hx200_0 := (HB.out.cell (World.block_lt_of_cell? w _ hx200_0)).trans hx200_0
                   replace hx200_1 := (HB.out.cell (World.block_lt_of_cell? w _ hx200_1)).trans hx200_1
                   replace p200 := eq_true p200
                   replace q200 := eq_true q200
                   try go_wp2
                   go_roundg k5
                   case measure => have := HJ4.out; have := HJ35.out; have := HK3.out; have := HK4.out; have := HK5.out; omega
                   case rel => exact ⟨(true), (IntKind.u64.wrap (x14_5 + ((rd_T49 l2 x15_5).f1))), (wrap64 (x15_5 + 1)), (by first | rfl | (simp; done) | (simp [*]; done)), (by first | rfl | (simp; done) | (simp [*]; done)), (by first | rfl | (simp; done) | (simp [*]; done)), H', ⟨by have := HJ4.out; have := HJ35.out; have := HK3.out; have := HK4.out; have := HK5.out; omega⟩, ⟨by (with_reducible repeat (first | refine blk_drewN ?_ _ | refine blk_drew ?_ | refine blk_alloc ?_ _)); exact BK191.out⟩, ⟨by repeat (first | (with_reducible first | exact HB.out | apply below_alloc | apply pw_below_drewN | apply below_drew1 | refine below_set ?_ GE191.out) | exact HB.out)⟩⟩
                  ·replace c54 := Bool.eq_false_iff.mpr c54
                   subst c54
                   have H1 : (croftref11_NoFit.l2 k5 l2 a3 (IntKind.u64.wrap ((IntKind.u64.wrap (a1)) * t196)) x12_4 (((rd_T49 l2 x15_5).f1) == a3) (IntKind.u64.wrap (x14_5 + ((rd_T49 l2 x15_5).f1))) (wrap64 (x15_5 + 1)) a0_0 a0_1 a0_2) = some r := by rw [if_neg (show ¬ (false = true) by decide)] at H; exact H
                   clear H
                   have H := H1
                   clear H1
                   have H' := Aside0.mk H
                   clear H
                   try go_wp2
                   have n0_ := Aside0.mk (blk_drew BK191.out)
                   have n1_ := Aside0.mk (below_drew1 HB.out)
                   clear BK191
                   clear HB
                   have BK191 := n0_
                   have HB := n1_
                   clear n0_ n1_
                   have p198 : 0 ≤ (x15_5 : Int) := of_decide_eq_true (by first | (with_reducible assumption) | assumption)
                   have q198 : x15_5 < (l2.length : Int) := of_decide_eq_true (by first | (with_reducible assumption) | assumption)
                   obtain ⟨ad198, e198, hx198_0, hx198_1⟩ := at_T49 HR2.out x15_5 p198 q198
                   have hw198_1 := hx198_1
                   have hw198_0 := hx198_0
                   cases e198
                   replace hx198_0 := (HB.out.cell (World.block_lt_of_cell? w _ hx198_0)).trans hx198_0
                   replace hx198_1 := (HB.out.cell (World.block_lt_of_cell? w _ hx198_1)).trans hx198_1
                   replace p198 := eq_true p198
                   replace q198 := eq_true q198
                   refine start_ (n := 10) (S := fun w' => w'.cell? ⟨gb191, 0, none⟩ = some (.int .u64 a0_0) ∧ w'.cell? ⟨gb191, 1, none⟩ = some (.int .i64 a0_1) ∧ w'.cell? ⟨gb191, 2, none⟩ = some (.int .i64 a0_2) ∧ w'.cell? (ad198.add ((x15_5).toNat * 2)) = some (.int .u64 ((rd_T49 l2 x15_5).f0)) ∧ w'.cell? ⟨(ad198.add ((x15_5).toNat * 2)).block, (ad198.add ((x15_5).toNat * 2)).off + 1, none⟩ = some (.int .u64 ((rd_T49 l2 x15_5).f1))) (ds := []) #[F,F,F,F,F,F,F,F,F,F] (by kernel_rfl) rfl rfl ⟨(blk_cell BK191.out 0).trans rfl, (blk_cell BK191.out 1).trans rfl, (blk_cell BK191.out 2).trans rfl, ((HB.out.cell (World.block_lt_of_cell? w _ hw198_0)).trans hw198_0), ((HB.out.cell (World.block_lt_of_cell? w _ hw198_1)).trans hw198_1)⟩ (fun hHeld => ?_); refine with_tabW croftref11_NoFit.tab22 croftref11_NoFit.bits22 (fun HT_ HW_ => ?_)
                   generalize wr.drew = w57 at BK191 HB hx198_0 hx198_1 hHeld ⊢
                   refine pure_ (i := 0) (N := some 76) (v := ?_) (a' := ?_) #[T,F,F,F,F,F,F,F,F,F] rfl rfl (any_of HT_.out (by kernel_rfl)) (fun _ _ _ h => h) (Or.inl ⟨by rfl, ?_⟩) ?_ ?_
                   rotate_left
                   ·intro w'
                    go_simp
                    with_reducible rfl
                   rotate_left
                   ·simp only [Act.put, Sa, Sb, Sc, i64_w, i32_w]
                    rfl
                   refine pure_ (i := 2) (N := some 78) (v := ?_) (a' := ?_) #[T,F,T,F,F,F,F,F,F,F] rfl rfl (any_of HT_.out (by kernel_rfl)) (fun _ _ _ h => h) (Or.inl ⟨by rfl, ?_⟩) ?_ ?_
                   rotate_left
                   ·intro w'
                    go_simp
                    with_reducible rfl
                   rotate_left
                   ·simp only [Act.put, Sa, Sb, Sc, i64_w, i32_w]
                    rfl
                   refine pure_ (i := 5) (N := some 81) (v := ?_) (a' := ?_) #[T,F,T,F,F,T,F,F,F,F] rfl rfl (any_of HT_.out (by kernel_rfl)) (fun _ _ _ h => h) (Or.inl ⟨by rfl, ?_⟩) ?_ ?_
                   rotate_left
                   ·intro w'
                    go_simp
                    with_reducible rfl
                   rotate_left
                   ·simp only [Act.put, Sa, Sb, Sc, i64_w, i32_w]
                    rfl
                   refine pure_ (i := 6) (N := some 82) (v := ?_) (a' := ?_) #[T,F,T,F,F,T,T,F,F,F] rfl rfl (any_of HT_.out (by kernel_rfl)) (fun _ _ _ h => h) (Or.inl ⟨by rfl, ?_⟩) ?_ ?_
                   rotate_left
                   ·intro w'
                    go_simp
                    with_reducible rfl
                   rotate_left
                   ·simp only [Act.put, Sa, Sb, Sc, i64_w, i32_w]
                    rfl
                   refine pure_ (i := 7) (N := some 83) (v := ?_) (a' := ?_) #[T,F,T,F,F,T,T,T,F,F] rfl rfl (any_of HT_.out (by kernel_rfl)) (fun _ _ _ h => h) (Or.inl ⟨by rfl, ?_⟩) ?_ ?_
                   rotate_left
                   ·intro w'
                    go_simp
                    with_reducible rfl
                   rotate_left
                   ·simp only [Act.put, Sa, Sb, Sc, i64_w, i32_w]
                    rfl
                   refine take_ (i := 1) (N := some 77) (v := ?_) (a' := ?_) #[T,T,T,F,F,T,T,T,F,F] rfl rfl (take_ofW HT_.out HW_.out (by kernel_rfl)) (fun _ _ _ h => h) (Or.inl ⟨by rfl, ?_⟩) hHeld ?_ ?_
                   rotate_left
                   ·rintro w' ⟨s0, s1, s2, s3, s4⟩
                    go_simp
                    with_reducible rfl
                   rotate_left
                   ·simp only [Act.put, Sa, Sb, Sc, i64_w, i32_w]
                    rfl
                   refine pure_ (i := 3) (N := some 79) (v := ?_) (a' := ?_) #[T,T,T,T,F,T,T,T,F,F] rfl rfl (any_of HT_.out (by kernel_rfl)) (fun _ _ _ h => h) (Or.inl ⟨by rfl, ?_⟩) ?_ ?_
                   rotate_left
                   ·intro w'
                    go_simp
                    with_reducible rfl
                   rotate_left
                   ·simp only [Act.put, Sa, Sb, Sc, i64_w, i32_w]
                    rfl
                   refine pure_ (i := 4) (N := some 80) (v := ?_) (a' := ?_) #[T,T,T,T,T,T,T,T,F,F] rfl rfl (any_of HT_.out (by kernel_rfl)) (fun _ _ _ h => h) (Or.inl ⟨by rfl, ?_⟩) ?_ ?_
                   rotate_left
                   ·intro w'
                    go_simp
                    with_reducible rfl
                   rotate_left
                   ·simp only [Act.put, Sa, Sb, Sc, i64_w, i32_w]
                    rfl
                   refine take_ (i := 8) (N := some 84) (v := ?_) (a' := ?_) #[T,T,T,T,T,T,T,T,T,F] rfl rfl (take_ofW HT_.out HW_.out (by kernel_rfl)) (fun _ _ _ h => h) (Or.inl ⟨by rfl, ?_⟩) hHeld ?_ ?_
                   rotate_left
                   ·rintro w' ⟨s0, s1, s2, s3, s4⟩
                    go_simp
                    with_reducible rfl
                   rotate_left
                   ·simp only [Act.put, Sa, Sb, Sc, i64_w, i32_w]
                    rfl
                   refine one_ (i := 9) (N := some 85) #[T,T,T,T,T,T,T,T,T,T] rfl rfl (one_of HT_.out (by kernel_rfl)) (by decide) (fun K hK => ?_)
                   refine goes_ Try.func41 (by kernel_rfl) rfl #[.agg #[.int .u64 (IntKind.u64.wrap (a0_0 + x12_4)), .int .u64 4096], .agg #[.int .u64 ((rd_T49 l2 x15_5).f0), .int .u64 ((rd_T49 l2 x15_5).f1)]] (by rfl) rfl rfl (by (try simp only [List.map_toArray, List.map_cons, List.map_nil]); first | done | rfl | (simp only [List.length_drop, List.length_take]; rfl)) ?_
                   with_reducible refine (croftref11_Meet.calls (IntKind.u64.wrap (a0_0 + x12_4)) 4096 ((rd_T49 l2 x15_5).f0) ((rd_T49 l2 x15_5).f1) true _ A52.out).mono ?_
                   rintro e w58 ⟨rfl, hb⟩
                   refine ⟨_, rfl, ?_⟩
                   have n0_ := Aside0.mk (blk_below (g := gb191) (o := .cells #[.int .u64 a0_0, .int .i64 a0_1, .int .i64 a0_2] 24 (0, 0)) (by (with_reducible repeat (first | refine blk_drewN ?_ _ | refine blk_drew ?_ | refine blk_alloc ?_ _)); exact BK191.out) hb)
                   have n1_ := Aside0.mk (below_step (by repeat (first | (with_reducible first | exact HB.out | apply below_alloc | apply pw_below_drewN | apply below_drew1 | refine below_set ?_ GE191.out) | exact HB.out)) hb)
                   clear BK191
                   clear HB
                   have BK191 := n0_
                   have HB := n1_
                   clear n0_ n1_
                   (try clear hb)
                   (try clear hb2)
                   (try clear hk)
                   (try clear hi)
                   refine hK.out _ _ ⟨(blk_cell BK191.out 0).trans rfl, (blk_cell BK191.out 1).trans rfl, (blk_cell BK191.out 2).trans rfl, ((HB.out.cell (World.block_lt_of_cell? w _ hw198_0)).trans hw198_0), ((HB.out.cell (World.block_lt_of_cell? w _ hw198_1)).trans hw198_1)⟩ (fun hHeld => ?_)
                   clear hK K
                   refine norm_ (a' := ?_) ?_ ?_
                   rotate_left
                   ·show Act.put _ (some 85) _ = _
                    simp only [Act.put, Sa, Sb, Sc, i64_w, i32_w]
                    rfl
                   refine done_ (done_of HT_.out (by kernel_rfl)) ?_
                   have p201 : 0 ≤ (x15_5 : Int) := of_decide_eq_true (by first | (with_reducible assumption) | assumption)
                   have q201 : x15_5 < (l2.length : Int) := of_decide_eq_true (by first | (with_reducible assumption) | assumption)
                   obtain ⟨ad201, e201, hx201_0, hx201_1⟩ := at_T49 HR2.out x15_5 p201 q201
                   obtain rfl : ad198 = ad201 := (by injection e201)
                   replace hx201_0 := (HB.out.cell (World.block_lt_of_cell? w _ hx201_0)).trans hx201_0
                   replace hx201_1 := (HB.out.cell (World.block_lt_of_cell? w _ hx201_1)).trans hx201_1
                   replace p201 := eq_true p201
                   replace q201 := eq_true q201
                   have p202 : 0 ≤ (x15_5 : Int) := of_decide_eq_true (by first | (with_reducible assumption) | assumption)
                   have q202 : x15_5 < (l2.length : Int) := of_decide_eq_true (by first | (with_reducible assumption) | assumption)
                   obtain ⟨ad202, e202, hx202_0, hx202_1⟩ := at_T49 HR2.out x15_5 p202 q202
                   obtain rfl : ad198 = ad202 := (by injection e202)
                   replace hx202_0 := (HB.out.cell (World.block_lt_of_cell? w _ hx202_0)).trans hx202_0
                   replace hx202_1 := (HB.out.cell (World.block_lt_of_cell? w _ hx202_1)).trans hx202_1
                   replace p202 := eq_true p202
                   replace q202 := eq_true q202
                   try go_wp2
                   go_roundg k5
                   case measure => have := HJ4.out; have := HJ35.out; have := HK3.out; have := HK4.out; have := HK5.out; omega
                   case rel => exact ⟨((((rd_T49 l2 x15_5).f1) == a3)), (IntKind.u64.wrap (x14_5 + ((rd_T49 l2 x15_5).f1))), (wrap64 (x15_5 + 1)), (by first | rfl | (simp; done) | (simp [*]; done)), (by first | rfl | (simp; done) | (simp [*]; done)), (by first | rfl | (simp; done) | (simp [*]; done)), H', ⟨by have := HJ4.out; have := HJ35.out; have := HK3.out; have := HK4.out; have := HK5.out; omega⟩, ⟨by (with_reducible repeat (first | refine blk_drewN ?_ _ | refine blk_drew ?_ | refine blk_alloc ?_ _)); exact BK191.out⟩, ⟨by repeat (first | (with_reducible first | exact HB.out | apply below_alloc | apply pw_below_drewN | apply below_drew1 | refine below_set ?_ GE191.out) | exact HB.out)⟩⟩
                 ·replace c53 := Bool.eq_false_iff.mpr c53
                  subst c53
                  have H1 : (croftref11_NoFit.l2 k5 l2 a3 (IntKind.u64.wrap ((IntKind.u64.wrap (a1)) * t196)) x12_4 x13_5 x14_5 (wrap64 (x15_5 + 1)) a0_0 a0_1 a0_2) = some r := by rw [if_neg (show ¬ (false = true) by decide)] at H; exact H
                  clear H
                  have H := H1
                  clear H1
                  have H' := Aside0.mk H
                  clear H
                  try go_wp2
                  have n0_ := Aside0.mk (blk_drew BK191.out)
                  have n1_ := Aside0.mk (below_drew1 HB.out)
                  clear BK191
                  clear HB
                  have BK191 := n0_
                  have HB := n1_
                  clear n0_ n1_
                  have p198 : 0 ≤ (x15_5 : Int) := of_decide_eq_true (by first | (with_reducible assumption) | assumption)
                  have q198 : x15_5 < (l2.length : Int) := of_decide_eq_true (by first | (with_reducible assumption) | assumption)
                  obtain ⟨ad198, e198, hx198_0, hx198_1⟩ := at_T49 HR2.out x15_5 p198 q198
                  have hw198_1 := hx198_1
                  have hw198_0 := hx198_0
                  cases e198
                  replace hx198_0 := (HB.out.cell (World.block_lt_of_cell? w _ hx198_0)).trans hx198_0
                  replace hx198_1 := (HB.out.cell (World.block_lt_of_cell? w _ hx198_1)).trans hx198_1
                  replace p198 := eq_true p198
                  replace q198 := eq_true q198
                  refine start_ (n := 10) (S := fun w' => w'.cell? ⟨gb191, 0, none⟩ = some (.int .u64 a0_0) ∧ w'.cell? ⟨gb191, 1, none⟩ = some (.int .i64 a0_1) ∧ w'.cell? ⟨gb191, 2, none⟩ = some (.int .i64 a0_2) ∧ w'.cell? (ad198.add ((x15_5).toNat * 2)) = some (.int .u64 ((rd_T49 l2 x15_5).f0)) ∧ w'.cell? ⟨(ad198.add ((x15_5).toNat * 2)).block, (ad198.add ((x15_5).toNat * 2)).off + 1, none⟩ = some (.int .u64 ((rd_T49 l2 x15_5).f1))) (ds := []) #[F,F,F,F,F,F,F,F,F,F] (by kernel_rfl) rfl rfl ⟨(blk_cell BK191.out 0).trans rfl, (blk_cell BK191.out 1).trans rfl, (blk_cell BK191.out 2).trans rfl, ((HB.out.cell (World.block_lt_of_cell? w _ hw198_0)).trans hw198_0), ((HB.out.cell (World.block_lt_of_cell? w _ hw198_1)).trans hw198_1)⟩ (fun hHeld => ?_); refine with_tabW croftref11_NoFit.tab22 croftref11_NoFit.bits22 (fun HT_ HW_ => ?_)
                  generalize wr.drew = w59 at BK191 HB hx198_0 hx198_1 hHeld ⊢
                  refine pure_ (i := 0) (N := some 76) (v := ?_) (a' := ?_) #[T,F,F,F,F,F,F,F,F,F] rfl rfl (any_of HT_.out (by kernel_rfl)) (fun _ _ _ h => h) (Or.inl ⟨by rfl, ?_⟩) ?_ ?_
                  rotate_left
                  ·intro w'
                   go_simp
                   with_reducible rfl
                  rotate_left
                  ·simp only [Act.put, Sa, Sb, Sc, i64_w, i32_w]
                   rfl
                  refine pure_ (i := 2) (N := some 78) (v := ?_) (a' := ?_) #[T,F,T,F,F,F,F,F,F,F] rfl rfl (any_of HT_.out (by kernel_rfl)) (fun _ _ _ h => h) (Or.inl ⟨by rfl, ?_⟩) ?_ ?_
                  rotate_left
                  ·intro w'
                   go_simp
                   with_reducible rfl
                  rotate_left
                  ·simp only [Act.put, Sa, Sb, Sc, i64_w, i32_w]
                   rfl
                  refine pure_ (i := 5) (N := some 81) (v := ?_) (a' := ?_) #[T,F,T,F,F,T,F,F,F,F] rfl rfl (any_of HT_.out (by kernel_rfl)) (fun _ _ _ h => h) (Or.inl ⟨by rfl, ?_⟩) ?_ ?_
                  rotate_left
                  ·intro w'
                   go_simp
                   with_reducible rfl
                  rotate_left
                  ·simp only [Act.put, Sa, Sb, Sc, i64_w, i32_w]
                   rfl
                  refine pure_ (i := 6) (N := some 82) (v := ?_) (a' := ?_) #[T,F,T,F,F,T,T,F,F,F] rfl rfl (any_of HT_.out (by kernel_rfl)) (fun _ _ _ h => h) (Or.inl ⟨by rfl, ?_⟩) ?_ ?_
                  rotate_left
                  ·intro w'
                   go_simp
                   with_reducible rfl
                  rotate_left
                  ·simp only [Act.put, Sa, Sb, Sc, i64_w, i32_w]
                   rfl
                  refine pure_ (i := 7) (N := some 83) (v := ?_) (a' := ?_) #[T,F,T,F,F,T,T,T,F,F] rfl rfl (any_of HT_.out (by kernel_rfl)) (fun _ _ _ h => h) (Or.inl ⟨by rfl, ?_⟩) ?_ ?_
                  rotate_left
                  ·intro w'
                   go_simp
                   with_reducible rfl
                  rotate_left
                  ·simp only [Act.put, Sa, Sb, Sc, i64_w, i32_w]
                   rfl
                  refine take_ (i := 1) (N := some 77) (v := ?_) (a' := ?_) #[T,T,T,F,F,T,T,T,F,F] rfl rfl (take_ofW HT_.out HW_.out (by kernel_rfl)) (fun _ _ _ h => h) (Or.inl ⟨by rfl, ?_⟩) hHeld ?_ ?_
                  rotate_left
                  ·rintro w' ⟨s0, s1, s2, s3, s4⟩
                   go_simp
                   with_reducible rfl
                  rotate_left
                  ·simp only [Act.put, Sa, Sb, Sc, i64_w, i32_w]
                   rfl
                  refine pure_ (i := 3) (N := some 79) (v := ?_) (a' := ?_) #[T,T,T,T,F,T,T,T,F,F] rfl rfl (any_of HT_.out (by kernel_rfl)) (fun _ _ _ h => h) (Or.inl ⟨by rfl, ?_⟩) ?_ ?_
                  rotate_left
                  ·intro w'
                   go_simp
                   with_reducible rfl
                  rotate_left
                  ·simp only [Act.put, Sa, Sb, Sc, i64_w, i32_w]
                   rfl
                  refine pure_ (i := 4) (N := some 80) (v := ?_) (a' := ?_) #[T,T,T,T,T,T,T,T,F,F] rfl rfl (any_of HT_.out (by kernel_rfl)) (fun _ _ _ h => h) (Or.inl ⟨by rfl, ?_⟩) ?_ ?_
                  rotate_left
                  ·intro w'
                   go_simp
                   with_reducible rfl
                  rotate_left
                  ·simp only [Act.put, Sa, Sb, Sc, i64_w, i32_w]
                   rfl
                  refine take_ (i := 8) (N := some 84) (v := ?_) (a' := ?_) #[T,T,T,T,T,T,T,T,T,F] rfl rfl (take_ofW HT_.out HW_.out (by kernel_rfl)) (fun _ _ _ h => h) (Or.inl ⟨by rfl, ?_⟩) hHeld ?_ ?_
                  rotate_left
                  ·rintro w' ⟨s0, s1, s2, s3, s4⟩
                   go_simp
                   with_reducible rfl
                  rotate_left
                  ·simp only [Act.put, Sa, Sb, Sc, i64_w, i32_w]
                   rfl
                  refine one_ (i := 9) (N := some 85) #[T,T,T,T,T,T,T,T,T,T] rfl rfl (one_of HT_.out (by kernel_rfl)) (by decide) (fun K hK => ?_)
                  refine goes_ Try.func41 (by kernel_rfl) rfl #[.agg #[.int .u64 (IntKind.u64.wrap (a0_0 + x12_4)), .int .u64 4096], .agg #[.int .u64 ((rd_T49 l2 x15_5).f0), .int .u64 ((rd_T49 l2 x15_5).f1)]] (by rfl) rfl rfl (by (try simp only [List.map_toArray, List.map_cons, List.map_nil]); first | done | rfl | (simp only [List.length_drop, List.length_take]; rfl)) ?_
                  with_reducible refine (croftref11_Meet.calls (IntKind.u64.wrap (a0_0 + x12_4)) 4096 ((rd_T49 l2 x15_5).f0) ((rd_T49 l2 x15_5).f1) false _ A52.out).mono ?_
                  rintro e w60 ⟨rfl, hb⟩
                  refine ⟨_, rfl, ?_⟩
                  have n0_ := Aside0.mk (blk_below (g := gb191) (o := .cells #[.int .u64 a0_0, .int .i64 a0_1, .int .i64 a0_2] 24 (0, 0)) (by (with_reducible repeat (first | refine blk_drewN ?_ _ | refine blk_drew ?_ | refine blk_alloc ?_ _)); exact BK191.out) hb)
                  have n1_ := Aside0.mk (below_step (by repeat (first | (with_reducible first | exact HB.out | apply below_alloc | apply pw_below_drewN | apply below_drew1 | refine below_set ?_ GE191.out) | exact HB.out)) hb)
                  clear BK191
                  clear HB
                  have BK191 := n0_
                  have HB := n1_
                  clear n0_ n1_
                  (try clear hb)
                  (try clear hb2)
                  (try clear hk)
                  (try clear hi)
                  refine hK.out _ _ ⟨(blk_cell BK191.out 0).trans rfl, (blk_cell BK191.out 1).trans rfl, (blk_cell BK191.out 2).trans rfl, ((HB.out.cell (World.block_lt_of_cell? w _ hw198_0)).trans hw198_0), ((HB.out.cell (World.block_lt_of_cell? w _ hw198_1)).trans hw198_1)⟩ (fun hHeld => ?_)
                  clear hK K
                  refine norm_ (a' := ?_) ?_ ?_
                  rotate_left
                  ·show Act.put _ (some 85) _ = _
                   simp only [Act.put, Sa, Sb, Sc, i64_w, i32_w]
                   rfl
                  refine done_ (done_of HT_.out (by kernel_rfl)) ?_
                  try go_wp2
                  go_roundg k5
                  case measure => have := HJ4.out; have := HJ35.out; have := HK3.out; have := HK4.out; have := HK5.out; omega
                  case rel => exact ⟨(x13_5), (x14_5), (wrap64 (x15_5 + 1)), (by first | rfl | (simp; done) | (simp [*]; done)), (by first | rfl | (simp; done) | (simp [*]; done)), (by first | rfl | (simp; done) | (simp [*]; done)), H', ⟨by have := HJ4.out; have := HJ35.out; have := HK3.out; have := HK4.out; have := HK5.out; omega⟩, ⟨by (with_reducible repeat (first | refine blk_drewN ?_ _ | refine blk_drew ?_ | refine blk_alloc ?_ _)); exact BK191.out⟩, ⟨by repeat (first | (with_reducible first | exact HB.out | apply below_alloc | apply pw_below_drewN | apply below_drew1 | refine below_set ?_ GE191.out) | exact HB.out)⟩⟩
                ·rw [if_neg c51] at H
                 exact absurd H (by simp)
               ·rw [if_neg c50] at H
                have c50b0 : decide (x15_5 < (l2.length : Int)) = false := decide_eq_false c50
                clear c50
                by_cases c61 : x13_5 = true
                ·subst c61
                 have H1 : (if x14_5 < 4096 then (some false) else (croftref11_NoFit.l1 k5 l2 a3 (IntKind.u64.wrap ((IntKind.u64.wrap (a1)) * t196)) (IntKind.u64.wrap (x12_4 + 4096)) a0_0 a0_1 a0_2)) = some r := by rw [if_pos rfl] at H; exact H
                 clear H
                 have H := H1
                 clear H1
                 by_cases c62 : x14_5 < 4096
                 ·rw [if_pos c62] at H
                  have c62b0 : decide (x14_5 < 4096) = true := decide_eq_true c62
                  clear c62
                  obtain rfl := Option.some.inj H
                  go_wp2
                  go_ret
                  exact ⟨by first | rfl | (simp [errW_none, errW_some] <;> rfl) | (simp [*, errW_none, errW_some] <;> rfl), by repeat (first | (with_reducible first | exact HB.out | apply below_alloc | apply pw_below_drewN | apply below_drew1 | refine below_set ?_ GE191.out) | exact HB.out)⟩
                 ·rw [if_neg c62] at H
                  have c62b0 : decide (x14_5 < 4096) = false := decide_eq_false c62
                  clear c62
                  have H' := Aside0.mk H
                  clear H
                  go_wp2
                  go_roundg k5
                  case measure => have := HJ4.out; have := HJ35.out; have := HK3.out; have := HK4.out; have := HK5.out; omega
                  case rel => exact ⟨(IntKind.u64.wrap (x12_4 + 4096)), (by first | rfl | (simp; done) | (simp [*]; done)), H', ⟨by have := HJ4.out; have := HJ35.out; have := HK3.out; have := HK4.out; have := HK5.out; omega⟩, ⟨by (with_reducible repeat (first | refine blk_drewN ?_ _ | refine blk_drew ?_ | refine blk_alloc ?_ _)); exact BK191.out⟩, ⟨by repeat (first | (with_reducible first | exact HB.out | apply below_alloc | apply pw_below_drewN | apply below_drew1 | refine below_set ?_ GE191.out) | exact HB.out)⟩⟩
                ·replace c61 := Bool.eq_false_iff.mpr c61
                 subst c61
                 have H1 : (croftref11_NoFit.l1 k5 l2 a3 (IntKind.u64.wrap ((IntKind.u64.wrap (a1)) * t196)) (IntKind.u64.wrap (x12_4 + 4096)) a0_0 a0_1 a0_2) = some r := by rw [if_neg (show ¬ (false = true) by decide)] at H; exact H
                 clear H
                 have H := H1
                 clear H1
                 have H' := Aside0.mk H
                 clear H
                 go_wp2
                 go_roundg k5
                 case measure => have := HJ4.out; have := HJ35.out; have := HK3.out; have := HK4.out; have := HK5.out; omega
                 case rel => exact ⟨(IntKind.u64.wrap (x12_4 + 4096)), (by first | rfl | (simp; done) | (simp [*]; done)), H', ⟨by have := HJ4.out; have := HJ35.out; have := HK3.out; have := HK4.out; have := HK5.out; omega⟩, ⟨by (with_reducible repeat (first | refine blk_drewN ?_ _ | refine blk_drew ?_ | refine blk_alloc ?_ _)); exact BK191.out⟩, ⟨by repeat (first | (with_reducible first | exact HB.out | apply below_alloc | apply pw_below_drewN | apply below_drew1 | refine below_set ?_ GE191.out) | exact HB.out)⟩⟩
            ·rw [if_neg c49] at H
             have c49b0 : decide (x12_4 < (IntKind.u64.wrap ((IntKind.u64.wrap (a1)) * t196))) = false := decide_eq_false c49
             clear c49
             obtain rfl := Option.some.inj H
             go_wp2
             go_ret
             exact ⟨by first | rfl | (simp [errW_none, errW_some] <;> rfl) | (simp [*, errW_none, errW_some] <;> rfl), by repeat (first | (with_reducible first | exact HB.out | apply below_alloc | apply pw_below_drewN | apply below_drew1 | refine below_set ?_ GE191.out) | exact HB.out)⟩


end Go.Proofs.Ytihfblnjgaalcaa.R
