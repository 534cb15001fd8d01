import Derived.Test.YtihfblnjgaalcaaRB1
import Derived.Test.YtihfblnjgaalcaaOLeast
namespace Go.Proofs.Ytihfblnjgaalcaa.R
open Go.RowKit Go.Proofs.YtihfblnjgaalcaaW.PrintWords Go.Proofs.YtihfblnjgaalcaaW.PrintLast Go.Proofs.YtihfblnjgaalcaaW.PrintMore
attribute [local go_sem] max2_int min2_int max_two min_two max_three min_three max_four min_four
set_option linter.unusedVariables false
set_option linter.unusedSimpArgs false

/-! ### oracle_Sound: function 14 -/
instance goodDec (b : Int) (l : List (S55)) : Decidable (OC.Good b l) := by unfold OC.Good OP.Wd; infer_instance
def oracle_Sound.f (a0_0 : Int) (a0_1 : Int) (a0_2 : Int) (a1 : Int) (l2 : List (S55)) : Option (Int) := if OC.Good a0_0 l2 then some (OC.soundI a0_0 a0_1 a0_2 a1 l2) else none
theorem oracle_Sound.calls (a0_0 : Int) (a0_1 : Int) (a0_2 : Int) (a1 : Int) (A2 : Option Addr) (c2 : Nat) (l2 : List (S55)) (r : Int) (w : World) (hr2 : Kd.C k55 w A2 l2.length l2) (hc2 : l2.length ≤ c2) (h : oracle_Sound.f a0_0 a0_1 a0_2 a1 l2 = some r) :
  Calls Try.prog 14 #[.agg #[.int .u64 a0_0, .int .i64 a0_1, .int .i64 a0_2], .int .i64 a1, .slice A2 l2.length c2] w fun e w' => e = .returned (.int .i64 r) ∧ Below w.heap.size w w' := by
 unfold oracle_Sound.f at h
 by_cases hg : OC.Good a0_0 l2
 ·rw [if_pos hg] at h
  obtain rfl := Option.some.inj h
  exact OC.sound_c a0_0 a0_1 a0_2 a1 A2 c2 l2 w hr2 hc2 hg
 ·rw [if_neg hg] at h
  cases h

/-! ### oracle_Least: function 20 -/
def oracle_Least.f (a0_0 : Int) (a0_1 : Int) (a0_2 : Int) (l1 : List (S55)) (l2 : List Int) : Option (Int × Bool) := if OC.Good a0_0 l1 ∧ l2.length ≤ 17592186044416 ∧ ∀ x ∈ l2, 0 ≤ x ∧ x < 18446744073709551616 then some (OC.leastI a0_0 a0_1 a0_2 l1 l2) else none
theorem oracle_Least.calls (a0_0 : Int) (a0_1 : Int) (a0_2 : Int) (A1 : Option Addr) (c1 : Nat) (l1 : List (S55)) (A2 : Option Addr) (c2 : Nat) (l2 : List Int) (r1 : Int) (r2 : Bool) (w : World) (hr1 : Kd.C k55 w A1 l1.length l1) (hc1 : l1.length ≤ c1) (hr2 : Kd.C (Kd.int .u64) w A2 l2.length l2) (hc2 : l2.length ≤ c2) (h : oracle_Least.f a0_0 a0_1 a0_2 l1 l2 = some (r1, r2)) :
  Calls Try.prog 20 #[.agg #[.int .u64 a0_0, .int .i64 a0_1, .int .i64 a0_2], .slice A1 l1.length c1, .slice A2 l2.length c2] w fun e w' => e = .returned (.tuple #[.int .i64 r1, .bool r2]) ∧ Below w.heap.size w w' := by
 unfold oracle_Least.f at h
 by_cases hg : OC.Good a0_0 l1 ∧ l2.length ≤ 17592186044416 ∧ ∀ x ∈ l2, 0 ≤ x ∧ x < 18446744073709551616
 ·rw [if_pos hg] at h
  have e := Option.some.inj h
  have e1 : (OC.leastI a0_0 a0_1 a0_2 l1 l2).1 = r1 := by rw [e]
  have e2 : (OC.leastI a0_0 a0_1 a0_2 l1 l2).2 = r2 := by rw [e]
  have hw := OC.least_c a0_0 a0_1 a0_2 A1 c1 l1 A2 c2 l2 w hr1 hc1 hr2 hc2 hg.1 hg.2.1 hg.2.2
  rw [e1, e2] at hw
  exact hw
 ·rw [if_neg hg] at h
  cases h

/-! ### oracle_NoFit: function 23 -/
def oracle_NoFit.f (a0_0 : Int) (a0_1 : Int) (a0_2 : Int) (a1 : Int) (l2 : List (S55)) (a3 : Int) : Option (Bool) := if OC.Good a0_0 l2 ∧ 0 ≤ a3 ∧ a3 < 18446744073709551616 then some (OC.nofitB a0_0 a0_1 a0_2 a1 l2 a3) else none
theorem oracle_NoFit.calls (a0_0 : Int) (a0_1 : Int) (a0_2 : Int) (a1 : Int) (A2 : Option Addr) (c2 : Nat) (l2 : List (S55)) (a3 : Int) (r : Bool) (w : World) (hr2 : Kd.C k55 w A2 l2.length l2) (hc2 : l2.length ≤ c2) (h : oracle_NoFit.f a0_0 a0_1 a0_2 a1 l2 a3 = some r) :
  Calls Try.prog 23 #[.agg #[.int .u64 a0_0, .int .i64 a0_1, .int .i64 a0_2], .int .i64 a1, .slice A2 l2.length c2, .int .u64 a3] w fun e w' => e = .returned (.bool r) ∧ Below w.heap.size w w' := by
 unfold oracle_NoFit.f at h
 by_cases hg : OC.Good a0_0 l2 ∧ 0 ≤ a3 ∧ a3 < 18446744073709551616
 ·rw [if_pos hg] at h
  obtain rfl := Option.some.inj h
  exact OC.nofit_c a0_0 a0_1 a0_2 a1 A2 c2 l2 a3 w hr2 hc2 hg.1 hg.2.1 hg.2.2
 ·rw [if_neg hg] at h
  cases h

/-! ### bits_Ceil_uint64: function 50 -/
def bits_Ceil_uint64.f (k : Nat) (a0 : Int) : Option (Int × Bool) := if a0 ≤ 1 then (some (1, true)) else ((bits_Log_uint64.f k (IntKind.u64.wrap (a0 - 1))).bind fun t119 => (if 0 ≤ (wrap64 (t119 + 1)) then (some (shl .u64 1 (wrap64 (t119 + 1)), ((shl .u64 1 (wrap64 (t119 + 1))) != 0))) else (none)))
theorem bits_Ceil_uint64.mono : ∀ a0 k, LeO (bits_Ceil_uint64.f k a0) (bits_Ceil_uint64.f (k + 1) a0) := by
 intro a0 k
 unfold bits_Ceil_uint64.f
 repeat' first
   | (with_reducible exact bits_Log_uint64.mono _ _)
   | (with_reducible exact LeO.refl _)
   | (with_reducible exact LeO.none _)
   | (with_reducible refine LeO.ite ?_ ?_)
   | (with_reducible refine LeO.bind ?_ (fun _ => ?_))
   | exact bits_Log_uint64.mono _ _
   | exact LeO.none _
   | refine LeO.ite ?_ ?_
   | refine LeO.bind ?_ (fun _ => ?_)
set_option maxHeartbeats 8000000 in
set_option maxRecDepth 100000 in
theorem bits_Ceil_uint64.calls (k : Nat) (a0 : Int) (r1 : Int) (r2 : Bool) (w : World) (h : bits_Ceil_uint64.f k a0 = some (r1, r2)) :
  Calls Try.prog 50 #[.int .u64 a0] w fun e w' => e = .returned (.tuple #[.int .u64 r1, .bool r2]) ∧ Drawn0 w w' := by
 have H : (if a0 ≤ 1 then (some (1, true)) else ((bits_Log_uint64.f k (IntKind.u64.wrap (a0 - 1))).bind fun t119 => (if 0 ≤ (wrap64 (t119 + 1)) then (some (shl .u64 1 (wrap64 (t119 + 1)), ((shl .u64 1 (wrap64 (t119 + 1))) != 0))) else (none)))) = some (r1, r2) := h
 clear h
 by_cases c2 : a0 ≤ 1
 ·rw [if_pos c2] at H
  have c2b0 : decide (a0 ≤ 1) = true := decide_eq_true c2
  clear c2
  simp only [Option.some.injEq, Prod.mk.injEq] at H
  obtain ⟨rfl, rfl⟩ := H
  go_enter Try.func50, Try.ntmps50
  go_wp2
  go_ret2
  exact ⟨by first | rfl | (simp; done) | (simp [*]; done), by repeat (first | exact Drawn0.refl _ | apply Drawn0.step)⟩
 ·rw [if_neg c2] at H
  have c2b0 : decide (a0 ≤ 1) = false := decide_eq_false c2
  clear c2
  replace H := Option.bind_eq_some_iff.mp H
  obtain ⟨t119, A30, H⟩ := H
  replace H : (if 0 ≤ (wrap64 (t119 + 1)) then (some (shl .u64 1 (wrap64 (t119 + 1)), ((shl .u64 1 (wrap64 (t119 + 1))) != 0))) else (none)) = some (r1, r2) := H
  have A3 := Aside0.mk A30
  clear A30
  obtain ⟨ji4, hji4⟩ : ∃ j_ : Int, (wrap64 (t119 + 1)) = j_ := ⟨_, rfl⟩
  replace H : (if 0 ≤ (ji4) then (some (shl .u64 1 (ji4), ((shl .u64 1 (ji4)) != 0))) else (none)) = some (r1, r2) := by first | (rw [hji4] at H; exact H) | (simp only [hji4] at H ⊢; exact H)
  (try rw [hji4] at A3)
  have hji4w : (IntKind.i64.wrap (t119 + 1)) = ji4 := (i64_w _).trans hji4
  by_cases c5 : 0 ≤ (ji4)
  ·rw [if_pos c5] at H
   have c5b0 := eq_true c5
   have c5b1 : decide (0 ≤ (ji4)) = true := decide_eq_true c5
   clear c5
   obtain ⟨ji6, hji6⟩ : ∃ j_ : Int, (shl .u64 1 (ji4)) = j_ := ⟨_, rfl⟩
   replace H : (some (ji6, ((ji6) != 0))) = some (r1, r2) := by first | (rw [hji6] at H; exact H) | (simp only [hji6] at H ⊢; exact H)
   (try rw [hji6] at A3)
   have hji6_ : (IntKind.u64.wrap (1 * 2 ^ min (ji4).toNat 64)) = ji6 := hji6
   have hji6z : (ji4) ≤ 64 → (IntKind.u64.wrap (1 * 2 ^ (ji4).toNat)) = ji6 := shl_small hji6
   have hji6u : (IntKind.u64.wrap (2 ^ min (ji4).toNat 64)) = ji6 := by have h_ := hji6_; rw [Int.one_mul] at h_; exact h_
   have hji6v : (ji4) ≤ 64 → (IntKind.u64.wrap (2 ^ (ji4).toNat)) = ji6 := fun hle_ => by have h_ := hji6z hle_; rw [Int.one_mul] at h_; exact h_
   simp only [Option.some.injEq, Prod.mk.injEq] at H
   obtain ⟨rfl, rfl⟩ := H
   go_enter Try.func50, Try.ntmps50
   go_wp2_with (first | ((with_reducible refine gate_callee (f := 54) rfl ?_); refine goesL_ (some 10) rfl rfl Try.func54 (by kernel_rfl) rfl #[.int .u64 (IntKind.u64.wrap (a0 - 1))] rfl (by (try simp only [List.map_toArray, List.map_cons, List.map_nil]); first | done | rfl | (simp only [List.length_drop, List.length_take]; rfl)) ?_; (with_reducible refine (bits_Log_uint64.calls k (IntKind.u64.wrap (a0 - 1)) t119 _ A3.out).mono ?_); rintro e w' ⟨rfl, ⟨nd, rfl⟩⟩; refine ⟨_, rfl, ?_⟩))
   go_ret2
   exact ⟨by first | rfl | (simp; done) | (simp only [← hji4, ← hji6] <;> (first | rfl | simp)) | (simp [*]; done), by repeat (first | exact Drawn0.refl _ | apply Drawn0.step)⟩
  ·rw [if_neg c5] at H
   exact absurd H (by simp)

/-! ### oracle_Round: function 33 -/
def oracle_Round.j0 : Nat → Int → Int → Bool → Int → Int → Int → Option (Int × Int)
 | 0, _, _, _, _, _, _ => none
 | k + 1, x1, x2, x17, x121000, x121001, x121002 => if x17 = true then (some (0, 1)) else ((bits_Ceil_uint64.f k (mx (mx x1 x2) 16)).bind fun bt123 => (if bt123.2 = true then ((oracle_region.f x121000 x121001 x121002).bind fun t125 => (if bt123.1 > t125 then (some (0, 3)) else (some (bt123.1, 0)))) else (some (0, 3))))
def oracle_Round.f (k : Nat) (a0_0 : Int) (a0_1 : Int) (a0_2 : Int) (a1 : Int) (a2 : Int) : Option (Int × Int) := (oracle_may.f a0_0 a0_1 a0_2).bind fun t121 => (if t121 = true then ((bits_IsPower_uint64.f a2).bind fun t122 => (oracle_Round.j0 k a1 a2 (!t122) a0_0 a0_1 a0_2)) else (oracle_Round.j0 k a1 a2 true a0_0 a0_1 a0_2))
theorem oracle_Round.mono_l : ∀ k, (∀ y0 y1 y2 y3 y4 y5, LeO (oracle_Round.j0 k y0 y1 y2 y3 y4 y5) (oracle_Round.j0 (k + 1) y0 y1 y2 y3 y4 y5))
 | 0 => fun _ _ _ _ _ _ r h => by simp [oracle_Round.j0] at h
 | k + 1 => by
  have ih0 := oracle_Round.mono_l k
  ·intro y0 y1 y2 y3 y4 y5
   unfold oracle_Round.j0
   repeat' first
   | (with_reducible exact ih0 _ _ _ _ _ _)
   | (with_reducible exact bits_Ceil_uint64.mono _ _)
   | (with_reducible exact LeO.refl _)
   | (with_reducible exact LeO.none _)
   | (with_reducible refine LeO.ite ?_ ?_)
   | (with_reducible refine LeO.bind ?_ (fun _ => ?_))
   | exact ih0 _ _ _ _ _ _
   | exact bits_Ceil_uint64.mono _ _
   | exact LeO.none _
   | refine LeO.ite ?_ ?_
   | refine LeO.bind ?_ (fun _ => ?_)
theorem oracle_Round.mono : ∀ a0 a1 a2 a3 a4 k, LeO (oracle_Round.f k a0 a1 a2 a3 a4) (oracle_Round.f (k + 1) a0 a1 a2 a3 a4) := by
 intro a0 a1 a2 a3 a4 k
 have ih0 := oracle_Round.mono_l k
 unfold oracle_Round.f
 repeat' first
   | (with_reducible exact ih0 _ _ _ _ _ _)
   | (with_reducible exact bits_Ceil_uint64.mono _ _)
   | (with_reducible exact LeO.refl _)
   | (with_reducible exact LeO.none _)
   | (with_reducible refine LeO.ite ?_ ?_)
   | (with_reducible refine LeO.bind ?_ (fun _ => ?_))
   | exact ih0 _ _ _ _ _ _
   | exact bits_Ceil_uint64.mono _ _
   | exact LeO.none _
   | refine LeO.ite ?_ ?_
   | refine LeO.bind ?_ (fun _ => ?_)
set_option maxHeartbeats 8000000 in
set_option maxRecDepth 100000 in
theorem oracle_Round.calls (k : Nat) (a0_0 : Int) (a0_1 : Int) (a0_2 : Int) (a1 : Int) (a2 : Int) (r1 : Int) (r2 : Int) (w : World) (h : oracle_Round.f k a0_0 a0_1 a0_2 a1 a2 = some (r1, r2)) :
  Calls Try.prog 33 #[.agg #[.int .u64 a0_0, .int .i64 a0_1, .int .i64 a0_2], .int .u64 a1, .int .u64 a2] w fun e w' => e = .returned (.tuple #[.int .u64 r1, .int .i64 r2]) ∧ Below w.heap.size w w' := by
 have hu29 := Try.underlying29
 have HB := Aside0.mk (Below.refl w.heap.size w)
 have H : ((oracle_may.f a0_0 a0_1 a0_2).bind fun t121 => (if t121 = true then ((bits_IsPower_uint64.f a2).bind fun t122 => (oracle_Round.j0 k a1 a2 (!t122) a0_0 a0_1 a0_2)) else (oracle_Round.j0 k a1 a2 true a0_0 a0_1 a0_2))) = some (r1, r2) := h
 clear h
 have HC4 := Aside0.mk H
 clear H
 go_enter Try.func33, Try.ntmps33
 go_upto_region 1 with (first | ((with_reducible refine gate_dst (N := 3) rfl ?_); refine box_event ?hg (N := 3) ?hd (cs := #[.int .u64 a0_0, .int .i64 a0_1, .int .i64 a0_2]) (t := 29) ?hr ?_; (case hd => rfl); (case hg => rfl); (case hr => first | (go_simp; done) | (go_simp; rfl)); intro gb120 hg w5 hbox hb; have n0_ := Aside0.mk (below_step (by repeat (first | (with_reducible first | exact HB.out | apply below_alloc | apply pw_below_drewN | apply below_drew1) | exact HB.out)) hb); have n1_ := Aside0.mk (hbox); have n2_ := Aside0.mk ((by rw [hg]; exact (below_size (by repeat (first | (with_reducible first | exact HB.out | apply below_alloc | apply pw_below_drewN | apply below_drew1) | exact HB.out))) : w.heap.size ≤ gb120)); have n3_ := Aside0.mk ((by rw [hg]; exact (below_size (by repeat (first | (with_reducible first | exact HB.out | apply below_alloc | apply pw_below_drewN | apply below_drew1) | exact HB.out))) : w.heap.size ≤ gb120)); clear HB; have HB := n0_; have BK120 := n1_; have GW120 := n2_; have GE120 := n3_; clear n0_ n1_ n2_ n3_; clear hb hbox hg))
 (try simp only [Act.put, Sa, Sb, Sc])
 go_cut [17] (fun v17 wc => ∃ (kq : Nat) (x17_3 : Bool), v17 = .bool x17_3 ∧ Aside0 (oracle_Round.j0 kq a1 a2 x17_3 a0_0 a0_1 a0_2 = some (r1, r2)) ∧ Aside0 (kq ≤ k) ∧ Aside0 (wc.heap[gb120]? = some (.cells #[.int .u64 a0_0, .int .i64 a0_1, .int .i64 a0_2] 29 (0, 0))) ∧ Aside0 (Below w.heap.size w wc))
 case first =>
  have H := HC4.out
  clear HC4
  replace H := Option.bind_eq_some_iff.mp H
  obtain ⟨t121, A60, H⟩ := H
  replace H : (if t121 = true then ((bits_IsPower_uint64.f a2).bind fun t122 => (oracle_Round.j0 k a1 a2 (!t122) a0_0 a0_1 a0_2)) else (oracle_Round.j0 k a1 a2 true a0_0 a0_1 a0_2)) = some (r1, r2) := H
  have A6 := Aside0.mk A60
  clear A60
  by_cases c7 : t121 = true
  ·subst c7
   have H1 : ((bits_IsPower_uint64.f a2).bind fun t122 => (oracle_Round.j0 k a1 a2 (!t122) a0_0 a0_1 a0_2)) = some (r1, r2) := by rw [if_pos rfl] at H; exact H
   clear H
   have H := H1
   clear H1
   replace H := Option.bind_eq_some_iff.mp H
   obtain ⟨t122, A80, H⟩ := H
   replace H : (oracle_Round.j0 k a1 a2 (!t122) a0_0 a0_1 a0_2) = some (r1, r2) := H
   have A8 := Aside0.mk A80
   clear A80
   have H' := Aside0.mk H
   clear H
   have hcz9_0 : w5.cell? ⟨gb120, 0, none⟩ = some (.int .u64 a0_0) := (blk_cell BK120.out 0).trans rfl
   have hcz9_1 : w5.cell? ⟨gb120, 1, none⟩ = some (.int .i64 a0_1) := (blk_cell BK120.out 1).trans rfl
   have hcz9_2 : w5.cell? ⟨gb120, 2, none⟩ = some (.int .i64 a0_2) := (blk_cell BK120.out 2).trans rfl
   have hfz9_0 := blk_frozen BK120.out 0
   have hfz9_1 := blk_frozen BK120.out 1
   have hfz9_2 := blk_frozen BK120.out 2
   go_wp2_with (first | ((with_reducible refine gate_callee (f := 38) rfl ?_); refine goesL_ (some 11) rfl rfl Try.func38 (by kernel_rfl) rfl #[.agg #[.int .u64 a0_0, .int .i64 a0_1, .int .i64 a0_2]] rfl (by (try simp only [List.map_toArray, List.map_cons, List.map_nil]); first | done | rfl | (simp only [List.length_drop, List.length_take]; rfl)) ?_; (with_reducible refine (oracle_may.calls a0_0 a0_1 a0_2 true _ A6.out).mono ?_); rintro e w10 ⟨rfl, hb⟩; refine ⟨_, rfl, ?_⟩; have n0_ := Aside0.mk (blk_below (g := gb120) (o := .cells #[.int .u64 a0_0, .int .i64 a0_1, .int .i64 a0_2] 29 (0, 0)) (by (with_reducible repeat (first | refine blk_drewN ?_ _ | refine blk_drew ?_ | refine blk_alloc ?_ _)); exact BK120.out) hb); have n1_ := Aside0.mk (below_step (by repeat (first | (with_reducible first | exact HB.out | apply below_alloc | apply pw_below_drewN | apply below_drew1 | refine below_set ?_ GE120.out) | exact HB.out)) hb); clear BK120; clear HB; have BK120 := n0_; have HB := n1_; clear n0_ n1_; (try clear hb); (try clear hb2); (try clear hk); (try clear hi)) | (go_at_call 49; (with_reducible refine (bits_IsPower_uint64.calls a2 t122 _ A8.out).mono ?_); rintro e w' ⟨rfl, ⟨nd, rfl⟩⟩))
   go_meet
   case rel => exact ⟨_, (!t122), (by first | rfl | (simp; done) | (simp [*]; done)), H', ⟨by first | omega | exact Nat.le_refl _⟩, ⟨by (with_reducible repeat (first | refine blk_drewN ?_ _ | refine blk_drew ?_ | refine blk_alloc ?_ _)); exact BK120.out⟩, ⟨by repeat (first | (with_reducible first | exact HB.out | apply below_alloc | apply pw_below_drewN | apply below_drew1 | refine below_set ?_ GE120.out) | exact HB.out)⟩⟩
  ·replace c7 := Bool.eq_false_iff.mpr c7
   subst c7
   have H1 : (oracle_Round.j0 k a1 a2 true a0_0 a0_1 a0_2) = some (r1, r2) := by rw [if_neg (show ¬ (false = true) by decide)] at H; exact H
   clear H
   have H := H1
   clear H1
   have H' := Aside0.mk H
   clear H
   have hcz11_0 : w5.cell? ⟨gb120, 0, none⟩ = some (.int .u64 a0_0) := (blk_cell BK120.out 0).trans rfl
   have hcz11_1 : w5.cell? ⟨gb120, 1, none⟩ = some (.int .i64 a0_1) := (blk_cell BK120.out 1).trans rfl
   have hcz11_2 : w5.cell? ⟨gb120, 2, none⟩ = some (.int .i64 a0_2) := (blk_cell BK120.out 2).trans rfl
   have hfz11_0 := blk_frozen BK120.out 0
   have hfz11_1 := blk_frozen BK120.out 1
   have hfz11_2 := blk_frozen BK120.out 2
   go_wp2_with (first | ((with_reducible refine gate_callee (f := 38) rfl ?_); refine goesL_ (some 11) rfl rfl Try.func38 (by kernel_rfl) rfl #[.agg #[.int .u64 a0_0, .int .i64 a0_1, .int .i64 a0_2]] rfl (by (try simp only [List.map_toArray, List.map_cons, List.map_nil]); first | done | rfl | (simp only [List.length_drop, List.length_take]; rfl)) ?_; (with_reducible refine (oracle_may.calls a0_0 a0_1 a0_2 false _ A6.out).mono ?_); rintro e w12 ⟨rfl, hb⟩; refine ⟨_, rfl, ?_⟩; have n0_ := Aside0.mk (blk_below (g := gb120) (o := .cells #[.int .u64 a0_0, .int .i64 a0_1, .int .i64 a0_2] 29 (0, 0)) (by (with_reducible repeat (first | refine blk_drewN ?_ _ | refine blk_drew ?_ | refine blk_alloc ?_ _)); exact BK120.out) hb); have n1_ := Aside0.mk (below_step (by repeat (first | (with_reducible first | exact HB.out | apply below_alloc | apply pw_below_drewN | apply below_drew1 | refine below_set ?_ GE120.out) | exact HB.out)) hb); clear BK120; clear HB; have BK120 := n0_; have HB := n1_; clear n0_ n1_; (try clear hb); (try clear hb2); (try clear hk); (try clear hi)))
   go_meet
   case rel => exact ⟨_, (true), (by first | rfl | (simp; done) | (simp [*]; done)), H', ⟨by first | omega | exact Nat.le_refl _⟩, ⟨by (with_reducible repeat (first | refine blk_drewN ?_ _ | refine blk_drew ?_ | refine blk_alloc ?_ _)); exact BK120.out⟩, ⟨by repeat (first | (with_reducible first | exact HB.out | apply below_alloc | apply pw_below_drewN | apply below_drew1 | refine below_set ?_ GE120.out) | exact HB.out)⟩⟩
 case rest =>
  clear HC4
  try clear p2; try clear c3; try clear c7; try clear hcz11_0; try clear hcz11_1; try clear hcz11_2; try clear hcz9_0; try clear hcz9_1; try clear hcz9_2; try clear hfz11_0; try clear hfz11_1; try clear hfz11_2; try clear hfz9_0; try clear hfz9_1; try clear hfz9_2
  obtain ⟨kq, x17_3, rfl, HA, HJ3, BK120, HB⟩ := hcut
  cases kq with
  | zero => exact absurd HA.out (by simp [oracle_Round.j0])
  | succ kj3 =>
   have H := HA.out
   clear HA
   simp only [oracle_Round.j0] at H
   by_cases c13 : x17_3 = true
   ·subst c13
    have H1 : (some (0, 1)) = some (r1, r2) := by rw [if_pos rfl] at H; exact H
    clear H
    have H := H1
    clear H1
    simp only [Option.some.injEq, Prod.mk.injEq] at H
    obtain ⟨rfl, rfl⟩ := H
    go_wp2
    go_ret2
    exact ⟨by first | rfl | (simp [errW_none, errW_some] <;> rfl) | (simp [*, errW_none, errW_some] <;> rfl), by repeat (first | (with_reducible first | exact HB.out | apply below_alloc | apply pw_below_drewN | apply below_drew1 | refine below_set ?_ GE120.out) | exact HB.out)⟩
   ·replace c13 := Bool.eq_false_iff.mpr c13
    subst c13
    have H1 : ((bits_Ceil_uint64.f kj3 (mx (mx a1 a2) 16)).bind fun bt123 => (if bt123.2 = true then ((oracle_region.f a0_0 a0_1 a0_2).bind fun t125 => (if bt123.1 > t125 then (some (0, 3)) else (some (bt123.1, 0)))) else (some (0, 3)))) = some (r1, r2) := by rw [if_neg (show ¬ (false = true) by decide)] at H; exact H
    clear H
    have H := H1
    clear H1
    obtain ⟨ji14, hji14⟩ : ∃ j_ : Int, (mx a1 a2) = j_ := ⟨_, rfl⟩
    replace H : ((bits_Ceil_uint64.f kj3 (mx (ji14) 16)).bind fun bt123 => (if bt123.2 = true then ((oracle_region.f a0_0 a0_1 a0_2).bind fun t125 => (if bt123.1 > t125 then (some (0, 3)) else (some (bt123.1, 0)))) else (some (0, 3)))) = some (r1, r2) := by first | (rw [hji14] at H; exact H) | (simp only [hji14] at H ⊢; exact H)
    have hji14_ : (if a1 < a2 then a2 else a1) = ji14 := hji14
    obtain ⟨ji15, hji15⟩ : ∃ j_ : Int, (mx (ji14) 16) = j_ := ⟨_, rfl⟩
    replace H : ((bits_Ceil_uint64.f kj3 (ji15)).bind fun bt123 => (if bt123.2 = true then ((oracle_region.f a0_0 a0_1 a0_2).bind fun t125 => (if bt123.1 > t125 then (some (0, 3)) else (some (bt123.1, 0)))) else (some (0, 3)))) = some (r1, r2) := by first | (rw [hji15] at H; exact H) | (simp only [hji15] at H ⊢; exact H)
    have hji15_ : (if (ji14) < 16 then 16 else (ji14)) = ji15 := hji15
    replace H := Option.bind_eq_some_iff.mp H
    obtain ⟨⟨t123, t124⟩, A160, H⟩ := H
    replace H : (if t124 = true then ((oracle_region.f a0_0 a0_1 a0_2).bind fun t125 => (if t123 > t125 then (some (0, 3)) else (some (t123, 0)))) else (some (0, 3))) = some (r1, r2) := H
    have A16 := Aside0.mk A160
    clear A160
    by_cases c17 : t124 = true
    ·subst c17
     have H1 : ((oracle_region.f a0_0 a0_1 a0_2).bind fun t125 => (if t123 > t125 then (some (0, 3)) else (some (t123, 0)))) = some (r1, r2) := by rw [if_pos rfl] at H; exact H
     clear H
     have H := H1
     clear H1
     replace H := Option.bind_eq_some_iff.mp H
     obtain ⟨t125, A180, H⟩ := H
     replace H : (if t123 > t125 then (some (0, 3)) else (some (t123, 0))) = some (r1, r2) := H
     have A18 := Aside0.mk A180
     clear A180
     by_cases c19 : t123 > t125
     ·rw [if_pos c19] at H
      have c19b0 : decide (t125 < t123) = true := decide_eq_true c19
      clear c19
      simp only [Option.some.injEq, Prod.mk.injEq] at H
      obtain ⟨rfl, rfl⟩ := H
      go_wp2_with (first | ((with_reducible refine gate_callee (f := 50) rfl ?_); refine goesL_ (some 22) rfl rfl Try.func50 (by kernel_rfl) rfl #[.int .u64 ji15] rfl (by (try simp only [List.map_toArray, List.map_cons, List.map_nil]); first | done | (simp only [hji15]; rfl) | rfl | (simp only [List.length_drop, List.length_take]; rfl)) ?_; (with_reducible refine (bits_Ceil_uint64.calls kj3 ji15 t123 true _ A16.out).mono ?_); rintro e w' ⟨rfl, ⟨nd, rfl⟩⟩; refine ⟨_, rfl, ?_⟩; have hcz20_0 : wc.cell? ⟨gb120, 0, none⟩ = some (.int .u64 a0_0) := (blk_cell BK120.out 0).trans rfl; have hcz20_1 : wc.cell? ⟨gb120, 1, none⟩ = some (.int .i64 a0_1) := (blk_cell BK120.out 1).trans rfl; have hcz20_2 : wc.cell? ⟨gb120, 2, none⟩ = some (.int .i64 a0_2) := (blk_cell BK120.out 2).trans rfl; have hfz20_0 := blk_frozen BK120.out 0; have hfz20_1 := blk_frozen BK120.out 1; have hfz20_2 := blk_frozen BK120.out 2) | (go_at_call 51; (with_reducible refine (oracle_region.calls a0_0 a0_1 a0_2 t125 _ A18.out).mono ?_); rintro e w21 ⟨rfl, hb⟩; have n0_ := Aside0.mk (blk_below (g := gb120) (o := .cells #[.int .u64 a0_0, .int .i64 a0_1, .int .i64 a0_2] 29 (0, 0)) (by (with_reducible repeat (first | refine blk_drewN ?_ _ | refine blk_drew ?_ | refine blk_alloc ?_ _)); exact BK120.out) hb); have n1_ := Aside0.mk (below_step (by repeat (first | (with_reducible first | exact HB.out | apply below_alloc | apply pw_below_drewN | apply below_drew1 | refine below_set ?_ GE120.out) | exact HB.out)) hb); clear BK120; clear HB; have BK120 := n0_; have HB := n1_; clear n0_ n1_; (try clear hb); (try clear hb2); (try clear hk); (try clear hi)))
      go_ret2
      exact ⟨by first | rfl | (simp [errW_none, errW_some] <;> rfl) | (simp only [← hji14, ← hji15]; first | rfl | (simp [errW_none, errW_some] <;> rfl)) | (simp [*, errW_none, errW_some] <;> rfl), by repeat (first | (with_reducible first | exact HB.out | apply below_alloc | apply pw_below_drewN | apply below_drew1 | refine below_set ?_ GE120.out) | exact HB.out)⟩
     ·rw [if_neg c19] at H
      have c19b0 : decide (t125 < t123) = false := decide_eq_false c19
      clear c19
      simp only [Option.some.injEq, Prod.mk.injEq] at H
      obtain ⟨rfl, rfl⟩ := H
      go_wp2_with (first | ((with_reducible refine gate_callee (f := 50) rfl ?_); refine goesL_ (some 22) rfl rfl Try.func50 (by kernel_rfl) rfl #[.int .u64 ji15] rfl (by (try simp only [List.map_toArray, List.map_cons, List.map_nil]); first | done | (simp only [hji15]; rfl) | rfl | (simp only [List.length_drop, List.length_take]; rfl)) ?_; (with_reducible refine (bits_Ceil_uint64.calls kj3 ji15 t123 true _ A16.out).mono ?_); rintro e w' ⟨rfl, ⟨nd, rfl⟩⟩; refine ⟨_, rfl, ?_⟩; have hcz22_0 : wc.cell? ⟨gb120, 0, none⟩ = some (.int .u64 a0_0) := (blk_cell BK120.out 0).trans rfl; have hcz22_1 : wc.cell? ⟨gb120, 1, none⟩ = some (.int .i64 a0_1) := (blk_cell BK120.out 1).trans rfl; have hcz22_2 : wc.cell? ⟨gb120, 2, none⟩ = some (.int .i64 a0_2) := (blk_cell BK120.out 2).trans rfl; have hfz22_0 := blk_frozen BK120.out 0; have hfz22_1 := blk_frozen BK120.out 1; have hfz22_2 := blk_frozen BK120.out 2) | (go_at_call 51; (with_reducible refine (oracle_region.calls a0_0 a0_1 a0_2 t125 _ A18.out).mono ?_); rintro e w23 ⟨rfl, hb⟩; have n0_ := Aside0.mk (blk_below (g := gb120) (o := .cells #[.int .u64 a0_0, .int .i64 a0_1, .int .i64 a0_2] 29 (0, 0)) (by (with_reducible repeat (first | refine blk_drewN ?_ _ | refine blk_drew ?_ | refine blk_alloc ?_ _)); exact BK120.out) hb); have n1_ := Aside0.mk (below_step (by repeat (first | (with_reducible first | exact HB.out | apply below_alloc | apply pw_below_drewN | apply below_drew1 | refine below_set ?_ GE120.out) | exact HB.out)) hb); clear BK120; clear HB; have BK120 := n0_; have HB := n1_; clear n0_ n1_; (try clear hb); (try clear hb2); (try clear hk); (try clear hi)))
      go_ret2
      exact ⟨by first | rfl | (simp [errW_none, errW_some] <;> rfl) | (simp only [← hji14, ← hji15]; first | rfl | (simp [errW_none, errW_some] <;> rfl)) | (simp [*, errW_none, errW_some] <;> rfl), by repeat (first | (with_reducible first | exact HB.out | apply below_alloc | apply pw_below_drewN | apply below_drew1 | refine below_set ?_ GE120.out) | exact HB.out)⟩
    ·replace c17 := Bool.eq_false_iff.mpr c17
     subst c17
     have H1 : (some (0, 3)) = some (r1, r2) := by rw [if_neg (show ¬ (false = true) by decide)] at H; exact H
     clear H
     have H := H1
     clear H1
     simp only [Option.some.injEq, Prod.mk.injEq] at H
     obtain ⟨rfl, rfl⟩ := H
     go_wp2_with (first | ((with_reducible refine gate_callee (f := 50) rfl ?_); refine goesL_ (some 22) rfl rfl Try.func50 (by kernel_rfl) rfl #[.int .u64 ji15] rfl (by (try simp only [List.map_toArray, List.map_cons, List.map_nil]); first | done | (simp only [hji15]; rfl) | rfl | (simp only [List.length_drop, List.length_take]; rfl)) ?_; (with_reducible refine (bits_Ceil_uint64.calls kj3 ji15 t123 false _ A16.out).mono ?_); rintro e w' ⟨rfl, ⟨nd, rfl⟩⟩; refine ⟨_, rfl, ?_⟩))
     go_ret2
     exact ⟨by first | rfl | (simp [errW_none, errW_some] <;> rfl) | (simp only [← hji14, ← hji15]; first | rfl | (simp [errW_none, errW_some] <;> rfl)) | (simp [*, errW_none, errW_some] <;> rfl), by repeat (first | (with_reducible first | exact HB.out | apply below_alloc | apply pw_below_drewN | apply below_drew1 | refine below_set ?_ GE120.out) | exact HB.out)⟩

/-! ### croftlaw11_known: function 37 -/
def croftlaw11_known.f  : Option (Int × Int × Int) := some (65536, 2, 1)
set_option maxHeartbeats 8000000 in
set_option maxRecDepth 100000 in
theorem croftlaw11_known.calls  (r1 : Int) (r2 : Int) (r3 : Int) (w : World) (h : croftlaw11_known.f  = some (r1, r2, r3)) :
  Calls Try.prog 37 #[] w fun e w' => e = .returned (.agg #[.int .u64 r1, .int .i64 r2, .int .i64 r3]) ∧ Below w.heap.size w w' := by
 have hu29 := Try.underlying29
 have HB := Aside0.mk (Below.refl w.heap.size w)
 have H : (some (65536, 2, 1)) = some (r1, r2, r3) := h
 clear h
 simp only [Option.some.injEq, Prod.mk.injEq] at H
 obtain ⟨rfl, rfl, rfl⟩ := H
 go_enter Try.func37, Try.ntmps37
 go_wp2_with (first | ((with_reducible refine gate_dst (N := 0) rfl ?_); refine box_event ?hg (N := 0) ?hd (cs := #[.int .u64 0, .int .i64 0, .int .i64 0]) (t := 29) ?hr ?_; (case hd => rfl); (case hg => rfl); (case hr => first | (go_simp; done) | (go_simp; rfl)); intro gb126 hg w1 hbox hb; have n0_ := Aside0.mk (below_step (by repeat (first | (with_reducible first | exact HB.out | apply below_alloc | apply pw_below_drewN | apply below_drew1) | exact HB.out)) hb); have n1_ := Aside0.mk (hbox); have n2_ := Aside0.mk ((by rw [hg]; exact (below_size (by repeat (first | (with_reducible first | exact HB.out | apply below_alloc | apply pw_below_drewN | apply below_drew1) | exact HB.out))) : w.heap.size ≤ gb126)); have n3_ := Aside0.mk ((by rw [hg]; exact (below_size (by repeat (first | (with_reducible first | exact HB.out | apply below_alloc | apply pw_below_drewN | apply below_drew1) | exact HB.out))) : w.heap.size ≤ gb126)); clear HB; have HB := n0_; have BK126 := n1_; have GW126 := n2_; have GE126 := n3_; clear n0_ n1_ n2_ n3_; clear hb hbox hg; have hcz2_0 : w1.cell? ⟨gb126, 0, none⟩ = some (.int .u64 0) := (blk_cell BK126.out 0).trans rfl; have hcz2_1 : w1.cell? ⟨gb126, 1, none⟩ = some (.int .i64 0) := (blk_cell BK126.out 1).trans rfl; have hcz2_2 : w1.cell? ⟨gb126, 2, none⟩ = some (.int .i64 0) := (blk_cell BK126.out 2).trans rfl; have hfz2_0 := blk_frozen BK126.out 0; have hfz2_1 := blk_frozen BK126.out 1; have hfz2_2 := blk_frozen BK126.out 2))
 refine bodyPost_ret (results_cell_row rfl _ _ gb126 29 #[.int .u64 65536, .int .i64 2, .int .i64 1] (0, 0) _ rfl (by (with_reducible repeat (first | refine blk_drewN ?_ _ | refine blk_drew ?_ | refine blk_alloc ?_ _)); refine blk_put (cs := #[.int .u64 65536, .int .i64 2, .int .i64 0]) ?_ 2 _ rfl; (with_reducible repeat (first | refine blk_drewN ?_ _ | refine blk_drew ?_ | refine blk_alloc ?_ _)); refine blk_put (cs := #[.int .u64 65536, .int .i64 0, .int .i64 0]) ?_ 1 _ rfl; (with_reducible repeat (first | refine blk_drewN ?_ _ | refine blk_drew ?_ | refine blk_alloc ?_ _)); refine blk_put (cs := #[.int .u64 0, .int .i64 0, .int .i64 0]) ?_ 0 _ rfl; (with_reducible repeat (first | refine blk_drewN ?_ _ | refine blk_drew ?_ | refine blk_alloc ?_ _)); exact BK126.out) Try.underlying29 rfl (by kernel_rfl)) rfl ?_
 exact ⟨by first | rfl | (simp [errW_none, errW_some] <;> rfl) | (simp [*, errW_none, errW_some] <;> rfl), by repeat (first | (with_reducible first | exact HB.out | apply below_alloc | apply pw_below_drewN | apply below_drew1 | refine below_set ?_ GE126.out) | exact HB.out)⟩

/-! ### croftlaw11_awake: function 18 -/
mutual
def croftlaw11_awake.j0 : Nat → Bool → Option (Bool)
 | 0, _ => none
 | k + 1, x16 => if x16 = true then (some false) else ((some (([(⟨65536, 16⟩ : S55)] : List (S55)) : List (S55))).bind fun y132 => ((croftlaw11_known.f).bind fun bt135 => ((oracle_NoFit.f bt135.1 bt135.2.1 bt135.2.2 1 y132 4096).bind fun t138 => (if t138 = true then (croftlaw11_awake.j1 k true) else ((croftlaw11_known.f).bind fun bt139 => ((oracle_NoFit.f bt139.1 bt139.2.1 bt139.2.2 1 y132 8192).bind fun t142 => (if t142 = true then ((croftlaw11_known.f).bind fun bt143 => ((oracle_Sound.f bt143.1 bt143.2.1 bt143.2.2 1 y132).bind fun t146 => (croftlaw11_awake.j1 k (t146 != (-1))))) else (croftlaw11_awake.j1 k true))))))))
def croftlaw11_awake.j1 : Nat → Bool → Option (Bool)
 | 0, _ => none
 | k + 1, x33 => if x33 = true then (some false) else ((croftlaw11_known.f).bind fun bt147 => ((oracle_Least.f bt147.1 bt147.2.1 bt147.2.2 ([] : List (S55)) (([8192, 4096] : List Int))).bind fun bt153 => (if bt153.1 = 2 then (some bt153.2) else (some false))))
end
def croftlaw11_awake.f (k : Nat)  : Option (Bool) := (croftlaw11_known.f).bind fun bt127 => ((oracle_Round.f k bt127.1 bt127.2.1 bt127.2.2 17 4).bind fun bt130 => (if bt130.1 = 32 then (croftlaw11_awake.j0 k (bt130.2 != 0)) else (croftlaw11_awake.j0 k true)))
theorem croftlaw11_awake.mono_l : ∀ k, (∀ y0, LeO (croftlaw11_awake.j0 k y0) (croftlaw11_awake.j0 (k + 1) y0)) ∧ (∀ y0, LeO (croftlaw11_awake.j1 k y0) (croftlaw11_awake.j1 (k + 1) y0))
 | 0 => ⟨fun _ r h => by simp [croftlaw11_awake.j0] at h, fun _ r h => by simp [croftlaw11_awake.j1] at h⟩
 | k + 1 => by
  obtain ⟨ih0, ih1⟩ := croftlaw11_awake.mono_l k
  refine ⟨?_, ?_⟩
  ·intro y0
   unfold croftlaw11_awake.j0
   repeat' first
   | (with_reducible exact ih0 _)
   | (with_reducible exact ih1 _)
   | (with_reducible exact oracle_Round.mono _ _ _ _ _ _)
   | (with_reducible exact LeO.refl _)
   | (with_reducible exact LeO.none _)
   | (with_reducible refine LeO.ite ?_ ?_)
   | (with_reducible refine LeO.bind ?_ (fun _ => ?_))
   | exact ih0 _
   | exact ih1 _
   | exact oracle_Round.mono _ _ _ _ _ _
   | exact LeO.none _
   | refine LeO.ite ?_ ?_
   | refine LeO.bind ?_ (fun _ => ?_)
  ·intro y0
   unfold croftlaw11_awake.j1
   repeat' first
   | (with_reducible exact ih0 _)
   | (with_reducible exact ih1 _)
   | (with_reducible exact oracle_Round.mono _ _ _ _ _ _)
   | (with_reducible exact LeO.refl _)
   | (with_reducible exact LeO.none _)
   | (with_reducible refine LeO.ite ?_ ?_)
   | (with_reducible refine LeO.bind ?_ (fun _ => ?_))
   | exact ih0 _
   | exact ih1 _
   | exact oracle_Round.mono _ _ _ _ _ _
   | exact LeO.none _
   | refine LeO.ite ?_ ?_
   | refine LeO.bind ?_ (fun _ => ?_)
theorem croftlaw11_awake.mono : ∀ k, LeO (croftlaw11_awake.f k ) (croftlaw11_awake.f (k + 1) ) := by
 intro  k
 obtain ⟨ih0, ih1⟩ := croftlaw11_awake.mono_l k
 unfold croftlaw11_awake.f
 repeat' first
   | (with_reducible exact ih0 _)
   | (with_reducible exact ih1 _)
   | (with_reducible exact oracle_Round.mono _ _ _ _ _ _)
   | (with_reducible exact LeO.refl _)
   | (with_reducible exact LeO.none _)
   | (with_reducible refine LeO.ite ?_ ?_)
   | (with_reducible refine LeO.bind ?_ (fun _ => ?_))
   | exact ih0 _
   | exact ih1 _
   | exact oracle_Round.mono _ _ _ _ _ _
   | exact LeO.none _
   | refine LeO.ite ?_ ?_
   | refine LeO.bind ?_ (fun _ => ?_)
set_option maxHeartbeats 8000000 in
set_option maxRecDepth 100000 in
theorem croftlaw11_awake.calls (k : Nat)  (r : Bool) (w : World) (h : croftlaw11_awake.f k  = some r) :
  Calls Try.prog 18 #[] w fun e w' => e = .returned (.bool r) ∧ Below w.heap.size w w' := by
 have hu55 := Try.underlying55
 have HB := Aside0.mk (Below.refl w.heap.size w)
 have H : ((croftlaw11_known.f).bind fun bt127 => ((oracle_Round.f k bt127.1 bt127.2.1 bt127.2.2 17 4).bind fun bt130 => (if bt130.1 = 32 then (croftlaw11_awake.j0 k (bt130.2 != 0)) else (croftlaw11_awake.j0 k true)))) = some r := h
 clear h
 replace H := Option.bind_eq_some_iff.mp H
 obtain ⟨⟨t127, t128, t129⟩, A10, H⟩ := H
 replace H : ((oracle_Round.f k t127 t128 t129 17 4).bind fun bt130 => (if bt130.1 = 32 then (croftlaw11_awake.j0 k (bt130.2 != 0)) else (croftlaw11_awake.j0 k true))) = some r := H
 have A1 := Aside0.mk A10
 clear A10
 replace H := Option.bind_eq_some_iff.mp H
 obtain ⟨⟨t130, t131⟩, A20, H⟩ := H
 replace H : (if t130 = 32 then (croftlaw11_awake.j0 k (t131 != 0)) else (croftlaw11_awake.j0 k true)) = some r := H
 have A2 := Aside0.mk A20
 clear A20
 have HC3 := Aside0.mk H
 clear H
 go_enter Try.func18, Try.ntmps18
 go_upto_region 2 with (first | ((with_reducible refine gate_callee (f := 37) rfl ?_); refine goesL_ (some 7) rfl rfl Try.func37 (by kernel_rfl) rfl #[] rfl (by (try simp only [List.map_toArray, List.map_cons, List.map_nil]); first | done | rfl | (simp only [List.length_drop, List.length_take]; rfl)) ?_; (with_reducible refine (croftlaw11_known.calls  t127 t128 t129 _ A1.out).mono ?_); rintro e w4 ⟨rfl, hb⟩; refine ⟨_, rfl, ?_⟩; have n0_ := Aside0.mk (below_step (by repeat (first | (with_reducible first | exact HB.out | apply below_alloc | apply pw_below_drewN | apply below_drew1) | exact HB.out)) hb); clear HB; have HB := n0_; clear n0_; (try clear hb); (try clear hb2); (try clear hk); (try clear hi)) | ((with_reducible refine gate_callee (f := 33) rfl ?_); refine goesL_ (some 8) rfl rfl Try.func33 (by kernel_rfl) rfl #[.agg #[.int .u64 t127, .int .i64 t128, .int .i64 t129], .int .u64 17, .int .u64 4] rfl (by (try simp only [List.map_toArray, List.map_cons, List.map_nil]); first | done | rfl | (simp only [List.length_drop, List.length_take]; rfl)) ?_; (with_reducible refine (oracle_Round.calls k t127 t128 t129 17 4 t130 t131 _ A2.out).mono ?_); rintro e w5 ⟨rfl, hb⟩; refine ⟨_, rfl, ?_⟩; have n0_ := Aside0.mk (below_step (by repeat (first | (with_reducible first | exact HB.out | apply below_alloc | apply pw_below_drewN | apply below_drew1) | exact HB.out)) hb); clear HB; have HB := n0_; clear n0_; (try clear hb); (try clear hb2); (try clear hk); (try clear hi)))
 (try simp only [Act.put, Sa, Sb, Sc])
 go_cut [16] (fun v16 wc => ∃ (kq : Nat) (x16_2 : Bool), v16 = .bool x16_2 ∧ Aside0 (croftlaw11_awake.j0 kq x16_2 = some r) ∧ Aside0 (kq ≤ k) ∧ Aside0 (Below w.heap.size w wc))
 case first =>
  have H := HC3.out
  clear HC3
  by_cases c6 : t130 = 32
  ·rw [if_pos c6] at H
   have c6b0 : (t130 == 32) = true := beq_iff_eq.mpr c6
   have c6b1 : (t130 != 32) = false := bne_eq_false_iff_eq.mpr c6
   clear c6
   (first | rw [c6b0] | (simp only [i64_w, i32_w]; rw [c6b0]) | skip)
   have H' := Aside0.mk H
   clear H
   go_wp2
   go_meet
   case rel => exact ⟨_, ((t131 != 0)), (by first | rfl | (simp; done) | (simp [*]; done)), H', ⟨by first | omega | exact Nat.le_refl _⟩, ⟨by repeat (first | (with_reducible first | exact HB.out | apply below_alloc | apply pw_below_drewN | apply below_drew1) | exact HB.out)⟩⟩
  ·rw [if_neg c6] at H
   have c6b0 : (t130 == 32) = false := beq_eq_false_iff_ne.mpr c6
   have c6b1 : (t130 != 32) = true := bne_iff_ne.mpr c6
   (first | rw [c6b0] | (simp only [i64_w, i32_w]; rw [c6b0]) | skip)
   have H' := Aside0.mk H
   clear H
   go_wp2
   go_meet
   case rel => exact ⟨_, (true), (by first | rfl | (simp; done) | (simp [*]; done)), H', ⟨by first | omega | exact Nat.le_refl _⟩, ⟨by repeat (first | (with_reducible first | exact HB.out | apply below_alloc | apply pw_below_drewN | apply below_drew1) | exact HB.out)⟩⟩
 case rest =>
  clear HC3
  try clear c1; try clear p2; try clear c3; try clear c6; try clear c6b0; try clear c6b1
  obtain ⟨kq, x16_2, rfl, HA, HJ2, HB⟩ := hcut
  cases kq with
  | zero => exact absurd HA.out (by simp [croftlaw11_awake.j0])
  | succ kj2 =>
   have H := HA.out
   clear HA
   simp only [croftlaw11_awake.j0] at H
   by_cases c7 : x16_2 = true
   ·subst c7
    have H1 : (some false) = some r := by rw [if_pos rfl] at H; exact H
    clear H
    have H := H1
    clear H1
    obtain rfl := Option.some.inj H
    go_wp2
    go_ret
    exact ⟨by first | rfl | (simp [errW_none, errW_some] <;> rfl) | (simp [*, errW_none, errW_some] <;> rfl), by repeat (first | (with_reducible first | exact HB.out | apply below_alloc | apply pw_below_drewN | apply below_drew1) | exact HB.out)⟩
   ·replace c7 := Bool.eq_false_iff.mpr c7
    subst c7
    have H1 : ((some (([(⟨65536, 16⟩ : S55)] : List (S55)) : List (S55))).bind fun y132 => ((croftlaw11_known.f).bind fun bt135 => ((oracle_NoFit.f bt135.1 bt135.2.1 bt135.2.2 1 y132 4096).bind fun t138 => (if t138 = true then (croftlaw11_awake.j1 kj2 true) else ((croftlaw11_known.f).bind fun bt139 => ((oracle_NoFit.f bt139.1 bt139.2.1 bt139.2.2 1 y132 8192).bind fun t142 => (if t142 = true then ((croftlaw11_known.f).bind fun bt143 => ((oracle_Sound.f bt143.1 bt143.2.1 bt143.2.2 1 y132).bind fun t146 => (croftlaw11_awake.j1 kj2 (t146 != (-1))))) else (croftlaw11_awake.j1 kj2 true)))))))) = some r := by rw [if_neg (show ¬ (false = true) by decide)] at H; exact H
    clear H
    have H := H1
    clear H1
    obtain ⟨y132, hy132⟩ : ∃ y_ : List (S55), y_ = (([(⟨65536, 16⟩ : S55)] : List (S55))) := ⟨_, rfl⟩
    replace H : ((croftlaw11_known.f).bind fun bt135 => ((oracle_NoFit.f bt135.1 bt135.2.1 bt135.2.2 1 y132 4096).bind fun t138 => (if t138 = true then (croftlaw11_awake.j1 kj2 true) else ((croftlaw11_known.f).bind fun bt139 => ((oracle_NoFit.f bt139.1 bt139.2.1 bt139.2.2 1 y132 8192).bind fun t142 => (if t142 = true then ((croftlaw11_known.f).bind fun bt143 => ((oracle_Sound.f bt143.1 bt143.2.1 bt143.2.2 1 y132).bind fun t146 => (croftlaw11_awake.j1 kj2 (t146 != (-1))))) else (croftlaw11_awake.j1 kj2 true))))))) = some r := by first | (rw [hy132]; with_reducible exact H) | (have H2_ := (Option.bind_some _ _).symm.trans H; rw [hy132]; with_reducible exact H2_) | (have H2_ := (Option.bind_some _ _).symm.trans H; with_reducible exact H2_) | with_reducible exact H | (rw [hy132]; exact H) | exact H
    have Ny132 := Aside0.mk hy132
    clear hy132
    have HC8 := Aside0.mk H
    clear H
    go_upto_region 5 with (first | ((with_reducible refine gate_dst (N := 18) rfl ?_); refine Kd.R_lit k55 _ 55 ?hg (N := 18) ?hd (xs := ([(⟨65536, 16⟩ : S55)] : List (S55))) (inner := [.int .u64 65536, .int .u64 16]) (ok := fun _ => True) (okp := fun _ => True) ?hr ?hp (fun _ hk => hk) trivial (Below.refl _ _) (Nat.le_refl _) (by simp) ?_; (case hd => rfl); (case hg => rfl); (case hr => first | (go_simp; done) | (go_simp; rfl)); (case hp => exact (Reps.c2 (show Kd.M k55 _ _ _ (⟨65536, 16⟩ : S55) [.int .u64 65536, .int .u64 16] from (k55_mkM _ _ _ (⟨65536, 16⟩ : S55) )) (Reps.none _ _))); intro v133 w9 ho10 hb hg_ hnew_; clear hg_ hnew_; (first | rw [← Ny132.out] at ho10 | (simp only [Int.reduceToNat] at ho10; rw [← Ny132.out] at ho10)); have n0_ := Aside0.mk (Kd.R_lower ho10 (below_size (by repeat (first | (with_reducible first | exact HB.out | apply below_alloc | apply pw_below_drewN | apply below_drew1) | exact HB.out)))); have n1_ := Aside0.mk (below_step (by repeat (first | (with_reducible first | exact HB.out | apply below_alloc | apply pw_below_drewN | apply below_drew1) | exact HB.out)) hb); clear HB; have HO134 := n0_; have HB := n1_; clear n0_ n1_; clear hb ho10))
    (try simp only [Act.put, Sa, Sb, Sc])
    go_cut [33] (fun v33 wc => ∃ (kq : Nat) (x33_7 : Bool), v33 = .bool x33_7 ∧ Aside0 (croftlaw11_awake.j1 kq x33_7 = some r) ∧ Aside0 (kq ≤ kj2) ∧ Aside0 (Below w.heap.size w wc))
    case first =>
     have H := HC8.out
     clear HC8
     replace H := Option.bind_eq_some_iff.mp H
     obtain ⟨⟨t135, t136, t137⟩, A110, H⟩ := H
     replace H : ((oracle_NoFit.f t135 t136 t137 1 y132 4096).bind fun t138 => (if t138 = true then (croftlaw11_awake.j1 kj2 true) else ((croftlaw11_known.f).bind fun bt139 => ((oracle_NoFit.f bt139.1 bt139.2.1 bt139.2.2 1 y132 8192).bind fun t142 => (if t142 = true then ((croftlaw11_known.f).bind fun bt143 => ((oracle_Sound.f bt143.1 bt143.2.1 bt143.2.2 1 y132).bind fun t146 => (croftlaw11_awake.j1 kj2 (t146 != (-1))))) else (croftlaw11_awake.j1 kj2 true)))))) = some r := H
     have A11 := Aside0.mk A110
     clear A110
     replace H := Option.bind_eq_some_iff.mp H
     obtain ⟨t138, A120, H⟩ := H
     replace H : (if t138 = true then (croftlaw11_awake.j1 kj2 true) else ((croftlaw11_known.f).bind fun bt139 => ((oracle_NoFit.f bt139.1 bt139.2.1 bt139.2.2 1 y132 8192).bind fun t142 => (if t142 = true then ((croftlaw11_known.f).bind fun bt143 => ((oracle_Sound.f bt143.1 bt143.2.1 bt143.2.2 1 y132).bind fun t146 => (croftlaw11_awake.j1 kj2 (t146 != (-1))))) else (croftlaw11_awake.j1 kj2 true))))) = some r := H
     have A12 := Aside0.mk A120
     clear A120
     by_cases c13 : t138 = true
     ·subst c13
      have H1 : (croftlaw11_awake.j1 kj2 true) = some r := by rw [if_pos rfl] at H; exact H
      clear H
      have H := H1
      clear H1
      have H' := Aside0.mk H
      clear H
      go_wp2_with (first | ((with_reducible refine gate_callee (f := 37) rfl ?_); refine goesL_ (some 19) rfl rfl Try.func37 (by kernel_rfl) rfl #[] rfl (by (try simp only [List.map_toArray, List.map_cons, List.map_nil]); first | done | rfl | (simp only [List.length_drop, List.length_take]; rfl)) ?_; (with_reducible refine (croftlaw11_known.calls  t135 t136 t137 _ A11.out).mono ?_); rintro e w14 ⟨rfl, hb⟩; refine ⟨_, rfl, ?_⟩; have n0_ := Aside0.mk (Kd.R_below (by (with_reducible repeat (first | apply Kd.R_alloc | apply Kd.R_drewN | apply Kd.R_drew)); exact HO134.out) hb); have n1_ := Aside0.mk (below_step (by repeat (first | (with_reducible first | exact HB.out | apply below_alloc | apply pw_below_drewN | apply below_drew1) | exact HB.out)) hb); clear HO134; clear HB; have HO134 := n0_; have HB := n1_; clear n0_ n1_; (try clear hb); (try clear hb2); (try clear hk); (try clear hi); obtain ⟨Ao15, co15, eo15⟩ := Kd.R_slice HO134.out; subst eo15) | ((with_reducible refine gate_callee (f := 23) rfl ?_); refine goesL_ (some 21) rfl rfl Try.func23 (by kernel_rfl) rfl #[.agg #[.int .u64 t135, .int .i64 t136, .int .i64 t137], .int .i64 1, .slice Ao15 y132.length co15, .int .u64 4096] rfl (by (try simp only [List.map_toArray, List.map_cons, List.map_nil]); first | done | rfl | (simp only [List.length_drop, List.length_take]; rfl)) ?_; (with_reducible refine (oracle_NoFit.calls t135 t136 t137 1 _ _ y132 4096 true _ ?side1 ?side2 A12.out).mono ?_); (case side1 => repeat (first | exact (Kd.R_reads' HO134.out).2.2 | (with_reducible refine Kd.C_alloc ?_ _) | (with_reducible refine Kd.C_drewN ?_ _) | (with_reducible refine Kd.C_drew ?_))); (case side2 => exact (Kd.R_reads' HO134.out).2.1); rintro e w16 ⟨rfl, hb⟩; refine ⟨_, rfl, ?_⟩; have n0_ := Aside0.mk (Kd.R_below (by (with_reducible repeat (first | apply Kd.R_alloc | apply Kd.R_drewN | apply Kd.R_drew)); exact HO134.out) hb); have n1_ := Aside0.mk (below_step (by repeat (first | (with_reducible first | exact HB.out | apply below_alloc | apply pw_below_drewN | apply below_drew1) | exact HB.out)) hb); clear HO134; clear HB; have HO134 := n0_; have HB := n1_; clear n0_ n1_; (try clear hb); (try clear hb2); (try clear hk); (try clear hi)))
      go_meet
      case rel => exact ⟨_, (true), (by first | rfl | (simp; done) | (simp [*]; done)), H', ⟨by have := HJ2.out; first | omega | exact Nat.le_refl _⟩, ⟨by repeat (first | (with_reducible first | exact HB.out | apply below_alloc | apply pw_below_drewN | apply below_drew1) | exact HB.out)⟩⟩
     ·replace c13 := Bool.eq_false_iff.mpr c13
      subst c13
      have H1 : ((croftlaw11_known.f).bind fun bt139 => ((oracle_NoFit.f bt139.1 bt139.2.1 bt139.2.2 1 y132 8192).bind fun t142 => (if t142 = true then ((croftlaw11_known.f).bind fun bt143 => ((oracle_Sound.f bt143.1 bt143.2.1 bt143.2.2 1 y132).bind fun t146 => (croftlaw11_awake.j1 kj2 (t146 != (-1))))) else (croftlaw11_awake.j1 kj2 true)))) = some r := by rw [if_neg (show ¬ (false = true) by decide)] at H; exact H
      clear H
      have H := H1
      clear H1
      replace H := Option.bind_eq_some_iff.mp H
      obtain ⟨⟨t139, t140, t141⟩, A170, H⟩ := H
      replace H : ((oracle_NoFit.f t139 t140 t141 1 y132 8192).bind fun t142 => (if t142 = true then ((croftlaw11_known.f).bind fun bt143 => ((oracle_Sound.f bt143.1 bt143.2.1 bt143.2.2 1 y132).bind fun t146 => (croftlaw11_awake.j1 kj2 (t146 != (-1))))) else (croftlaw11_awake.j1 kj2 true))) = some r := H
      have A17 := Aside0.mk A170
      clear A170
      replace H := Option.bind_eq_some_iff.mp H
      obtain ⟨t142, A180, H⟩ := H
      replace H : (if t142 = true then ((croftlaw11_known.f).bind fun bt143 => ((oracle_Sound.f bt143.1 bt143.2.1 bt143.2.2 1 y132).bind fun t146 => (croftlaw11_awake.j1 kj2 (t146 != (-1))))) else (croftlaw11_awake.j1 kj2 true)) = some r := H
      have A18 := Aside0.mk A180
      clear A180
      by_cases c19 : t142 = true
      ·subst c19
       have H1 : ((croftlaw11_known.f).bind fun bt143 => ((oracle_Sound.f bt143.1 bt143.2.1 bt143.2.2 1 y132).bind fun t146 => (croftlaw11_awake.j1 kj2 (t146 != (-1))))) = some r := by rw [if_pos rfl] at H; exact H
       clear H
       have H := H1
       clear H1
       replace H := Option.bind_eq_some_iff.mp H
       obtain ⟨⟨t143, t144, t145⟩, A200, H⟩ := H
       replace H : ((oracle_Sound.f t143 t144 t145 1 y132).bind fun t146 => (croftlaw11_awake.j1 kj2 (t146 != (-1)))) = some r := H
       have A20 := Aside0.mk A200
       clear A200
       replace H := Option.bind_eq_some_iff.mp H
       obtain ⟨t146, A210, H⟩ := H
       replace H : (croftlaw11_awake.j1 kj2 (t146 != (-1))) = some r := H
       have A21 := Aside0.mk A210
       clear A210
       have H' := Aside0.mk H
       clear H
       go_wp2_with (first | ((with_reducible refine gate_callee (f := 37) rfl ?_); refine goesL_ (some 19) rfl rfl Try.func37 (by kernel_rfl) rfl #[] rfl (by (try simp only [List.map_toArray, List.map_cons, List.map_nil]); first | done | rfl | (simp only [List.length_drop, List.length_take]; rfl)) ?_; (with_reducible refine (croftlaw11_known.calls  t135 t136 t137 _ A11.out).mono ?_); rintro e w22 ⟨rfl, hb⟩; refine ⟨_, rfl, ?_⟩; have n0_ := Aside0.mk (Kd.R_below (by (with_reducible repeat (first | apply Kd.R_alloc | apply Kd.R_drewN | apply Kd.R_drew)); exact HO134.out) hb); have n1_ := Aside0.mk (below_step (by repeat (first | (with_reducible first | exact HB.out | apply below_alloc | apply pw_below_drewN | apply below_drew1) | exact HB.out)) hb); clear HO134; clear HB; have HO134 := n0_; have HB := n1_; clear n0_ n1_; (try clear hb); (try clear hb2); (try clear hk); (try clear hi); obtain ⟨Ao23, co23, eo23⟩ := Kd.R_slice HO134.out; subst eo23) | ((with_reducible refine gate_callee (f := 23) rfl ?_); refine goesL_ (some 21) rfl rfl Try.func23 (by kernel_rfl) rfl #[.agg #[.int .u64 t135, .int .i64 t136, .int .i64 t137], .int .i64 1, .slice Ao23 y132.length co23, .int .u64 4096] rfl (by (try simp only [List.map_toArray, List.map_cons, List.map_nil]); first | done | rfl | (simp only [List.length_drop, List.length_take]; rfl)) ?_; (with_reducible refine (oracle_NoFit.calls t135 t136 t137 1 _ _ y132 4096 false _ ?side1 ?side2 A12.out).mono ?_); (case side1 => repeat (first | exact (Kd.R_reads' HO134.out).2.2 | (with_reducible refine Kd.C_alloc ?_ _) | (with_reducible refine Kd.C_drewN ?_ _) | (with_reducible refine Kd.C_drew ?_))); (case side2 => exact (Kd.R_reads' HO134.out).2.1); rintro e w24 ⟨rfl, hb⟩; refine ⟨_, rfl, ?_⟩; have n0_ := Aside0.mk (Kd.R_below (by (with_reducible repeat (first | apply Kd.R_alloc | apply Kd.R_drewN | apply Kd.R_drew)); exact HO134.out) hb); have n1_ := Aside0.mk (below_step (by repeat (first | (with_reducible first | exact HB.out | apply below_alloc | apply pw_below_drewN | apply below_drew1) | exact HB.out)) hb); clear HO134; clear HB; have HO134 := n0_; have HB := n1_; clear n0_ n1_; (try clear hb); (try clear hb2); (try clear hk); (try clear hi)) | (go_at_call 37; (with_reducible refine (croftlaw11_known.calls  t139 t140 t141 _ A17.out).mono ?_); clear A17; rintro e w25 ⟨rfl, hb⟩; have n0_ := Aside0.mk (Kd.R_below (by (with_reducible repeat (first | apply Kd.R_alloc | apply Kd.R_drewN | apply Kd.R_drew)); exact HO134.out) hb); have n1_ := Aside0.mk (below_step (by repeat (first | (with_reducible first | exact HB.out | apply below_alloc | apply pw_below_drewN | apply below_drew1) | exact HB.out)) hb); clear HO134; clear HB; have HO134 := n0_; have HB := n1_; clear n0_ n1_; (try clear hb); (try clear hb2); (try clear hk); (try clear hi)) | (go_at_call 23; (with_reducible refine (oracle_NoFit.calls t139 t140 t141 1 _ _ y132 8192 true _ ?side1 ?side2 A18.out).mono ?_); (case side1 => repeat (first | exact (Kd.R_reads' HO134.out).2.2 | (with_reducible refine Kd.C_alloc ?_ _) | (with_reducible refine Kd.C_drewN ?_ _) | (with_reducible refine Kd.C_drew ?_))); (case side2 => exact (Kd.R_reads' HO134.out).2.1); rintro e w26 ⟨rfl, hb⟩; have n0_ := Aside0.mk (Kd.R_below (by (with_reducible repeat (first | apply Kd.R_alloc | apply Kd.R_drewN | apply Kd.R_drew)); exact HO134.out) hb); have n1_ := Aside0.mk (below_step (by repeat (first | (with_reducible first | exact HB.out | apply below_alloc | apply pw_below_drewN | apply below_drew1) | exact HB.out)) hb); clear HO134; clear HB; have HO134 := n0_; have HB := n1_; clear n0_ n1_; (try clear hb); (try clear hb2); (try clear hk); (try clear hi)) | (go_at_call 37; (with_reducible refine (croftlaw11_known.calls  t143 t144 t145 _ A20.out).mono ?_); clear A20; rintro e w27 ⟨rfl, hb⟩; have n0_ := Aside0.mk (Kd.R_below (by (with_reducible repeat (first | apply Kd.R_alloc | apply Kd.R_drewN | apply Kd.R_drew)); exact HO134.out) hb); have n1_ := Aside0.mk (below_step (by repeat (first | (with_reducible first | exact HB.out | apply below_alloc | apply pw_below_drewN | apply below_drew1) | exact HB.out)) hb); clear HO134; clear HB; have HO134 := n0_; have HB := n1_; clear n0_ n1_; (try clear hb); (try clear hb2); (try clear hk); (try clear hi)) | (go_at_call 14; (with_reducible refine (oracle_Sound.calls t143 t144 t145 1 _ _ y132 t146 _ ?side1 ?side2 A21.out).mono ?_); (case side1 => repeat (first | exact (Kd.R_reads' HO134.out).2.2 | (with_reducible refine Kd.C_alloc ?_ _) | (with_reducible refine Kd.C_drewN ?_ _) | (with_reducible refine Kd.C_drew ?_))); (case side2 => exact (Kd.R_reads' HO134.out).2.1); rintro e w28 ⟨rfl, hb⟩; have n0_ := Aside0.mk (Kd.R_below (by (with_reducible repeat (first | apply Kd.R_alloc | apply Kd.R_drewN | apply Kd.R_drew)); exact HO134.out) hb); have n1_ := Aside0.mk (below_step (by repeat (first | (with_reducible first | exact HB.out | apply below_alloc | apply pw_below_drewN | apply below_drew1) | exact HB.out)) hb); clear HO134; clear HB; have HO134 := n0_; have HB := n1_; clear n0_ n1_; (try clear hb); (try clear hb2); (try clear hk); (try clear hi)))
       go_meet
       case rel => exact ⟨_, ((t146 != (-1))), (by first | rfl | (simp; done) | (simp [*]; done)), H', ⟨by have := HJ2.out; first | omega | exact Nat.le_refl _⟩, ⟨by repeat (first | (with_reducible first | exact HB.out | apply below_alloc | apply pw_below_drewN | apply below_drew1) | exact HB.out)⟩⟩
      ·replace c19 := Bool.eq_false_iff.mpr c19
       subst c19
       have H1 : (croftlaw11_awake.j1 kj2 true) = some r := by rw [if_neg (show ¬ (false = true) by decide)] at H; exact H
       clear H
       have H := H1
       clear H1
       have H' := Aside0.mk H
       clear H
       go_wp2_with (first | ((with_reducible refine gate_callee (f := 37) rfl ?_); refine goesL_ (some 19) rfl rfl Try.func37 (by kernel_rfl) rfl #[] rfl (by (try simp only [List.map_toArray, List.map_cons, List.map_nil]); first | done | rfl | (simp only [List.length_drop, List.length_take]; rfl)) ?_; (with_reducible refine (croftlaw11_known.calls  t135 t136 t137 _ A11.out).mono ?_); rintro e w29 ⟨rfl, hb⟩; refine ⟨_, rfl, ?_⟩; have n0_ := Aside0.mk (Kd.R_below (by (with_reducible repeat (first | apply Kd.R_alloc | apply Kd.R_drewN | apply Kd.R_drew)); exact HO134.out) hb); have n1_ := Aside0.mk (below_step (by repeat (first | (with_reducible first | exact HB.out | apply below_alloc | apply pw_below_drewN | apply below_drew1) | exact HB.out)) hb); clear HO134; clear HB; have HO134 := n0_; have HB := n1_; clear n0_ n1_; (try clear hb); (try clear hb2); (try clear hk); (try clear hi); obtain ⟨Ao30, co30, eo30⟩ := Kd.R_slice HO134.out; subst eo30) | ((with_reducible refine gate_callee (f := 23) rfl ?_); refine goesL_ (some 21) rfl rfl Try.func23 (by kernel_rfl) rfl #[.agg #[.int .u64 t135, .int .i64 t136, .int .i64 t137], .int .i64 1, .slice Ao30 y132.length co30, .int .u64 4096] rfl (by (try simp only [List.map_toArray, List.map_cons, List.map_nil]); first | done | rfl | (simp only [List.length_drop, List.length_take]; rfl)) ?_; (with_reducible refine (oracle_NoFit.calls t135 t136 t137 1 _ _ y132 4096 false _ ?side1 ?side2 A12.out).mono ?_); (case side1 => repeat (first | exact (Kd.R_reads' HO134.out).2.2 | (with_reducible refine Kd.C_alloc ?_ _) | (with_reducible refine Kd.C_drewN ?_ _) | (with_reducible refine Kd.C_drew ?_))); (case side2 => exact (Kd.R_reads' HO134.out).2.1); rintro e w31 ⟨rfl, hb⟩; refine ⟨_, rfl, ?_⟩; have n0_ := Aside0.mk (Kd.R_below (by (with_reducible repeat (first | apply Kd.R_alloc | apply Kd.R_drewN | apply Kd.R_drew)); exact HO134.out) hb); have n1_ := Aside0.mk (below_step (by repeat (first | (with_reducible first | exact HB.out | apply below_alloc | apply pw_below_drewN | apply below_drew1) | exact HB.out)) hb); clear HO134; clear HB; have HO134 := n0_; have HB := n1_; clear n0_ n1_; (try clear hb); (try clear hb2); (try clear hk); (try clear hi)) | (go_at_call 37; (with_reducible refine (croftlaw11_known.calls  t139 t140 t141 _ A17.out).mono ?_); clear A17; rintro e w32 ⟨rfl, hb⟩; have n0_ := Aside0.mk (Kd.R_below (by (with_reducible repeat (first | apply Kd.R_alloc | apply Kd.R_drewN | apply Kd.R_drew)); exact HO134.out) hb); have n1_ := Aside0.mk (below_step (by repeat (first | (with_reducible first | exact HB.out | apply below_alloc | apply pw_below_drewN | apply below_drew1) | exact HB.out)) hb); clear HO134; clear HB; have HO134 := n0_; have HB := n1_; clear n0_ n1_; (try clear hb); (try clear hb2); (try clear hk); (try clear hi)) | (go_at_call 23; (with_reducible refine (oracle_NoFit.calls t139 t140 t141 1 _ _ y132 8192 false _ ?side1 ?side2 A18.out).mono ?_); (case side1 => repeat (first | exact (Kd.R_reads' HO134.out).2.2 | (with_reducible refine Kd.C_alloc ?_ _) | (with_reducible refine Kd.C_drewN ?_ _) | (with_reducible refine Kd.C_drew ?_))); (case side2 => exact (Kd.R_reads' HO134.out).2.1); rintro e w33 ⟨rfl, hb⟩; have n0_ := Aside0.mk (Kd.R_below (by (with_reducible repeat (first | apply Kd.R_alloc | apply Kd.R_drewN | apply Kd.R_drew)); exact HO134.out) hb); have n1_ := Aside0.mk (below_step (by repeat (first | (with_reducible first | exact HB.out | apply below_alloc | apply pw_below_drewN | apply below_drew1) | exact HB.out)) hb); clear HO134; clear HB; have HO134 := n0_; have HB := n1_; clear n0_ n1_; (try clear hb); (try clear hb2); (try clear hk); (try clear hi)))
       go_meet
       case rel => exact ⟨_, (true), (by first | rfl | (simp; done) | (simp [*]; done)), H', ⟨by have := HJ2.out; first | omega | exact Nat.le_refl _⟩, ⟨by repeat (first | (with_reducible first | exact HB.out | apply below_alloc | apply pw_below_drewN | apply below_drew1) | exact HB.out)⟩⟩
    case rest =>
     clear HC8
     try clear c1; try clear c2; try clear p2; try clear c3; try clear c6; try clear c6b0; try clear c6b1; try clear c7; try clear c13; try clear c18; try clear c19; try clear c23; try clear c33; try clear p2
     obtain ⟨kq, x33_7, rfl, HA, HJ7, HB⟩ := hcut
     cases kq with
     | zero => exact absurd HA.out (by simp [croftlaw11_awake.j1])
     | succ kj7 =>
      have H := HA.out
      clear HA
      simp only [croftlaw11_awake.j1] at H
      by_cases c34 : x33_7 = true
      ·subst c34
       have H1 : (some false) = some r := by rw [if_pos rfl] at H; exact H
       clear H
       have H := H1
       clear H1
       obtain rfl := Option.some.inj H
       go_wp2
       go_ret
       exact ⟨by first | rfl | (simp [errW_none, errW_some] <;> rfl) | (simp [*, errW_none, errW_some] <;> rfl), by repeat (first | (with_reducible first | exact HB.out | apply below_alloc | apply pw_below_drewN | apply below_drew1) | exact HB.out)⟩
      ·replace c34 := Bool.eq_false_iff.mpr c34
       subst c34
       have H1 : ((croftlaw11_known.f).bind fun bt147 => ((oracle_Least.f bt147.1 bt147.2.1 bt147.2.2 ([] : List (S55)) (([8192, 4096] : List Int))).bind fun bt153 => (if bt153.1 = 2 then (some bt153.2) else (some false)))) = some r := by rw [if_neg (show ¬ (false = true) by decide)] at H; exact H
       clear H
       have H := H1
       clear H1
       replace H := Option.bind_eq_some_iff.mp H
       obtain ⟨⟨t147, t148, t149⟩, A350, H⟩ := H
       replace H : ((oracle_Least.f t147 t148 t149 ([] : List (S55)) (([8192, 4096] : List Int))).bind fun bt153 => (if bt153.1 = 2 then (some bt153.2) else (some false))) = some r := H
       have A35 := Aside0.mk A350
       clear A350
       obtain ⟨y150, hy150⟩ : ∃ y_ : List Int, y_ = (([8192, 4096] : List Int)) := ⟨_, rfl⟩
       replace H : ((oracle_Least.f t147 t148 t149 ([] : List (S55)) y150).bind fun bt153 => (if bt153.1 = 2 then (some bt153.2) else (some false))) = some r := by first | (rw [hy150]; with_reducible exact H) | (have H2_ := (Option.bind_some _ _).symm.trans H; rw [hy150]; with_reducible exact H2_) | (have H2_ := (Option.bind_some _ _).symm.trans H; with_reducible exact H2_) | with_reducible exact H | (rw [hy150]; exact H) | exact H
       have Ny150 := Aside0.mk hy150
       clear hy150
       replace H := Option.bind_eq_some_iff.mp H
       obtain ⟨⟨t153, t154⟩, A360, H⟩ := H
       replace H : (if t153 = 2 then (some t154) else (some false)) = some r := H
       have A36 := Aside0.mk A360
       clear A360
       by_cases c37 : t153 = 2
       ·rw [if_pos c37] at H
        have c37b0 : (t153 == 2) = true := beq_iff_eq.mpr c37
        have c37b1 : (t153 != 2) = false := bne_eq_false_iff_eq.mpr c37
        clear c37
        obtain rfl := Option.some.inj H
        go_wp2_with (first | ((with_reducible refine gate_callee (f := 37) rfl ?_); refine goesL_ (some 35) rfl rfl Try.func37 (by kernel_rfl) rfl #[] rfl (by (try simp only [List.map_toArray, List.map_cons, List.map_nil]); first | done | rfl | (simp only [List.length_drop, List.length_take]; rfl)) ?_; (with_reducible refine (croftlaw11_known.calls  t147 t148 t149 _ A35.out).mono ?_); rintro e w38 ⟨rfl, hb⟩; refine ⟨_, rfl, ?_⟩; have n0_ := Aside0.mk (below_step (by repeat (first | (with_reducible first | exact HB.out | apply below_alloc | apply pw_below_drewN | apply below_drew1) | exact HB.out)) hb); clear HB; have HB := n0_; clear n0_; (try clear hb); (try clear hb2); (try clear hk); (try clear hi)) | ((with_reducible refine gate_dst (N := 36) rfl ?_); refine Kd.R_lit (Kd.int .u64) _ 22 ?hg (N := 36) ?hd (xs := ([8192, 4096] : List Int)) (inner := [.int .u64 8192, .int .u64 4096]) (ok := fun _ => True) (okp := fun _ => True) ?hr ?hp (fun _ hk => hk) trivial (Below.refl _ _) (Nat.le_refl _) (by simp) ?_; (case hd => rfl); (case hg => rfl); (case hr => first | (go_simp; done) | (go_simp; rfl)); (case hp => exact (Reps.one (show Kd.M (Kd.int .u64) _ _ _ 8192 [.int .u64 8192] from rfl) (Reps.one (show Kd.M (Kd.int .u64) _ _ _ 4096 [.int .u64 4096] from rfl) (Reps.none _ _)))); intro v151 w39 ho40 hb hg_ hnew_; clear hg_ hnew_; (first | rw [← Ny150.out] at ho40 | (simp only [Int.reduceToNat] at ho40; rw [← Ny150.out] at ho40)); have n0_ := Aside0.mk (Kd.R_lower ho40 (below_size (by repeat (first | (with_reducible first | exact HB.out | apply below_alloc | apply pw_below_drewN | apply below_drew1) | exact HB.out)))); have n1_ := Aside0.mk (below_step (by repeat (first | (with_reducible first | exact HB.out | apply below_alloc | apply pw_below_drewN | apply below_drew1) | exact HB.out)) hb); clear HB; have HO152 := n0_; have HB := n1_; clear n0_ n1_; clear hb ho40; obtain ⟨Ao41, co41, eo41⟩ := Kd.R_slice HO152.out; subst eo41) | ((with_reducible refine gate_callee (f := 20) rfl ?_); refine goesL_ (some 37) rfl rfl Try.func20 (by kernel_rfl) rfl #[.agg #[.int .u64 t147, .int .i64 t148, .int .i64 t149], .slice none 0 0, .slice Ao41 y150.length co41] rfl (by (try simp only [List.map_toArray, List.map_cons, List.map_nil]); first | done | rfl | (simp only [List.length_drop, List.length_take]; rfl)) ?_; (refine (oracle_Least.calls t147 t148 t149 _ _ ([] : List (S55)) _ _ y150 t153 t154 _ ?side1 ?side2 ?side3 ?side4 A36.out).mono ?_); (case side1 => exact Kd.C_nil _ _); (case side2 => exact Nat.le_refl _); (case side3 => repeat (first | exact (Kd.R_reads' HO152.out).2.2 | (with_reducible refine Kd.C_alloc ?_ _) | (with_reducible refine Kd.C_drewN ?_ _) | (with_reducible refine Kd.C_drew ?_))); (case side4 => exact (Kd.R_reads' HO152.out).2.1); rintro e w42 ⟨rfl, hb⟩; refine ⟨_, rfl, ?_⟩; have n0_ := Aside0.mk (Kd.R_below (by (with_reducible repeat (first | apply Kd.R_alloc | apply Kd.R_drewN | apply Kd.R_drew)); exact HO152.out) hb); have n1_ := Aside0.mk (below_step (by repeat (first | (with_reducible first | exact HB.out | apply below_alloc | apply pw_below_drewN | apply below_drew1) | exact HB.out)) hb); clear HO152; clear HB; have HO152 := n0_; have HB := n1_; clear n0_ n1_; (try clear hb); (try clear hb2); (try clear hk); (try clear hi)))
        go_ret
        exact ⟨by first | rfl | (simp [errW_none, errW_some] <;> rfl) | (simp [*, errW_none, errW_some] <;> rfl), by repeat (first | (with_reducible first | exact HB.out | apply below_alloc | apply pw_below_drewN | apply below_drew1) | exact HB.out)⟩
       ·rw [if_neg c37] at H
        have c37b0 : (t153 == 2) = false := beq_eq_false_iff_ne.mpr c37
        have c37b1 : (t153 != 2) = true := bne_iff_ne.mpr c37
        obtain rfl := Option.some.inj H
        go_wp2_with (first | ((with_reducible refine gate_callee (f := 37) rfl ?_); refine goesL_ (some 35) rfl rfl Try.func37 (by kernel_rfl) rfl #[] rfl (by (try simp only [List.map_toArray, List.map_cons, List.map_nil]); first | done | rfl | (simp only [List.length_drop, List.length_take]; rfl)) ?_; (with_reducible refine (croftlaw11_known.calls  t147 t148 t149 _ A35.out).mono ?_); rintro e w43 ⟨rfl, hb⟩; refine ⟨_, rfl, ?_⟩; have n0_ := Aside0.mk (below_step (by repeat (first | (with_reducible first | exact HB.out | apply below_alloc | apply pw_below_drewN | apply below_drew1) | exact HB.out)) hb); clear HB; have HB := n0_; clear n0_; (try clear hb); (try clear hb2); (try clear hk); (try clear hi)) | ((with_reducible refine gate_dst (N := 36) rfl ?_); refine Kd.R_lit (Kd.int .u64) _ 22 ?hg (N := 36) ?hd (xs := ([8192, 4096] : List Int)) (inner := [.int .u64 8192, .int .u64 4096]) (ok := fun _ => True) (okp := fun _ => True) ?hr ?hp (fun _ hk => hk) trivial (Below.refl _ _) (Nat.le_refl _) (by simp) ?_; (case hd => rfl); (case hg => rfl); (case hr => first | (go_simp; done) | (go_simp; rfl)); (case hp => exact (Reps.one (show Kd.M (Kd.int .u64) _ _ _ 8192 [.int .u64 8192] from rfl) (Reps.one (show Kd.M (Kd.int .u64) _ _ _ 4096 [.int .u64 4096] from rfl) (Reps.none _ _)))); intro v151 w44 ho45 hb hg_ hnew_; clear hg_ hnew_; (first | rw [← Ny150.out] at ho45 | (simp only [Int.reduceToNat] at ho45; rw [← Ny150.out] at ho45)); have n0_ := Aside0.mk (Kd.R_lower ho45 (below_size (by repeat (first | (with_reducible first | exact HB.out | apply below_alloc | apply pw_below_drewN | apply below_drew1) | exact HB.out)))); have n1_ := Aside0.mk (below_step (by repeat (first | (with_reducible first | exact HB.out | apply below_alloc | apply pw_below_drewN | apply below_drew1) | exact HB.out)) hb); clear HB; have HO152 := n0_; have HB := n1_; clear n0_ n1_; clear hb ho45; obtain ⟨Ao46, co46, eo46⟩ := Kd.R_slice HO152.out; subst eo46) | ((with_reducible refine gate_callee (f := 20) rfl ?_); refine goesL_ (some 37) rfl rfl Try.func20 (by kernel_rfl) rfl #[.agg #[.int .u64 t147, .int .i64 t148, .int .i64 t149], .slice none 0 0, .slice Ao46 y150.length co46] rfl (by (try simp only [List.map_toArray, List.map_cons, List.map_nil]); first | done | rfl | (simp only [List.length_drop, List.length_take]; rfl)) ?_; (refine (oracle_Least.calls t147 t148 t149 _ _ ([] : List (S55)) _ _ y150 t153 t154 _ ?side1 ?side2 ?side3 ?side4 A36.out).mono ?_); (case side1 => exact Kd.C_nil _ _); (case side2 => exact Nat.le_refl _); (case side3 => repeat (first | exact (Kd.R_reads' HO152.out).2.2 | (with_reducible refine Kd.C_alloc ?_ _) | (with_reducible refine Kd.C_drewN ?_ _) | (with_reducible refine Kd.C_drew ?_))); (case side4 => exact (Kd.R_reads' HO152.out).2.1); rintro e w47 ⟨rfl, hb⟩; refine ⟨_, rfl, ?_⟩; have n0_ := Aside0.mk (Kd.R_below (by (with_reducible repeat (first | apply Kd.R_alloc | apply Kd.R_drewN | apply Kd.R_drew)); exact HO152.out) hb); have n1_ := Aside0.mk (below_step (by repeat (first | (with_reducible first | exact HB.out | apply below_alloc | apply pw_below_drewN | apply below_drew1) | exact HB.out)) hb); clear HO152; clear HB; have HO152 := n0_; have HB := n1_; clear n0_ n1_; (try clear hb); (try clear hb2); (try clear hk); (try clear hi)))
        go_ret
        exact ⟨by first | rfl | (simp [errW_none, errW_some] <;> rfl) | (simp [*, errW_none, errW_some] <;> rfl), by repeat (first | (with_reducible first | exact HB.out | apply below_alloc | apply pw_below_drewN | apply below_drew1) | exact HB.out)⟩


end Go.Proofs.Ytihfblnjgaalcaa.R
