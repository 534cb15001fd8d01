/- Part 7 of what the rows of this seat rest on: words of the print that they need; how images, spaces, sets lie in memory; the functions walked. -/
import Derived.Deep.RegionLaw
import Derived.Deep.DeepCutAuto
import Derived.Laws.CopyOwn
import Derived.Defers
import Derived.Recover
import Derived.Test.YtkgedpcipaogjaaZ4
import Derived.Test.YtkgedpcipaogjaaZ6
section
namespace Go.Proofs.Ytkgedpcipaogjaa.WB
open Go Go.RowKit Go.Proofs.YtkgedpcipaogjaaW.PrintWords Go.Proofs.YtkgedpcipaogjaaW.PrintLast Go.Proofs.YtkgedpcipaogjaaW.PrintMore
set_option linter.unusedVariables false
set_option linter.unusedSimpArgs false
theorem sh_lim {l o : Nat} (hl : l ≤ 64) (ho : o ≤ 8) : wrap64 ((l : Int) * 2 ^ o) = ((l * 2 ^ o : Nat) : Int) := by
  have h1 : 2 ^ o ≤ 2 ^ 8 := Nat.pow_le_pow_right (by decide) ho
  have h2 : l * 2 ^ o ≤ 64 * 2 ^ 8 := Nat.mul_le_mul hl h1
  have e : (l : Int) * 2 ^ o = ((l * 2 ^ o : Nat) : Int) := by simp
  rw [e]
  generalize l * 2 ^ o = x at *
  unfold wrap64; omega
attribute [local go_sem] max2_int min2_int max_two min_two
set_option maxRecDepth 100000 in
set_option maxHeartbeats 4000000 in
theorem config_c {F : Nat → Prop} {gv : Nat} {im : Im} {s : Sl} {P : Value} {w : World} (h : V F gv im s P w) (hF : ∀ b, F b → b < w.heap.size) (hgv : gv < w.heap.size) :
    RuleB 52 gv w (if mayB im.base im.limit im.order = true then none else some 0) := by
  obtain ⟨c0, c1, c2, c3, c4, c5, c6, c7, c8, c9⟩ := h.cell
  have hbu := h.im.wf.base
  have HV := Lib.hid (show V F gv im s P (w.alloc (.cells #[.int .u64 im.base, .int .i64 im.limit, .int .i64 im.order] 24 (0, 0))) from h.keep (Below.heap_alloc w _ _ hgv) (fun b hb => Below.heap_alloc w _ _ (hF b hb)))
  clear h hF hgv
  clear c3 c4 c5 c6 c7 c8 c9
  have HBU := Lib.hid hbu
  clear hbu
  have bad : mayB im.base im.limit im.order = false → (if mayB im.base im.limit im.order = true then (none : Option Int) else some 0) = some 0 := fun h => by rw [h]; rfl
  have good : mayB im.base im.limit im.order = true → (if mayB im.base im.limit im.order = true then (none : Option Int) else some 0) = none := fun h => by rw [h]; rfl
  cases hO : inB im.order 0 8 with
  | false =>
    refine rule_bad (bad (by unfold mayB; rw [hO]; rfl)) ?_
    clear bad good
    have HSZ := ()
    go_enter Try.func52, Try.ntmps52
    go_wp2_with (first | (go_at_call 78; refine (within_i _ _ _ _).mono ?_; rintro e w5 ⟨rfl, rfl⟩) | (go_at_call 77; refine (must_c _ _ _).mono ?_; rintro e w5 ⟨m1, m2, rfl⟩; first | (obtain rfl := m1 rfl; clear m1 m2) | (obtain rfl := m2 rfl; clear m1 m2)) | (go_at_call 79; refine HSZ.out.mono ?_; rintro e w5 ⟨rfl, rfl⟩))
    exact ⟨rfl, rfl, (Below.refl w.heap.size w).alloc (Nat.le_refl _) _⟩
  | true =>
  cases hL : inB im.limit 1 64 with
  | false =>
    refine rule_bad (bad (by unfold mayB; rw [hO, hL]; rfl)) ?_
    clear bad good
    have HSZ := ()
    go_enter Try.func52, Try.ntmps52
    go_wp2_with (first | (go_at_call 78; refine (within_i _ _ _ _).mono ?_; rintro e w5 ⟨rfl, rfl⟩) | (go_at_call 77; refine (must_c _ _ _).mono ?_; rintro e w5 ⟨m1, m2, rfl⟩; first | (obtain rfl := m1 rfl; clear m1 m2) | (obtain rfl := m2 rfl; clear m1 m2)) | (go_at_call 79; refine HSZ.out.mono ?_; rintro e w5 ⟨rfl, rfl⟩))
    exact ⟨rfl, rfl, (Below.refl w.heap.size w).alloc (Nat.le_refl _) _⟩
  | true =>
  have HO := inB_t.1 hO
  have HL := inB_t.1 hL
  have HSZ := Lib.hid (size_c (HV.out.keep (w' := (w.alloc (.cells #[.int .u64 im.base, .int .i64 im.limit, .int .i64 im.order] 24 (0, 0))).drew) rfl (fun _ _ => rfl)) HO.1 HO.2)
  obtain ⟨o, ho⟩ : ∃ o : Nat, im.order = o := ⟨im.order.toNat, by omega⟩
  obtain ⟨l, hl⟩ : ∃ l : Nat, im.limit = l := ⟨im.limit.toNat, by omega⟩
  obtain ⟨t, ht⟩ : ∃ t : Nat, t = l * 2 ^ o := ⟨_, rfl⟩
  have hsh := sh_lim (l := l) (o := o) (by omega) (by omega)
  rw [← ht] at hsh
  have ho0 : ¬ (o : Int) < 0 := by omega
  have ho8 : o ≤ 8 := by omega
  have hoI : (o : Int) ≤ 8 := by omega
  have hte : im.limit * 2 ^ im.order.toNat = (t : Int) := by rw [hl, ho, Int.toNat_natCast, ht]; simp
  obtain ⟨r, hr⟩ : ∃ r : Nat, r = 4096 * 2 ^ o := ⟨_, rfl⟩
  have hRR : RR im.order = (r : Int) := by unfold RR; rw [ho, Int.toNat_natCast, hr]; simp
  have hrb : 4096 ≤ r ∧ r ≤ 1048576 := by
    have h1 : 2 ^ o ≤ 2 ^ 8 := Nat.pow_le_pow_right (by decide) ho8
    have h2 : 0 < 2 ^ o := Nat.pow_pos (by decide)
    omega
  rw [show (4096 : Int) * 2 ^ im.order.toNat = (r : Int) from hRR] at HSZ
  have hmay : mayB im.base im.limit im.order = (decide ((t : Int) ≤ 1024) && (im.base != 0 && (im.base % (r : Int) == 0 && (decide (im.base ≤ 9223372036854775808) && decide ((l : Int) * (r : Int) ≤ 9223372036854775808 - im.base))))) := by
    unfold mayB
    rw [hO, hL, hte, hRR, hl]
    rfl
  rw [hmay] at bad good ⊢
  rw [ho] at hO HSZ HV
  rw [ho] at c2
  rw [hl] at hL HSZ HV
  rw [hl] at c1
  have HT := Lib.hid ht
  have HR := Lib.hid hr
  have HRB := Lib.hid hrb
  have HLB := Lib.hid HL
  clear ht hr hRR hte hmay HO HL hrb HV ho
  by_cases ht2 : t ≤ 1024
  case neg =>
    have hd1 : decide ((t : Int) ≤ 1024) = false := decide_eq_false (by omega)
    refine rule_bad (bad (by rw [hd1]; rfl)) ?_
    clear bad good ht2
    go_enter Try.func52, Try.ntmps52
    go_wp2_with (first | (go_at_call 78; refine (within_i _ _ _ _).mono ?_; rintro e w5 ⟨rfl, rfl⟩) | (go_at_call 77; refine (must_c _ _ _).mono ?_; rintro e w5 ⟨m1, m2, rfl⟩; first | (obtain rfl := m1 rfl; clear m1 m2) | (obtain rfl := m2 rfl; clear m1 m2)) | (go_at_call 79; refine HSZ.out.mono ?_; rintro e w5 ⟨rfl, rfl⟩))
    exact ⟨rfl, rfl, (Below.refl w.heap.size w).alloc (Nat.le_refl _) _⟩
  case pos =>
  have hd1 : decide ((t : Int) ≤ 1024) = true := decide_eq_true (by omega)
  clear ht2
  obtain ⟨w2, hw2⟩ : ∃ w2, (w.alloc (.cells #[.int .u64 im.base, .int .i64 (l : Int), .int .i64 (o : Int)] 24 (0, 0))).drew = w2 := ⟨_, rfl⟩
  have hnew2 : w2.heap[w.heap.size]? = some (.cells #[.int .u64 im.base, .int .i64 (l : Int), .int .i64 (o : Int)] 24 (0, 0)) := by rw [← hw2]; exact blk_new w _
  have k0 := blk_cell hnew2 0
  have k1 := blk_cell hnew2 1
  have k2 := blk_cell hnew2 2
  have HB2 := Lib.hid (show Below w.heap.size w w2 from hw2 ▸ below_drew1 ((Below.refl w.heap.size w).alloc (Nat.le_refl _) _))
  have HW2 := Lib.hid hw2
  rw [hw2] at HSZ
  clear hnew2 hw2
  by_cases hb0 : im.base = 0
  case pos =>
    have hd2 : (im.base != 0) = false := by rw [hb0]; rfl
    refine rule_bad (bad (by rw [hd1, hd2]; rfl)) ?_
    clear bad good hb0
    go_enter Try.func52, Try.ntmps52
    go_wp2_with (first | (go_at_call 78; refine (within_i _ _ _ _).mono ?_; rintro e w5 ⟨rfl, rfl⟩) | (go_at_call 77; refine (must_c _ _ _).mono ?_; rintro e w5 ⟨m1, m2, rfl⟩; first | (obtain rfl := m1 rfl; clear m1 m2) | (obtain rfl := m2 rfl; clear m1 m2)) | (go_at_call 79; refine HSZ.out.mono ?_; rintro e w5 ⟨rfl, rfl⟩))
    refine bx_tail 28 HW2.out (by kernel_rfl) (by kernel_rfl) ?_
    simp only [List.take_succ_cons, List.take_zero, List.drop_succ_cons, List.drop_zero]
    iterate 4 (refine bx_want (by kernel_rfl) (fun K hK => ?_); go_simp; refine hK _ ?_; clear hK K)
    iterate 6 (refine bx_skip (by kernel_rfl) ?_; simp only [Act.put, List.setIfInBounds_toArray, List.set_cons_succ, List.set_cons_zero])
    iterate 2 (refine bx_want (by kernel_rfl) (fun K hK => ?_); go_simp; refine hK _ ?_; clear hK K)
    iterate 3 (refine bx_skip (by kernel_rfl) ?_; simp only [Act.put, List.setIfInBounds_toArray, List.set_cons_succ, List.set_cons_zero])
    iterate 2 (refine bx_want (by kernel_rfl) (fun K hK => ?_); go_simp; refine hK _ ?_; clear hK K)
    iterate 10 (refine bx_skip (by kernel_rfl) ?_; simp only [Act.put, List.setIfInBounds_toArray, List.set_cons_succ, List.set_cons_zero])
    iterate 1 (refine bx_want (by kernel_rfl) (fun K hK => ?_); go_simp; refine hK _ ?_; clear hK K)
    refine bx_nil ?_
    go_wp2_with (first | (go_at_call 78; refine (within_i _ _ _ _).mono ?_; rintro e w5 ⟨rfl, rfl⟩) | (go_at_call 77; refine (must_c _ _ _).mono ?_; rintro e w5 ⟨m1, m2, rfl⟩; first | (obtain rfl := m1 rfl; clear m1 m2) | (obtain rfl := m2 rfl; clear m1 m2)) | (go_at_call 79; refine HSZ.out.mono ?_; rintro e w5 ⟨rfl, rfl⟩))
    exact ⟨rfl, rfl, HB2.out⟩
  case neg =>
  have hd2 : (im.base != 0) = true := by simpa using hb0
  have HB0 := Lib.hid hb0
  clear hb0
  have htm : im.base.tmod (r : Int) = im.base % (r : Int) := Int.tmod_eq_emod_of_nonneg HBU.out.1
  have hr0 : ¬ ((r : Int) = 0) := by have := HRB.out; omega
  have hr0N : ¬ (r = 0) := by have := HRB.out; omega
  by_cases hm : im.base % (r : Int) = 0
  case neg =>
    have hd3 : (im.base % (r : Int) == 0) = false := by simpa using hm
    refine rule_bad (bad (by rw [hd1, hd2, hd3]; rfl)) ?_
    clear bad good hm
    go_enter Try.func52, Try.ntmps52
    go_wp2_with (first | (go_at_call 78; refine (within_i _ _ _ _).mono ?_; rintro e w5 ⟨rfl, rfl⟩) | (go_at_call 77; refine (must_c _ _ _).mono ?_; rintro e w5 ⟨m1, m2, rfl⟩; first | (obtain rfl := m1 rfl; clear m1 m2) | (obtain rfl := m2 rfl; clear m1 m2)) | (go_at_call 79; refine HSZ.out.mono ?_; rintro e w5 ⟨rfl, rfl⟩))
    refine bx_tail 28 HW2.out (by kernel_rfl) (by kernel_rfl) ?_
    simp only [List.take_succ_cons, List.take_zero, List.drop_succ_cons, List.drop_zero]
    iterate 7 (refine bx_want (by kernel_rfl) (fun K hK => ?_); go_simp; refine hK _ ?_; clear hK K)
    iterate 1 (refine bx_want (by kernel_rfl) (fun K hK => ?_); go_simp; refine ⟨_, HSZ.out, hK _ ?_⟩; clear hK K)
    iterate 4 (refine bx_want (by kernel_rfl) (fun K hK => ?_); go_simp; refine hK _ ?_; clear hK K)
    iterate 3 (refine bx_skip (by kernel_rfl) ?_; simp only [Act.put, List.setIfInBounds_toArray, List.set_cons_succ, List.set_cons_zero])
    iterate 2 (refine bx_want (by kernel_rfl) (fun K hK => ?_); go_simp; refine hK _ ?_; clear hK K)
    iterate 10 (refine bx_skip (by kernel_rfl) ?_; simp only [Act.put, List.setIfInBounds_toArray, List.set_cons_succ, List.set_cons_zero])
    iterate 1 (refine bx_want (by kernel_rfl) (fun K hK => ?_); go_simp; refine hK _ ?_; clear hK K)
    refine bx_nil ?_
    go_wp2_with (first | (go_at_call 78; refine (within_i _ _ _ _).mono ?_; rintro e w5 ⟨rfl, rfl⟩) | (go_at_call 77; refine (must_c _ _ _).mono ?_; rintro e w5 ⟨m1, m2, rfl⟩; first | (obtain rfl := m1 rfl; clear m1 m2) | (obtain rfl := m2 rfl; clear m1 m2)) | (go_at_call 79; refine HSZ.out.mono ?_; rintro e w5 ⟨rfl, rfl⟩))
    exact ⟨rfl, rfl, HB2.out⟩
  case pos =>
  have hd3 : (im.base % (r : Int) == 0) = true := by simpa using hm
  clear hm
  by_cases hb : im.base ≤ 9223372036854775808
  case neg =>
    have hd4 : decide (im.base ≤ 9223372036854775808) = false := decide_eq_false hb
    refine rule_bad (bad (by rw [hd1, hd2, hd3, hd4]; rfl)) ?_
    clear bad good hb
    go_enter Try.func52, Try.ntmps52
    go_wp2_with (first | (go_at_call 78; refine (within_i _ _ _ _).mono ?_; rintro e w5 ⟨rfl, rfl⟩) | (go_at_call 77; refine (must_c _ _ _).mono ?_; rintro e w5 ⟨m1, m2, rfl⟩; first | (obtain rfl := m1 rfl; clear m1 m2) | (obtain rfl := m2 rfl; clear m1 m2)) | (go_at_call 79; refine HSZ.out.mono ?_; rintro e w5 ⟨rfl, rfl⟩))
    refine bx_tail 28 HW2.out (by kernel_rfl) (by kernel_rfl) ?_
    simp only [List.take_succ_cons, List.take_zero, List.drop_succ_cons, List.drop_zero]
    iterate 7 (refine bx_want (by kernel_rfl) (fun K hK => ?_); go_simp; refine hK _ ?_; clear hK K)
    iterate 1 (refine bx_want (by kernel_rfl) (fun K hK => ?_); go_simp; refine ⟨_, HSZ.out, hK _ ?_⟩; clear hK K)
    iterate 9 (refine bx_want (by kernel_rfl) (fun K hK => ?_); go_simp; refine hK _ ?_; clear hK K)
    iterate 10 (refine bx_skip (by kernel_rfl) ?_; simp only [Act.put, List.setIfInBounds_toArray, List.set_cons_succ, List.set_cons_zero])
    iterate 1 (refine bx_want (by kernel_rfl) (fun K hK => ?_); go_simp; refine hK _ ?_; clear hK K)
    refine bx_nil ?_
    go_wp2_with (first | (go_at_call 78; refine (within_i _ _ _ _).mono ?_; rintro e w5 ⟨rfl, rfl⟩) | (go_at_call 77; refine (must_c _ _ _).mono ?_; rintro e w5 ⟨m1, m2, rfl⟩; first | (obtain rfl := m1 rfl; clear m1 m2) | (obtain rfl := m2 rfl; clear m1 m2)) | (go_at_call 79; refine HSZ.out.mono ?_; rintro e w5 ⟨rfl, rfl⟩))
    exact ⟨rfl, rfl, HB2.out⟩
  case pos =>
  have hd4 : decide (im.base ≤ 9223372036854775808) = true := decide_eq_true hb
  obtain ⟨y, hy⟩ : ∃ y : Nat, y = l * r := ⟨_, rfl⟩
  have hyI : (l : Int) * (r : Int) = (y : Int) := by rw [hy]; simp
  have hyb : y ≤ 64 * 1048576 := by
    rw [hy]
    exact Nat.mul_le_mul (by have := HLB.out; omega) HRB.out.2
  obtain ⟨z, hz⟩ : ∃ z : Int, z = 9223372036854775808 - im.base := ⟨_, rfl⟩
  have hz1 : IntKind.u64.wrap (9223372036854775808 - im.base) = z := by rw [hz]; exact wrap_u64_in (by omega) (by have := HBU.out.1; omega)
  have hl1 : IntKind.u64.wrap (l : Int) = (l : Int) := wrap_u64_in (by omega) (by have := HLB.out; omega)
  have hy1 : IntKind.u64.wrap (y : Int) = (y : Int) := wrap_u64_in (by omega) (by omega)
  rw [hyI, ← hz] at bad good ⊢
  clear hb hy hyb hz
  by_cases hf : (y : Int) ≤ z
  case neg =>
    have hd5 : decide ((y : Int) ≤ z) = false := decide_eq_false hf
    refine rule_bad (bad (by rw [hd1, hd2, hd3, hd4, hd5]; rfl)) ?_
    clear bad good hf
    go_enter Try.func52, Try.ntmps52
    go_wp2_with (first | (go_at_call 78; refine (within_i _ _ _ _).mono ?_; rintro e w5 ⟨rfl, rfl⟩) | (go_at_call 77; refine (must_c _ _ _).mono ?_; rintro e w5 ⟨m1, m2, rfl⟩; first | (obtain rfl := m1 rfl; clear m1 m2) | (obtain rfl := m2 rfl; clear m1 m2)) | (go_at_call 79; refine HSZ.out.mono ?_; rintro e w5 ⟨rfl, rfl⟩))
    refine bx_tail 28 HW2.out (by kernel_rfl) (by kernel_rfl) ?_
    simp only [List.take_succ_cons, List.take_zero, List.drop_succ_cons, List.drop_zero]
    iterate 7 (refine bx_want (by kernel_rfl) (fun K hK => ?_); go_simp; refine hK _ ?_; clear hK K)
    iterate 1 (refine bx_want (by kernel_rfl) (fun K hK => ?_); go_simp; refine ⟨_, HSZ.out, hK _ ?_⟩; clear hK K)
    iterate 13 (refine bx_want (by kernel_rfl) (fun K hK => ?_); go_simp; refine hK _ ?_; clear hK K)
    iterate 1 (refine bx_want (by kernel_rfl) (fun K hK => ?_); go_simp; refine ⟨_, HSZ.out, hK _ ?_⟩; clear hK K)
    iterate 6 (refine bx_want (by kernel_rfl) (fun K hK => ?_); go_simp; refine hK _ ?_; clear hK K)
    refine bx_nil ?_
    go_wp2_with (first | (go_at_call 78; refine (within_i _ _ _ _).mono ?_; rintro e w5 ⟨rfl, rfl⟩) | (go_at_call 77; refine (must_c _ _ _).mono ?_; rintro e w5 ⟨m1, m2, rfl⟩; first | (obtain rfl := m1 rfl; clear m1 m2) | (obtain rfl := m2 rfl; clear m1 m2)) | (go_at_call 79; refine HSZ.out.mono ?_; rintro e w5 ⟨rfl, rfl⟩))
    exact ⟨rfl, rfl, HB2.out⟩
  case pos =>
    have hd5 : decide ((y : Int) ≤ z) = true := decide_eq_true hf
    refine rule_ok (good (by rw [hd1, hd2, hd3, hd4, hd5]; rfl)) ?_
    clear bad good hf
    go_enter Try.func52, Try.ntmps52
    go_wp2_with (first | (go_at_call 78; refine (within_i _ _ _ _).mono ?_; rintro e w5 ⟨rfl, rfl⟩) | (go_at_call 77; refine (must_c _ _ _).mono ?_; rintro e w5 ⟨m1, m2, rfl⟩; first | (obtain rfl := m1 rfl; clear m1 m2) | (obtain rfl := m2 rfl; clear m1 m2)) | (go_at_call 79; refine HSZ.out.mono ?_; rintro e w5 ⟨rfl, rfl⟩))
    refine bx_tail 28 HW2.out (by kernel_rfl) (by kernel_rfl) ?_
    simp only [List.take_succ_cons, List.take_zero, List.drop_succ_cons, List.drop_zero]
    iterate 7 (refine bx_want (by kernel_rfl) (fun K hK => ?_); go_simp; refine hK _ ?_; clear hK K)
    iterate 1 (refine bx_want (by kernel_rfl) (fun K hK => ?_); go_simp; refine ⟨_, HSZ.out, hK _ ?_⟩; clear hK K)
    iterate 13 (refine bx_want (by kernel_rfl) (fun K hK => ?_); go_simp; refine hK _ ?_; clear hK K)
    iterate 1 (refine bx_want (by kernel_rfl) (fun K hK => ?_); go_simp; refine ⟨_, HSZ.out, hK _ ?_⟩; clear hK K)
    iterate 6 (refine bx_want (by kernel_rfl) (fun K hK => ?_); go_simp; refine hK _ ?_; clear hK K)
    refine bx_nil ?_
    go_wp2_with (first | (go_at_call 78; refine (within_i _ _ _ _).mono ?_; rintro e w5 ⟨rfl, rfl⟩) | (go_at_call 77; refine (must_c _ _ _).mono ?_; rintro e w5 ⟨m1, m2, rfl⟩; first | (obtain rfl := m1 rfl; clear m1 m2) | (obtain rfl := m2 rfl; clear m1 m2)) | (go_at_call 79; refine HSZ.out.mono ?_; rintro e w5 ⟨rfl, rfl⟩))
    go_end0
    exact ⟨rfl, HB2.out⟩
end Go.Proofs.Ytkgedpcipaogjaa.WB
end
section
namespace Go.Proofs.Ytkgedpcipaogjaa.WB
open Go Go.RowKit Go.Proofs.YtkgedpcipaogjaaW.PrintWords Go.Proofs.YtkgedpcipaogjaaW.PrintLast Go.Proofs.YtkgedpcipaogjaaW.PrintMore Go.Proofs.Ytkgedpcipaogjaa.SetF Go.Proofs.Ytkgedpcipaogjaa.Sets Go.Proofs.Ytkgedpcipaogjaa.Mem
set_option linter.unusedVariables false
set_option linter.unusedSimpArgs false
theorem info129 : (Try.prog.info? 129).map (fun i => (i.zero, i.size, i.bytes)) = some (some (.pointer none), 1, 8) := by kernel_rfl
theorem r2_nums {n k k1 np o m : Nat} (hn : n ≤ 1024) (hk1 : k1 = k + 1) (hko : k < o) (ho : o ≤ 8) (hnp : n / 2 ^ (k + 1) = np) (hm : (np + 63) / 64 = m) :
    wrap64 ((k : Int) + 1) = (k1 : Int) ∧ IntKind.i64.wrap ((k : Int) + 1) = (k1 : Int) ∧ (n : Int) / 2 ^ k1 = (np : Int) ∧ wrap64 ((np : Int) + 63) = (np : Int) + 63 ∧ wrap64 (Int.tdiv ((np : Int) + 63) 64) = (m : Int) ∧ np ≤ 1024 ∧ (k1 : Int) ≤ 9 ∧ Int.tdiv ((np : Int) + 63) 64 = (m : Int) ∧ ((np : Int) + 63) / 64 = (m : Int) ∧ (np : Int) ≤ 1024 := by
  have hnl : np ≤ n := by rw [← hnp]; exact Nat.div_le_self _ _
  have h0 : wrap64 ((k : Int) + 1) = (k1 : Int) := by unfold wrap64; omega
  have h5 : ((np : Int) + 63) / 64 = (m : Int) := by omega
  have h4 : Int.tdiv ((np : Int) + 63) 64 = (m : Int) := by rw [Int.tdiv_eq_ediv_of_nonneg (by omega)]; exact h5
  refine ⟨h0, by rw [i64_w]; exact h0, ?_, by unfold wrap64; omega, by rw [h4]; unfold wrap64; omega, by omega, by omega, h4, h5, by omega⟩
  rw [hk1, ← hnp]
  have e : ((2 : Int) ^ (k + 1)) = ((2 ^ (k + 1) : Nat) : Int) := by simp
  rw [e]
  rfl
theorem len_gv {gv : Nat} {w wr : World} (h : gv < w.heap.size) (h2 : w.heap.size < wr.heap.size) : gv < wr.heap.size := by omega
theorem len_base {w wr w1 : World} {o : Obj} (h : w.heap.size < wr.heap.size) (hu : Upd No wr w1) : w.heap.size + 1 ≤ (w1.alloc o).heap.size := by have := hu.size; simp; omega
theorem len_own {gv : Nat} {im : Im} {s : Sl} {w : World} {k : Nat} {ov : Value} {ps : List Nat} {wi w1 : World} (h : LenI gv im s w k ov ps wi) (hu : Upd No wi w1) : w1.ownsRow (w.heap.size + 1) 129 1 ov k (ps.map ptrV) :=
  own_move h.own (fun x hx => hu.block x (h.own.lt x hx).2 (fun h => h.elim))
theorem len_grown {gv : Nat} {im : Im} {s : Sl} {w : World} {k : Nat} {ov : Value} {ps : List Nat} {wi w1 w2 : World} {o : Obj} (h : LenI gv im s w k ov ps wi) (hgv : gv < w.heap.size) (hu : Upd No wi w1) (hg : (w1.alloc o).grownBy w2 ov.ownBlock) (h1 : w1.heap[gv]? = some (viewO im s ov)) : w2.heap[gv]? = some (viewO im s ov) := by
  have hs := h.size
  have hus := hu.size
  refine (hg.block gv (by simp; omega) (fun e => ?_)).trans (blk_alloc h1 _)
  have := h.own.lt gv e.symm
  omega
theorem r2_eq {a b : Nat} (h : a = b) : (((a : Nat) : Int) == (b : Int)) = true := by rw [beq_iff_eq]; omega
theorem r2_ne {a b : Nat} (h : ¬ a = b) : (((a : Nat) : Int) == (b : Int)) = false := by rw [beq_eq_false_iff_ne]; omega
theorem r2_lt {k n o : Nat} (hk : k < n) (ho : n = o) : k < o := by omega
theorem r2_fit {np : Nat} (h : np ≤ 1024) : np ≤ 1048576 := by omega
theorem r2_succ {k m : Nat} (hk : k < m) (hm : m ≤ 8) : (k : Int) ≤ 8 := by omega
set_option maxRecDepth 100000 in
set_option maxHeartbeats 4000000 in
theorem lengths_c {F : Nat → Prop} {gv : Nat} {im : Im} {s : Sl} {w : World} (h : V F gv im s (.slice none 0 0) w) (hF : ∀ b, F b → b < w.heap.size ∧ b ≠ gv) (hgv : gv < w.heap.size) (hmay : mayB im.base im.limit im.order = true) :
    Calls Try.prog 53 #[.pointer (some ⟨gv, 0, none⟩)] w (LenP F gv im s w (R2 im)) := by
  obtain ⟨o, ho, ho8, hl1, hl2, hlim, -⟩ := may_t hmay
  have HLIM := Lib.hid hlim
  clear hlim
  have HV := Lib.hid h
  obtain ⟨c0, c1, c2, c3, c4, c5, c6, c7, c8, c9⟩ := h.cell
  have HWF := Lib.hid h.im.wf
  have HIM := Lib.hid h.im
  have HF := Lib.hid hF
  have HG := Lib.hid hgv
  obtain ⟨W1, hW1⟩ : ∃ W1, W1 = w.alloc (cfgO im) := ⟨_, rfl⟩
  have HKB1 := Lib.hid (show KeptBut1 gv w W1 by rw [hW1]; exact (Kb.refl _ w).alloc _)
  have HVW := Lib.hid (show V F gv im s (.slice none 0 0) W1 by rw [hW1]; exact h.keep (Below.heap_alloc w _ _ hgv) (fun b hb => Below.heap_alloc w _ _ (hF b hb).1))
  have HCF := Lib.hid (show W1.heap[w.heap.size]? = some (cfgO im) by rw [hW1]; exact blk_new w _)
  have HSZ1 := Lib.hid (show W1.heap.size = w.heap.size + 1 by rw [hW1]; simp)
  unfold cfgO at hW1
  have HO := Lib.hid ho
  have HLW := Lib.hid h.im.wf.lmem
  clear ho
  clear h hF hgv hmay c3 c4 c5 c6 c7 c8 c9
  go_enter Try.func53, Try.ntmps53
  go_wp2_with (fail)
  rw [← hW1]
  clear hW1 c0 c1 c2
  obtain ⟨wa, hw_wa⟩ : ∃ w', W1.drew = w' := ⟨_, rfl⟩
  have HW_wa := Lib.hid hw_wa
  have HH_wa := Lib.hid (show wa.heap = W1.heap by rw [← hw_wa]; exact rfl)
  have HKB_wa := Lib.hid (show KeptBut1 gv w wa from ⟨by rw [← hw_wa]; exact HKB1.out.os, by rw [← hw_wa]; exact HKB1.out.tape, by rw [← hw_wa]; exact HKB1.out.output, by rw [HH_wa.out]; exact HKB1.out.size, fun b hb hne => by rw [HH_wa.out]; exact HKB1.out.block b hb hne⟩)
  clear hw_wa
  obtain ⟨-, -, -, c3, c4, c5, c6, c7, c8, -⟩ := (HVW.out.keep (w' := wa) (by rw [HH_wa.out]) (fun b _ => by rw [HH_wa.out])).cell
  have d0 := blk_cell (show wa.heap[w.heap.size]? = some (cfgO im) by rw [HH_wa.out]; exact HCF.out) 0
  have d1 := blk_cell (show wa.heap[w.heap.size]? = some (cfgO im) by rw [HH_wa.out]; exact HCF.out) 1
  have d2 := blk_cell (show wa.heap[w.heap.size]? = some (cfgO im) by rw [HH_wa.out]; exact HCF.out) 2
  simp at d0 d1 d2
  cases h1 : inB im.regions 0 im.limit with
  | false =>
    have HX := Lib.hid (r2_1 h1)
    go_wp2
    refine bx_tail 8 HW_wa.out (by kernel_rfl) (by kernel_rfl) ?_
    simp only [List.take_succ_cons, List.take_zero, List.drop_succ_cons, List.drop_zero]
    iterate 7 (refine bx_want (by kernel_rfl) (fun K hK => ?_); go_simp; refine hK _ ?_; clear hK K)
    (refine bx_want (by kernel_rfl) (fun K hK => ?_); go_simp; refine ⟨_, within_b h1 _, hK _ ?_⟩; clear hK K)
    refine bx_nil ?_
    go_wp2_with (go_at_call 77; refine (must_c _ _ _).mono ?_; rintro e w5 ⟨m1, m2, hw5⟩; have hw5s := hw5.symm; clear hw5; subst hw5s; first | (obtain rfl := m1 rfl; clear m1 m2) | (obtain rfl := m2 rfl; clear m1 m2))
    exact ⟨rfl, LenP_bad HX.out HKB_wa.out⟩
  | true =>
  go_wp2
  refine bx_tail 8 HW_wa.out (by kernel_rfl) (by kernel_rfl) ?_
  simp only [List.take_succ_cons, List.take_zero, List.drop_succ_cons, List.drop_zero]
  iterate 7 (refine bx_want (by kernel_rfl) (fun K hK => ?_); go_simp; refine hK _ ?_; clear hK K)
  (refine bx_want (by kernel_rfl) (fun K hK => ?_); go_simp; refine ⟨_, within_b h1 _, hK _ ?_⟩; clear hK K)
  refine bx_nil ?_
  go_wp2_with (go_at_call 77; refine (must_c _ _ _).mono ?_; rintro e w5 ⟨m1, m2, hw5⟩; have hw5s := hw5.symm; clear hw5; subst hw5s; first | (obtain rfl := m1 rfl; clear m1 m2) | (obtain rfl := m2 rfl; clear m1 m2))
  clear c3 c4 c5 c6 c7 c8 d0 d1 d2
  obtain ⟨wb, hw_wb⟩ : ∃ w', wa.drew = w' := ⟨_, rfl⟩
  have HW_wb := Lib.hid hw_wb
  have HH_wb := Lib.hid (show wb.heap = W1.heap by rw [← hw_wb]; exact HH_wa.out)
  have HKB_wb := Lib.hid (show KeptBut1 gv w wb from ⟨by rw [← hw_wb]; exact HKB_wa.out.os, by rw [← hw_wb]; exact HKB_wa.out.tape, by rw [← hw_wb]; exact HKB_wa.out.output, by rw [HH_wb.out]; exact HKB1.out.size, fun b hb hne => by rw [HH_wb.out]; exact HKB1.out.block b hb hne⟩)
  clear hw_wb
  obtain ⟨-, -, -, c3, c4, c5, c6, c7, c8, -⟩ := (HVW.out.keep (w' := wb) (by rw [HH_wb.out]) (fun b _ => by rw [HH_wb.out])).cell
  have d0 := blk_cell (show wb.heap[w.heap.size]? = some (cfgO im) by rw [HH_wb.out]; exact HCF.out) 0
  have d1 := blk_cell (show wb.heap[w.heap.size]? = some (cfgO im) by rw [HH_wb.out]; exact HCF.out) 1
  have d2 := blk_cell (show wb.heap[w.heap.size]? = some (cfgO im) by rw [HH_wb.out]; exact HCF.out) 2
  simp at d0 d1 d2
  have hreg := inB_t.1 h1
  obtain ⟨r, hr⟩ : ∃ r : Nat, im.regions = r := ⟨im.regions.toNat, by omega⟩
  have hr64 : r ≤ 64 := by omega
  obtain ⟨z, hz⟩ : ∃ z : Nat, 4096 * 2 ^ o = z := ⟨_, rfl⟩
  have hz20 : z ≤ 1048576 := by
    rw [← hz]
    have : 2 ^ o ≤ 2 ^ 8 := Nat.pow_le_pow_right (by decide) ho8
    omega
  have hRR : RR im.order = (z : Int) := by unfold RR; rw [HO.out, Int.toNat_natCast, ← hz]; simp
  obtain ⟨y, hy⟩ : ∃ y : Nat, r * z = y := ⟨_, rfl⟩
  have hyb : y ≤ 64 * 1048576 := by rw [← hy]; exact Nat.mul_le_mul hr64 hz20
  have hyI : (r : Int) * (z : Int) = (y : Int) := by rw [← hy]; simp
  have hwl : IntKind.u64.wrap ((im.mem.length : Nat) : Int) = ((im.mem.length : Nat) : Int) := wrap_u64_in (by omega) (by have := HLW.out; omega)
  have hwr : IntKind.u64.wrap (r : Int) = (r : Int) := wrap_u64_in (by omega) (by omega)
  have hwy : IntKind.u64.wrap (y : Int) = (y : Int) := wrap_u64_in (by omega) (by omega)
  have HSIZE := Lib.hid (show Calls Try.prog 79 #[.pointer (some ⟨gv, 0, none⟩)] wb fun e w' => e = .returned (.int .u64 (z : Int)) ∧ w' = wb by
    have := size_c (HVW.out.keep (w' := wb) (by rw [HH_wb.out]) (fun b _ => by rw [HH_wb.out])) (by have := HO.out; omega) (by have := HO.out; omega)
    rwa [show (4096 : Int) * 2 ^ im.order.toNat = (z : Int) from hRR] at this)
  have ht2 : im.regions * RR im.order = (y : Int) := by rw [hr, hRR, hyI]
  have H1 := Lib.hid h1
  rw [hr] at c3
  by_cases h2 : (im.mem.length : Int) = im.regions * RR im.order
  case neg =>
    have hd2 : (((im.mem.length : Nat) : Int) == (y : Int)) = false := by rw [beq_eq_false_iff_ne, ← ht2]; exact h2
    have HX := Lib.hid (r2_2 h1 h2)
    clear h2 ht2 hy hyb hz hz20 hRR h1 hreg
    go_wp2
    refine bx_tail 17 HW_wb.out (by kernel_rfl) (by kernel_rfl) ?_
    simp only [List.take_succ_cons, List.take_zero, List.drop_succ_cons, List.drop_zero]
    iterate 14 (refine bx_want (by kernel_rfl) (fun K hK => ?_); go_simp; refine hK _ ?_; clear hK K)
    (refine bx_want (by kernel_rfl) (fun K hK => ?_); go_simp; refine ⟨_, HSIZE.out, hK _ ?_⟩; clear hK K)
    iterate 2 (refine bx_want (by kernel_rfl) (fun K hK => ?_); go_simp; refine hK _ ?_; clear hK K)
    refine bx_nil ?_
    go_wp2_with (go_at_call 77; refine (must_c _ _ _).mono ?_; rintro e w5 ⟨m1, m2, hw5⟩; have hw5s := hw5.symm; clear hw5; subst hw5s; first | (obtain rfl := m1 rfl; clear m1 m2) | (obtain rfl := m2 rfl; clear m1 m2))
    exact ⟨rfl, LenP_bad HX.out HKB_wb.out⟩
  case pos =>
  have hd2 : (((im.mem.length : Nat) : Int) == (y : Int)) = true := by rw [beq_iff_eq, ← ht2]; exact h2
  have H2 := Lib.hid h2
  have HR := Lib.hid hr
  have HR64 := Lib.hid hr64
  clear h2 ht2 hy hyb hz hz20 hRR h1 hreg hr hr64
  go_wp2
  refine bx_tail 17 HW_wb.out (by kernel_rfl) (by kernel_rfl) ?_
  simp only [List.take_succ_cons, List.take_zero, List.drop_succ_cons, List.drop_zero]
  iterate 14 (refine bx_want (by kernel_rfl) (fun K hK => ?_); go_simp; refine hK _ ?_; clear hK K)
  (refine bx_want (by kernel_rfl) (fun K hK => ?_); go_simp; refine ⟨_, HSIZE.out, hK _ ?_⟩; clear hK K)
  iterate 2 (refine bx_want (by kernel_rfl) (fun K hK => ?_); go_simp; refine hK _ ?_; clear hK K)
  refine bx_nil ?_
  go_wp2_with (go_at_call 77; refine (must_c _ _ _).mono ?_; rintro e w5 ⟨m1, m2, hw5⟩; have hw5s := hw5.symm; clear hw5; subst hw5s; first | (obtain rfl := m1 rfl; clear m1 m2) | (obtain rfl := m2 rfl; clear m1 m2))
  clear c3 c4 c5 c6 c7 c8 d0 d1 d2 hyI hwl hwr hwy hd2
  obtain ⟨wc, hw_wc⟩ : ∃ w', wb.drew = w' := ⟨_, rfl⟩
  have HW_wc := Lib.hid hw_wc
  have HH_wc := Lib.hid (show wc.heap = W1.heap by rw [← hw_wc]; exact HH_wb.out)
  have HKB_wc := Lib.hid (show KeptBut1 gv w wc from ⟨by rw [← hw_wc]; exact HKB_wb.out.os, by rw [← hw_wc]; exact HKB_wb.out.tape, by rw [← hw_wc]; exact HKB_wb.out.output, by rw [HH_wc.out]; exact HKB1.out.size, fun b hb hne => by rw [HH_wc.out]; exact HKB1.out.block b hb hne⟩)
  clear hw_wc
  obtain ⟨-, -, -, c3, c4, c5, c6, c7, c8, -⟩ := (HVW.out.keep (w' := wc) (by rw [HH_wc.out]) (fun b _ => by rw [HH_wc.out])).cell
  have d0 := blk_cell (show wc.heap[w.heap.size]? = some (cfgO im) by rw [HH_wc.out]; exact HCF.out) 0
  have d1 := blk_cell (show wc.heap[w.heap.size]? = some (cfgO im) by rw [HH_wc.out]; exact HCF.out) 1
  have d2 := blk_cell (show wc.heap[w.heap.size]? = some (cfgO im) by rw [HH_wc.out]; exact HCF.out) 2
  simp at d0 d1 d2
  rw [HR.out] at c3
  rw [HO.out] at d2
  obtain ⟨t, ht⟩ : ∃ t : Nat, r * 2 ^ o = t := ⟨_, rfl⟩
  have htw : wrap64 ((r : Int) * 2 ^ o) = (t : Int) := by rw [← ht]; exact sh_lim HR64.out ho8
  have htw' : IntKind.i64.wrap ((r : Int) * 2 ^ o) = (t : Int) := by rw [i64_w]; exact htw
  have ht3 : im.regions * 2 ^ im.order.toNat = (t : Int) := by rw [HR.out, HO.out, Int.toNat_natCast, ← ht]; simp
  by_cases h3 : (im.n : Int) = im.regions * 2 ^ im.order.toNat
  case neg =>
    have hd3 : (((im.pages.length : Nat) : Int) == (t : Int)) = false := by rw [beq_eq_false_iff_ne, ← ht3]; exact h3
    have HX := Lib.hid (r2_3 H1.out H2.out h3)
    clear h3 ht3 ht
    go_wp2
    refine bx_tail 15 HW_wc.out (by kernel_rfl) (by kernel_rfl) ?_
    simp only [List.take_succ_cons, List.take_zero, List.drop_succ_cons, List.drop_zero]
    iterate 15 (refine bx_want (by kernel_rfl) (fun K hK => ?_); go_simp; refine hK _ ?_; clear hK K)
    refine bx_nil ?_
    go_wp2_with (go_at_call 77; refine (must_c _ _ _).mono ?_; rintro e w5 ⟨m1, m2, hw5⟩; have hw5s := hw5.symm; clear hw5; subst hw5s; first | (obtain rfl := m1 rfl; clear m1 m2) | (obtain rfl := m2 rfl; clear m1 m2))
    exact ⟨rfl, LenP_bad HX.out HKB_wc.out⟩
  case pos =>
  have hd3 : (((im.pages.length : Nat) : Int) == (t : Int)) = true := by rw [beq_iff_eq, ← ht3]; exact h3
  have H3 := Lib.hid h3
  have HT := Lib.hid ht
  clear h3 ht3 ht
  go_wp2
  refine bx_tail 15 HW_wc.out (by kernel_rfl) (by kernel_rfl) ?_
  simp only [List.take_succ_cons, List.take_zero, List.drop_succ_cons, List.drop_zero]
  iterate 15 (refine bx_want (by kernel_rfl) (fun K hK => ?_); go_simp; refine hK _ ?_; clear hK K)
  refine bx_nil ?_
  go_wp2_with (go_at_call 77; refine (must_c _ _ _).mono ?_; rintro e w5 ⟨m1, m2, hw5⟩; have hw5s := hw5.symm; clear hw5; subst hw5s; first | (obtain rfl := m1 rfl; clear m1 m2) | (obtain rfl := m2 rfl; clear m1 m2))
  clear c3 c4 c5 c6 c7 c8 d0 d1 d2 htw htw' hd3
  obtain ⟨wd, hw_wd⟩ : ∃ w', wc.drew = w' := ⟨_, rfl⟩
  have HW_wd := Lib.hid hw_wd
  have HH_wd := Lib.hid (show wd.heap = W1.heap by rw [← hw_wd]; exact HH_wc.out)
  have HKB_wd := Lib.hid (show KeptBut1 gv w wd from ⟨by rw [← hw_wd]; exact HKB_wc.out.os, by rw [← hw_wd]; exact HKB_wc.out.tape, by rw [← hw_wd]; exact HKB_wc.out.output, by rw [HH_wd.out]; exact HKB1.out.size, fun b hb hne => by rw [HH_wd.out]; exact HKB1.out.block b hb hne⟩)
  clear hw_wd
  obtain ⟨-, -, -, c3, c4, c5, c6, c7, c8, -⟩ := (HVW.out.keep (w' := wd) (by rw [HH_wd.out]) (fun b _ => by rw [HH_wd.out])).cell
  have d0 := blk_cell (show wd.heap[w.heap.size]? = some (cfgO im) by rw [HH_wd.out]; exact HCF.out) 0
  have d1 := blk_cell (show wd.heap[w.heap.size]? = some (cfgO im) by rw [HH_wd.out]; exact HCF.out) 1
  have d2 := blk_cell (show wd.heap[w.heap.size]? = some (cfgO im) by rw [HH_wd.out]; exact HCF.out) 2
  simp at d0 d1 d2
  rw [HO.out] at d2
  by_cases h4 : (im.pairs.length : Int) = im.order
  case neg =>
    have hd4 : (((im.pairs.length : Nat) : Int) == (o : Int)) = false := by rw [beq_eq_false_iff_ne, ← HO.out]; exact h4
    have HX := Lib.hid (r2_4 H1.out H2.out H3.out h4)
    clear h4
    go_wp2
    refine bx_tail 9 HW_wd.out (by kernel_rfl) (by kernel_rfl) ?_
    simp only [List.take_succ_cons, List.take_zero, List.drop_succ_cons, List.drop_zero]
    iterate 9 (refine bx_want (by kernel_rfl) (fun K hK => ?_); go_simp; refine hK _ ?_; clear hK K)
    refine bx_nil ?_
    go_wp2_with (go_at_call 77; refine (must_c _ _ _).mono ?_; rintro e w5 ⟨m1, m2, hw5⟩; have hw5s := hw5.symm; clear hw5; subst hw5s; first | (obtain rfl := m1 rfl; clear m1 m2) | (obtain rfl := m2 rfl; clear m1 m2))
    exact ⟨rfl, LenP_bad HX.out HKB_wd.out⟩
  case pos =>
  have hd4 : (((im.pairs.length : Nat) : Int) == (o : Int)) = true := by rw [beq_iff_eq, ← HO.out]; exact h4
  have hpo : im.pairs.length = o := by have := HO.out; omega
  have HPO := Lib.hid hpo
  have HR25 := Lib.hid (r2_5 H1.out H2.out H3.out h4)
  have hn9 : im.pages.length ≤ 1024 := by
    have h3 := H3.out
    have h5 := HLIM.out
    have h6 := (inB_t.1 H1.out).2
    rw [HO.out, Int.toNat_natCast] at h3
    have h7 : im.regions * 2 ^ o ≤ im.limit * 2 ^ o := Int.mul_le_mul_of_nonneg_right h6 (Int.pow_nonneg (by decide))
    have h8 : (im.n : Int) = (im.pages.length : Int) := rfl
    generalize im.regions * 2 ^ o = aa at *
    generalize im.limit * 2 ^ o = bb at *
    omega
  have HN9 := Lib.hid hn9
  have HO8 := Lib.hid ho8
  have HLEN0 := Lib.hid (show LenI gv im s w 0 (.slice none 0 0) [] wd from ⟨(HVW.out.keep (w' := wd) (by rw [HH_wd.out]) (fun b _ => by rw [HH_wd.out])).at_, by rw [HH_wd.out]; exact HCF.out, World.ownsRow_nil _ _ _ _, HKB_wd.out, rfl, by rw [HH_wd.out, HSZ1.out]; omega, fun j hj => absurd hj (Nat.not_lt_zero _)⟩)
  have hpl8 : im.pairs.length ≤ 8 := by omega
  clear h4 hpo
  go_wp2
  refine bx_tail 9 HW_wd.out (by kernel_rfl) (by kernel_rfl) ?_
  simp only [List.take_succ_cons, List.take_zero, List.drop_succ_cons, List.drop_zero]
  iterate 9 (refine bx_want (by kernel_rfl) (fun K hK => ?_); go_simp; refine hK _ ?_; clear hK K)
  refine bx_nil ?_
  go_wp2_with (go_at_call 77; refine (must_c _ _ _).mono ?_; rintro e w5 ⟨m1, m2, hw5⟩; have hw5s := hw5.symm; clear hw5; subst hw5s; first | (obtain rfl := m1 rfl; clear m1 m2) | (obtain rfl := m2 rfl; clear m1 m2))
  clear c3 c4 c5 c7 c8 d0 d1 d2 hd4
  go_wp2
  clear c6
  go_loopg [70] im.pairs.length (fun g v wr => ∃ (k : Nat) (ov : Value) (ps : List Nat), v = .int .i64 (k : Int) ∧ Aside0 (k + g = im.pairs.length) ∧ Aside0 (scan (rowF im) g k = scan (rowF im) im.pairs.length 0) ∧ Aside0 (LenI gv im s w k ov ps wr))
  case atStart => exact ⟨0, _, [], rfl, ⟨by omega⟩, ⟨rfl⟩, ⟨HLEN0.out⟩⟩
  case round =>
    obtain ⟨k, ov, ps, rfl, hkg, hsc, hlen⟩ := hrel
    have HLEN := Lib.hid hlen.out
    have HSC := Lib.hid hsc.out
    have HVR := Lib.hid (show V F gv im s ov wr from ⟨hlen.out.at_, HIM.out.keep (fun b hb => hlen.out.kb.block b (HF.out b hb).1 (HF.out b hb).2)⟩)
    clear hsc hlen
    by_cases hk : k < im.pairs.length
    · have hkI : (k : Int) < (im.pairs.length : Int) := by omega
      have hkd : decide ((k : Int) < (im.pairs.length : Int)) = true := decide_eq_true hkI
      have hkd' : decide (k < im.pairs.length) = true := decide_eq_true hk
      obtain ⟨g1, rfl⟩ : ∃ g1, gk = g1 + 1 := ⟨gk - 1, by have := hkg.out; omega⟩
      have hrow := HWF.out.row hk
      obtain ⟨-, -, -, -, -, c5, c6, -, -, c9⟩ := HVR.out.cell
      obtain ⟨ap, ep, -, hrows⟩ := HVR.out.im.pairs (by omega)
      obtain ⟨B, cB, hcB, hcell, hrowi⟩ := hrows k hk
      have hC := C_of_RowI (hrowi) (by have := hrow.2; exact this)
      have HK := Lib.hid hk
      have HEP := Lib.hid ep
      obtain ⟨k1, hk1⟩ : ∃ k1 : Nat, k1 = k + 1 := ⟨_, rfl⟩
      obtain ⟨np, hnp⟩ : ∃ np, im.np k = np := ⟨_, rfl⟩
      obtain ⟨m, hm⟩ : ∃ m, (np + 63) / 64 = m := ⟨_, rfl⟩
      obtain ⟨n1, n2, n3, n4, n5, n6, n7, n8, n9, n10⟩ := r2_nums (n := im.pages.length) HN9.out hk1 (r2_lt hk HPO.out) HO8.out hnp hm
      have hgd : im.pairs.getD k [] = im.row k := rfl
      rw [hgd] at hcB hcell hrowi hC
      obtain ⟨l, hl⟩ : ∃ l, im.row k = l := ⟨_, rfl⟩
      have hrf : rowF im k = if l.length = (np + 63) / 64 then none else some 3 := by unfold rowF; rw [hl, hnp]
      rw [hm] at hrf
      have HRF := Lib.hid hrf
      have HROW := Lib.hid hrow
      have HL := Lib.hid hl
      have HNP := Lib.hid hnp
      have HK1 := Lib.hid hk1
      rw [hl] at hcB hcell hC
      have HC := Lib.hid hC
      have hcl := hrow.2
      rw [hl] at hcl
      have hk8 := r2_succ hk hpl8
      rw [ep]
      clear hk hrow hrows hrowi hC hk1 hnp hgd hl hrf ep hm
      have HN6 := Lib.hid n6
      have HN1 := Lib.hid n1
      have HK8 := Lib.hid hk8
      go_upto_region 8 with (fail)
      go_upto_region 9 with (fail)
      clear n1 n2 n3 n6 n7 c5 c6 c9 hcell hcB hcl hk8
      by_cases hlm : l.length = m
      · have hd9 : (((l.length : Nat) : Int) == (m : Int)) = true := r2_eq hlm
        have hd9' : (l.length == m) = true := by simpa using hlm
        have HX := Lib.hid (show scan (rowF im) g1 (k + 1) = scan (rowF im) im.pairs.length 0 from (scan_ok (by rw [HRF.out, if_pos hlm])).symm.trans HSC.out)
        have HOF := Lib.hid (show Calls Try.prog 80 #[.slice B l.length cB, .int .i64 (np : Int)] wr.drew fun e w' => ∃ b, e = .returned (.pointer (some ⟨b, 0, none⟩)) ∧ SetR (New wr) w' b (np : Int) (ofW l (np : Int)) ∧ Upd No wr w' from
          (Of_calls (w := wr.drew) (np : Int) (Kd.C_drewN HC.out 1) (by rw [← HL.out]; exact HROW.out.1)).mono (by
            rintro e w' ⟨b, rfl, hs, hu⟩
            rw [fit_nat (r2_fit HN6.out)] at hs
            exact ⟨b, rfl, hs, ⟨hu.os, hu.tape, hu.output, hu.size, hu.block⟩⟩))
        have HLT := Lib.hid HLEN.out.own.lt
        have HWS := Lib.hid HLEN.out.size
        obtain ⟨i0, hi0, hz0, hz1, hz2⟩ := info_parts info129
        have HI0 := Lib.hid hi0
        clear hlm
        have HML := Lib.hid (show k + 1 ≤ maxLen by have := HK8.out; unfold maxLen; omega)
        have HBY := Lib.hid (show (k + 1) * 8 ≤ 140737488355328 by have := HK8.out; omega)
        have HFV := Lib.hid (show ∀ wx : World, wx.heap[gv]? = some (viewO im s ov) → wx.cell? ⟨gv, 9, none⟩ = some ov ∧ wx.frozen? ⟨gv, 9, none⟩ = false from fun wx hx => by
          unfold viewO at hx
          exact ⟨blk_cell hx 9, blk_frozen hx 9⟩)
        clear hi0
        go_upto_region 10 with (go_at_call 77; refine (must_c _ _ _).mono ?_; rintro e w5 ⟨m1, m2, hw5⟩; have hw5s := hw5.symm; clear hw5; subst hw5s; first | (obtain rfl := m1 rfl; clear m1 m2) | (obtain rfl := m2 rfl; clear m1 m2))
        clear n4 n5 n8 n9 n10 hd9 hd9'
        obtain ⟨c9, f9⟩ := HFV.out wr HLEN.out.at_
        go_region_law
          (first
            | (refine step_append_lies _ (by rfl) _ _ _ (by rfl) (w.heap.size + 1) 129 i0 _ 1 8 Try.underlying59 HI0.out hz0 hz1 hz2 rfl (by omega) ov k (ps.map ptrV) (by rfl) (HOW.out.alloc _) ⟨w1.heap.size, 0, none⟩ 1 1 [.pointer (some ⟨b, 0, none⟩)] (by rfl) (by rfl) (World.news_of_block (cs := #[.pointer (some ⟨b, 0, none⟩)]) (t := 129) (fr := (0, 0)) (heap_alloc_new w1 _)) (by simp [Value.oneCell']) (by omega) HML.out HBY.out (len_base HWS.out HU1.out) (w1.heap.size + 1) (by simp) ?_; intro g cap w2 hown2 hgrow2 hat2 hlt2; have HOWN2 := Lib.hid hown2; have HGROW2 := Lib.hid hgrow2; have HAT2 := Lib.hid hat2; obtain ⟨k92, f92⟩ := HFV.out w2 (len_grown HLEN.out HG.out HU1.out hgrow2 HGV1.out); clear hown2 hgrow2 hat2 hlt2)
            | (go_simp; go_at_call 80; refine HOF.out.mono ?_; rintro e w1 ⟨b, rfl, hs1, hu1⟩; have HS1 := Lib.hid hs1; have HU1 := Lib.hid hu1; have hgv1 : w1.heap[gv]? = some (viewO im s ov) := (hu1.block gv (len_gv HG.out HWS.out) (fun h => h.elim)).trans HLEN.out.at_; have HGV1 := Lib.hid hgv1; obtain ⟨k91, f91⟩ := HFV.out w1 hgv1; obtain ⟨k91a, f91a⟩ := HFV.out (w1.alloc (.cells #[.pointer (some ⟨b, 0, none⟩)] 129 (0, 0))) (blk_alloc hgv1 _); have HOW := Lib.hid (len_own HLEN.out hu1); clear hs1 hu1 hgv1))
        all_goals
          have n1 := HN1.out
          go_wp2
          try rw [← HEP.out]
          go_roundg g1
          case measure => omega
          case rel => exact ⟨k + 1, _, ps ++ [b], by first | (simp; done) | rw [HK1.out], ⟨by have := hkg.out; omega⟩, ⟨HX.out⟩, ⟨LenI.step HLEN.out HG.out (b := b) (by rw [HL.out, HNP.out]; exact HS1.out) HU1.out HOWN2.out HGROW2.out HAT2.out⟩⟩
      · have hd9 : (((l.length : Nat) : Int) == (m : Int)) = false := r2_ne hlm
        have hd9' : (l.length == m) = false := by simpa using hlm
        have HX := Lib.hid (show R2 im = some 3 by rw [HR25.out, ← HSC.out, scan_bad (by rw [HRF.out, if_neg hlm])])
        clear hlm
        go_wp2_with (go_at_call 77; refine (must_c _ _ _).mono ?_; rintro e w5 ⟨m1, m2, hw5⟩; have hw5s := hw5.symm; clear hw5; subst hw5s; first | (obtain rfl := m1 rfl; clear m1 m2) | (obtain rfl := m2 rfl; clear m1 m2))
        exact ⟨rfl, LenP_bad HX.out HLEN.out.kb⟩
    · obtain rfl : k = im.pairs.length := by have := hkg.out; omega
      have hkd : decide ((im.pairs.length : Int) < (im.pairs.length : Int)) = false := decide_eq_false (by omega)
      have hkd' : decide (im.pairs.length < im.pairs.length) = false := decide_eq_false hk
      have hg0 : gk = 0 := by have := hkg.out; omega
      have hscn : scan (rowF im) im.pairs.length 0 = none := by have h := HSC.out; rw [hg0, scan] at h; exact h.symm
      have HR26 := Lib.hid (show R2 im = if (im.heads.length : Int) ≠ im.order + 1 then some 4 else if im.parts.length ≠ 8 then some 5 else none by rw [HR25.out, hscn])
      have HLEND := Lib.hid HLEN.out.drew
      obtain ⟨we, hwe⟩ : ∃ w', wr.drew = w' := ⟨_, rfl⟩
      have HWE := Lib.hid hwe
      rw [hwe] at HLEND
      have hve : V F gv im s ov we := by rw [← hwe]; exact HVR.out.keep rfl (fun _ _ => rfl)
      obtain ⟨-, -, -, -, -, -, -, c7, c8, -⟩ := hve.cell
      have d2 := blk_cell (show we.heap[w.heap.size]? = some (.cells #[.int .u64 im.base, .int .i64 im.limit, .int .i64 im.order] 24 (0, 0)) from HLEND.out.cfg) 2
      simp at d2
      rw [HO.out] at d2
      have hoI : (o : Int) ≤ 8 := by have := HO8.out; omega
      have hw1 : wrap64 ((o : Int) + 1) = (o : Int) + 1 := by unfold wrap64; omega
      have hw1' : IntKind.i64.wrap ((o : Int) + 1) = (o : Int) + 1 := by rw [i64_w]; exact hw1
      clear hk hg0 hscn hwe hve
      by_cases h5 : (im.heads.length : Int) = (o : Int) + 1
      · have hd5 : (((im.heads.length : Nat) : Int) == (o : Int) + 1) = true := by rw [beq_iff_eq]; exact h5
        have H5 := Lib.hid h5
        clear h5
        go_wp2
        refine bx_tail 10 HWE.out (by kernel_rfl) (by kernel_rfl) ?_
        simp only [List.take_succ_cons, List.take_zero, List.drop_succ_cons, List.drop_zero]
        iterate 10 (refine bx_want (by kernel_rfl) (fun K hK => ?_); go_simp; refine hK _ ?_; clear hK K)
        refine bx_nil ?_
        by_cases h6 : im.parts.length = 8
        · have hd6 : (((im.parts.length : Nat) : Int) == 8) = true := by rw [beq_iff_eq]; omega
          have hd6' : (im.parts.length == 8) = true := by simpa using h6
          have HX := Lib.hid (show R2 im = none by rw [HR26.out, HO.out, if_neg (by simp [H5.out]), if_neg (by simp [h6])])
          clear h6
          go_wp2_with (go_at_call 77; refine (must_c _ _ _).mono ?_; rintro e w5 ⟨m1, m2, hw5⟩; have hw5s := hw5.symm; clear hw5; subst hw5s; first | (obtain rfl := m1 rfl; clear m1 m2) | (obtain rfl := m2 rfl; clear m1 m2))
          go_end0
          exact LenP_ok HX.out HIM.out HF.out HLEND.out
        · have hd6 : (((im.parts.length : Nat) : Int) == 8) = false := by rw [beq_eq_false_iff_ne]; omega
          have hd6' : (im.parts.length == 8) = false := by simpa using h6
          have HX := Lib.hid (show R2 im = some 5 by rw [HR26.out, HO.out, if_neg (by simp [H5.out]), if_pos h6])
          clear h6
          go_wp2_with (go_at_call 77; refine (must_c _ _ _).mono ?_; rintro e w5 ⟨m1, m2, hw5⟩; have hw5s := hw5.symm; clear hw5; subst hw5s; first | (obtain rfl := m1 rfl; clear m1 m2) | (obtain rfl := m2 rfl; clear m1 m2))
          exact ⟨rfl, LenP_bad HX.out HLEND.out.kb⟩
      · have hd5 : (((im.heads.length : Nat) : Int) == (o : Int) + 1) = false := by rw [beq_eq_false_iff_ne]; exact h5
        have HX := Lib.hid (show R2 im = some 4 by rw [HR26.out, HO.out, if_pos h5])
        clear h5
        go_wp2
        refine bx_tail 10 HWE.out (by kernel_rfl) (by kernel_rfl) ?_
        simp only [List.take_succ_cons, List.take_zero, List.drop_succ_cons, List.drop_zero]
        iterate 10 (refine bx_want (by kernel_rfl) (fun K hK => ?_); go_simp; refine hK _ ?_; clear hK K)
        refine bx_nil ?_
        go_wp2_with (go_at_call 77; refine (must_c _ _ _).mono ?_; rintro e w5 ⟨m1, m2, hw5⟩; have hw5s := hw5.symm; clear hw5; subst hw5s; first | (obtain rfl := m1 rfl; clear m1 m2) | (obtain rfl := m2 rfl; clear m1 m2))
        exact ⟨rfl, LenP_bad HX.out HLEND.out.kb⟩
end Go.Proofs.Ytkgedpcipaogjaa.WB
end
section
namespace Go.Proofs.Ytkgedpcipaogjaa.WB
open Go Go.RowKit Go.Proofs.YtkgedpcipaogjaaW.PrintWords Go.Proofs.YtkgedpcipaogjaaW.PrintLast Go.Proofs.YtkgedpcipaogjaaW.PrintMore Go.Proofs.Ytkgedpcipaogjaa.PWalkChecks Go.Proofs.Ytkgedpcipaogjaa.Mem
set_option linter.unusedVariables false
set_option linter.unusedSimpArgs false
theorem infoPg : (Try.prog.info? 39).map (fun i => (i.zero, i.size, i.bytes)) = some (some (.agg #[.int .i64 0, .int .i64 0, .int .i64 0, .int .i64 0, .int .i64 0, .int .i64 0, .int .i64 0, .int .u64 0, .int .u64 0, .int .u64 0, .int .u64 0]), 11, 88) := by kernel_rfl
def pgVals : List Pg → List Value
  | [] => []
  | p :: l => p.cells ++ pgVals l
theorem cells_len (p : Pg) : p.cells.length = 11 := rfl
theorem pgVals_len : ∀ l, (pgVals l).length = l.length * 11
  | [] => rfl
  | p :: l => by rw [pgVals, List.length_append, pgVals_len l, cells_len, List.length_cons]; omega
theorem pgVals_get : ∀ (l : List Pg) (x : Nat) (u : Value), (pgVals l)[x]? = some u → ∃ i j, i < l.length ∧ x = i * 11 + j ∧ (l.getD i pg0).cells[j]? = some u
  | [], x, u, h => by simp [pgVals] at h
  | p :: l, x, u, h => by
    rw [pgVals] at h
    by_cases hx : x < 11
    · rw [List.getElem?_append_left (by rw [cells_len]; exact hx)] at h
      exact ⟨0, x, by simp, by omega, h⟩
    · rw [List.getElem?_append_right (by rw [cells_len]; omega), cells_len] at h
      obtain ⟨i, j, h1, h2, h3⟩ := pgVals_get l (x - 11) u h
      exact ⟨i + 1, j, by simpa using h1, by omega, h3⟩
theorem pgVals_one : ∀ (l : List Pg) (u : Value), u ∈ pgVals l → u.oneCell' = true := by
  intro l u hu
  obtain ⟨x, hx⟩ := List.mem_iff_getElem?.1 hu
  obtain ⟨i, j, -, -, h⟩ := pgVals_get l x u hx
  have := List.mem_of_getElem? h
  unfold Pg.cells at this
  simp at this
  rcases this with rfl | rfl | rfl | rfl | rfl | rfl | rfl | rfl | rfl | rfl | rfl <;> rfl
theorem map_nums {n o : Nat} (ho : o ≤ 8) (hm : n % 2 ^ o = 0) (hn : n ≤ 1024) : wrap64 ((2 : Int) ^ o) = ((2 ^ o : Nat) : Int) ∧ IntKind.i64.wrap ((2 : Int) ^ o) = ((2 ^ o : Nat) : Int) ∧ Int.tmod (n : Int) ((2 ^ o : Nat) : Int) = 0 ∧ (n : Int) % ((2 ^ o : Nat) : Int) = 0 ∧ ¬ 2 ^ o = 0 := by
  have hp := Nat.pow_pos (n := o) (show 0 < 2 by decide)
  have hq := p2_256 ho
  have e : (2 : Int) ^ o = ((2 ^ o : Nat) : Int) := by simp
  have e1 : wrap64 ((2 : Int) ^ o) = ((2 ^ o : Nat) : Int) := by rw [e]; unfold wrap64; omega
  have e2 : (n : Int) % ((2 ^ o : Nat) : Int) = 0 := by
    have : ((n % 2 ^ o : Nat) : Int) = 0 := by rw [hm]; rfl
    rw [← this]; rfl
  exact ⟨e1, by rw [i64_w]; exact e1, by rw [Int.tmod_eq_emod_of_nonneg (by omega)]; exact e2, e2, by omega⟩
theorem MapI.later {w wi w' : World} {mp o k : Nat} {pv rv : Value} {ps : List Nat} (h : MapI w mp o k pv rv ps wi) (hb : Below wi.heap.size wi w') : MapI w mp o k pv rv ps w' :=
  ⟨(hb.block mp (blk_lt h.at_)).trans h.at_, own_move h.own (fun x hx => hb.block x (own_lt h.own hx).2), h.len, fun x hx => ⟨(h.lt x hx).1, Nat.lt_of_lt_of_le (h.lt x hx).2 hb.size⟩, h.nodup, h.below.trans (hb.mono h.below.size)⟩
theorem rowP_page {F : Nat → Prop} {w : World} {ad : Addr} {ps : List Pg} (h : RowP F w (some ad) ps) (i : Nat) (hi : i < ps.length) :
    w.cell? (ad.add (i * 11)) = some (.int .i64 (ps.getD i pg0).kd) ∧ w.cell? ⟨(ad.add (i * 11)).block, (ad.add (i * 11)).off + 1, none⟩ = some (.int .i64 (ps.getD i pg0).od) ∧ w.cell? ⟨(ad.add (i * 11)).block, (ad.add (i * 11)).off + 2, none⟩ = some (.int .i64 (ps.getD i pg0).cl) ∧ w.cell? ⟨(ad.add (i * 11)).block, (ad.add (i * 11)).off + 3, none⟩ = some (.int .i64 (ps.getD i pg0).lv) ∧ w.cell? ⟨(ad.add (i * 11)).block, (ad.add (i * 11)).off + 4, none⟩ = some (.int .i64 (ps.getD i pg0).nx) ∧ w.cell? ⟨(ad.add (i * 11)).block, (ad.add (i * 11)).off + 5, none⟩ = some (.int .i64 (ps.getD i pg0).pv) ∧ w.cell? ⟨(ad.add (i * 11)).block, (ad.add (i * 11)).off + 6, none⟩ = some (.int .i64 (ps.getD i pg0).fs) ∧ w.cell? ⟨(ad.add (i * 11)).block, (ad.add (i * 11)).off + 7, none⟩ = some (.int .u64 (ps.getD i pg0).b0) ∧ w.cell? ⟨(ad.add (i * 11)).block, (ad.add (i * 11)).off + 8, none⟩ = some (.int .u64 (ps.getD i pg0).b1) ∧ w.cell? ⟨(ad.add (i * 11)).block, (ad.add (i * 11)).off + 9, none⟩ = some (.int .u64 (ps.getD i pg0).b2) ∧ w.cell? ⟨(ad.add (i * 11)).block, (ad.add (i * 11)).off + 10, none⟩ = some (.int .u64 (ps.getD i pg0).b3) := by
  obtain ⟨ad', e, hF, hx⟩ := h (by omega)
  injection e with e
  subst e
  have h0 := hx i hi
  have h1 : ∀ j v, (ps.getD i pg0).cells[j + 1]? = some v → w.cell? ⟨(ad.add (i * 11)).block, (ad.add (i * 11)).off + (j + 1), none⟩ = some v := by
    intro j v hv
    rw [← Addr.add_succ', Addr.add_add]
    exact h0 (j + 1) v hv
  exact ⟨h0 0 _ rfl, h1 0 _ rfl, h1 1 _ rfl, h1 2 _ rfl, h1 3 _ rfl, h1 4 _ rfl, h1 5 _ rfl, h1 6 _ rfl, h1 7 _ rfl, h1 8 _ rfl, h1 9 _ rfl⟩
theorem po_len {l np m : Nat} (h : l = m) (hm : (np + 63) / 64 = m) (hn : np ≤ 1024) : l ≤ 140737488355328 := by omega
theorem po_ne {l m : Nat} (h : l = m) : (l != m) = false ∧ ((l : Int) != (m : Int)) = false := by subst h; simp
theorem of_d {w : World} {B : Option Addr} {c : Nat} {l : List Int} (n : Int) (hl : (Kd.int .u64).C w B l.length l) (hw : Sets.Wd l) : Calls Try.prog 80 #[.slice B l.length c, .int .i64 n] w.drew fun e w' => ∃ p, e = .returned (.pointer (some ⟨p, 0, none⟩)) ∧ w.heap.size ≤ p ∧ p < w'.heap.size ∧ Upd No w w' := by
  refine (Sets.Of_calls (w := w.drew) n (Kd.C_drewN hl 1) hw).mono ?_
  rintro e w' ⟨p, rfl, hs, hu⟩
  obtain ⟨h1, h2, h3, h4, v, h5, h6⟩ := hs
  exact ⟨p, rfl, h1, blk_lt h5, ⟨hu.os, hu.tape, hu.output, hu.size, hu.block⟩⟩
set_option maxRecDepth 100000 in
set_option maxHeartbeats 2000000 in
theorem pmOpen_c {F : Nat → Prop} {w : World} {o : Nat} {pages : List Pg} {pairs : List (List Int)} {B C : Option Addr} {cb cc : Nat} (ho : o ≤ 8) (hb : RowP F w B pages) (hc : RowR F w C pairs) (hF : ∀ k, F k → k < w.heap.size) (hn0 : 0 < pages.length) (hn : pages.length ≤ 1024) (hmod : pages.length % 2 ^ o = 0) (hpl : pairs.length = o)
    (hrow : ∀ k, k < o → (pairs.getD k []).length = (pages.length / 2 ^ (k + 1) + 63) / 64 ∧ Sets.Wd (pairs.getD k [])) (hrng : ∀ i, i < pages.length → Rng (o : Int) ((pages.length : Int) - 1) (pages.getD i pg0)) :
    Calls Try.prog 67 #[.int .i64 (o : Int), .slice B pages.length cb, .slice C pairs.length cc] w fun e w' => ∃ mp pv rv ps, e = .returned (.tuple #[.pointer (some ⟨mp, 0, none⟩), .int .i64 0]) ∧ MapI w mp o o pv rv ps w' := by
  have HW := Lib.hid (fun wx => pmWithin_t (v := (o : Int)) (lo := 0) (hi := 8) (by omega) (by omega) wx)
  obtain ⟨m1, m2, m3, m4, m5⟩ := map_nums ho hmod hn
  obtain ⟨q, hq⟩ : ∃ q, (2 : Nat) ^ o = q := ⟨_, rfl⟩
  rw [hq] at m1 m2 m3 m4 m5
  have t1 : decide ((pages.length : Int) > 1024) = false := decide_eq_false (by omega)
  have t2 : ((pairs.length : Int) != (o : Int)) = false := by simp [hpl]
  have t3 : (pairs.length != o) = false := by simp [hpl]
  have hmin : min o 64 = o := Nat.min_eq_left (by omega)
  have hl1 : pages.length ≤ 9223372036854775807 := by omega
  obtain ⟨ad, hB, hFB, hcB⟩ := hb hn0
  subst hB
  have HB := Lib.hid hb
  have HCB := Lib.hid (show ∀ j u, (pgVals pages)[j]? = some u → w.cell? (ad.add j) = some u from fun j u hj => by
    obtain ⟨i, j2, h1, h2, h3⟩ := pgVals_get pages j u hj
    rw [h2]; exact hcB i h1 j2 u h3)
  have HONE := Lib.hid (pgVals_one pages)
  have HVL := Lib.hid (pgVals_len pages)
  obtain ⟨i0, hi0, hz0, hz1, hz2⟩ := info_parts infoPg
  have HI0 := Lib.hid hi0
  have HRNG := Lib.hid hrng
  have HROW := Lib.hid hrow
  have HC := Lib.hid hc
  have HFF := Lib.hid hF
  have HN := Lib.hid hn
  have HN0 := Lib.hid hn0
  have HO := Lib.hid ho
  have HPL := Lib.hid hpl
  clear hrng hrow hc hF hn ho hb hmod hi0 hcB hpl hq
  go_enter Try.func67, Try.ntmps67
  go_wp2_with (first
    | (go_at_call 92; refine (HW.out _).mono ?_; rintro e w1 ⟨rfl, hw1⟩; have hw1s := hw1.symm; clear hw1; subst hw1s)
    | (at_builtin; refine wpList_append_lies _ (by rfl) _ _ _ (by rfl) 0 39 i0 _ 11 88 Try.underlying26 HI0.out hz0 hz1 hz2 (by rfl) (by omega) (.slice none 0 0) 0 [] (by rfl) (World.ownsRow_nil _ _ _ _) ad pages.length cb (pgVals pages) (by rfl) HVL.out HCB.out HONE.out HN0.out (by have := HN.out; unfold maxLen; omega) (by have := HN.out; omega) (Nat.zero_le _) w.heap.size (by rfl) ?_; intro g cap w3 hown3 hgrow3 hat3 hlt3; have HOWN3 := Lib.hid hown3; have HGROW3 := Lib.hid hgrow3; have HAT3 := Lib.hid hat3; clear hown3 hgrow3 hat3 hlt3))
  have HI1 := Lib.hid (show MapI w w3.heap.size o 0 (.slice (some ⟨g, 0, none⟩) pages.length cap) (.slice none 0 0) [] (w3.alloc (mapO o (.slice (some ⟨g, 0, none⟩) pages.length cap) (.slice none 0 0))) from by
    have hb3 : Below w.heap.size w w3 := below_grown (Below.refl _ _) HGROW3.out (fun g hg => by cases hg)
    exact ⟨blk_new w3 _, World.ownsRow_nil _ _ _ _, rfl, fun x hx => (by have := hb3.size; simp [rowBlks, Value.ownBlock] at hx; subst hx; simp; omega), by simp [rowBlks, Value.ownBlock], hb3.alloc hb3.size _⟩)
  unfold mapO at HI1
  have HPO := Lib.hid (show RowP F w (some ad) pages from HB.out)
  generalize w3.heap.size = mp at *
  generalize Value.slice (some ⟨g, 0, none⟩) pages.length cap = pv at *
  clear m1 m2 m3 m4 m5 t1 t2 t3 hmin
  go_loopg [9, 10, 11, 43, 44, 45, 46, 47, 48, 49, 50, 51, 52, 53, 54, 55, 56, 57, 58, 59, 60, 61, 62, 63, 64, 65, 66, 67, 68, 69, 70, 71] pairs.length (fun g _ _ _ v43 _ _ _ _ _ _ _ _ _ _ _ _ _ _ _ _ _ _ _ _ _ _ _ _ _ _ _ _ wi => ∃ (k : Nat) (rv : Value) (ps : List Nat), v43 = .int .i64 (k : Int) ∧ Aside0 (k + g = pairs.length) ∧ Aside0 (MapI w mp o k pv rv ps wi))
  case atStart => exact ⟨0, _, [], rfl, ⟨by omega⟩, ⟨HI1.out⟩⟩
  case round =>
    obtain ⟨k, rv, ps, rfl, hkg, hm⟩ := hrel
    by_cases hk : k < pairs.length
    case neg =>
      obtain ⟨t1, t2⟩ := nlt_dec hk
      have HM := Lib.hid (show MapI w mp o o pv rv ps wr by have := hkg.out; have := hm.out; rwa [show k = o by have := HPL.out; omega] at this)
      clear hk hkg hm
      go_wp2
      go_loopg [13, 74, 75, 76, 77, 78, 79, 80, 81, 82, 83, 84] pages.length (fun g _ v74 _ _ _ _ _ _ _ _ _ _ wi => ∃ (k : Nat), v74 = .int .i64 (k : Int) ∧ Aside0 (k + g = pages.length) ∧ Aside0 (MapI w mp o o pv rv ps wi))
      case atStart => exact ⟨0, rfl, ⟨by omega⟩, ⟨HM.out⟩⟩
      case round =>
        obtain ⟨k, rfl, hkg, hm⟩ := hrel
        by_cases hk : k < pages.length
        case neg =>
          obtain ⟨t1, t2⟩ := nlt_dec hk
          have HM2 := Lib.hid hm.out
          clear hk hkg hm
          go_wp2
          go_ret2
          exact ⟨mp, pv, rv, ps, rfl, HM2.out⟩
        obtain ⟨t1, t2⟩ := lt_dec hk
        have hkI : (k : Int) < (pages.length : Int) := by omega
        obtain ⟨g1, rfl⟩ : ∃ g1, gk = g1 + 1 := ⟨gk - 1, by have := hkg.out; omega⟩
        have HG := Lib.hid (lp_step hkg.out)
        have HM2 := Lib.hid hm.out
        obtain ⟨p0, p1, p2, p3, p4, p5, p6, p7, p8, p9, p10⟩ := rowP_page (HPO.out.keep (w' := wr) (fun x hx => hm.out.below.block x (HFF.out x hx))) k hk
        have hr := HRNG.out k hk
        obtain ⟨pg, hpg⟩ : ∃ pg, pages.getD k pg0 = pg := ⟨_, rfl⟩
        rw [hpg] at p0 p1 p2 p3 p4 p5 p6 p7 p8 p9 p10 hr
        obtain ⟨W1, hW1⟩ : ∃ W, wr.alloc (pageO pg) = W := ⟨_, rfl⟩
        obtain ⟨q0, q1, q2, q3, q4, q5, q6, q7, q8, q9, q10⟩ := page_var (by rw [← hW1]; exact blk_new wr (pageO pg) : W1.heap[wr.heap.size]? = some (pageO pg))
        have HB1 := Lib.hid (show Below wr.heap.size wr W1 by rw [← hW1]; exact (Below.refl _ _).alloc (Nat.le_refl _) _)
        have HFT := Lib.hid (fits_t hr ⟨by omega, by have := HN.out; omega⟩ W1)
        unfold pageO at hW1
        unfold Pg.cells at HFT
        have n1 : wrap64 ((k : Int) + 1) = (k : Int) + 1 := up1 (by have := HN.out; omega)
        clear hk hkg hm hr hpg
        go_wp2_with (go_at_call 93; refine HFT.out.mono ?_; rintro e w5 ⟨rfl, hb5⟩; have HB5 := Lib.hid hb5; clear hb5)
        go_roundg g1
        case measure => omega
        case rel => exact ⟨k + 1, by simp; try exact n1, ⟨HG.out⟩, ⟨(HM2.out.later HB1.out).later HB5.out⟩⟩
    obtain ⟨t1, t2⟩ := lt_dec hk
    have hkI : (k : Int) < (pairs.length : Int) := by omega
    obtain ⟨g1, rfl⟩ : ∃ g1, gk = g1 + 1 := ⟨gk - 1, by have := hkg.out; omega⟩
    have HG := Lib.hid (lp_step hkg.out)
    have HM := Lib.hid hm.out
    have HKO := Lib.hid (show k < o by have := HPL.out; omega)
    have HML := Lib.hid (show k + 1 ≤ maxLen by have := HO.out; have := HPL.out; unfold maxLen; omega)
    have HBY := Lib.hid (show (k + 1) * 8 ≤ 140737488355328 by have := HO.out; have := HPL.out; omega)
    obtain ⟨ap, ep, -, hrows⟩ := (HC.out.keep (w' := wr) (fun x hx => hm.out.below.block x (HFF.out x hx))) (by omega)
    obtain ⟨B', cB, hcB, hcell, hrowi⟩ := hrows k hk
    obtain ⟨hlen, hwd⟩ := HROW.out k HKO.out
    obtain ⟨l, hl⟩ : ∃ l, pairs.getD k [] = l := ⟨_, rfl⟩
    rw [hl] at hcB hcell hrowi hlen hwd
    subst ep
    obtain ⟨k1, hk1⟩ : ∃ k1 : Nat, k1 = k + 1 := ⟨_, rfl⟩
    obtain ⟨np, hnp⟩ : ∃ np, pages.length / 2 ^ (k + 1) = np := ⟨_, rfl⟩
    obtain ⟨m, hm'⟩ : ∃ m, (np + 63) / 64 = m := ⟨_, rfl⟩
    obtain ⟨n1, n2, n3, n4, n5, n6, n7, n8, n9, n10⟩ := r2_nums (n := pages.length) HN.out hk1 HKO.out HO.out hnp hm'
    rw [hnp, hm'] at hlen
    have hlm := po_len hlen hm' n6
    obtain ⟨hd9', hd9⟩ := po_ne hlen
    have HOF := Lib.hid (of_d (w := wr) (c := cB) (np : Int) (C_of_RowI hrowi hlm) hwd)
    have HAT := Lib.hid hm.out.at_
    have HFR := Lib.hid (show ∀ wx : World, wx.heap[mp]? = some (mapO o pv rv) → wx.cell? ⟨mp, 2, none⟩ = some rv ∧ wx.frozen? ⟨mp, 2, none⟩ = false from fun wx hx => by
      unfold mapO at hx
      exact ⟨blk_cell hx 2, blk_frozen hx 2⟩)
    obtain ⟨a4, fa⟩ := HFR.out wr hm.out.at_
    have HNE := Lib.hid (show some mp ≠ rv.ownBlock from fun e => by
      have := HM.out.nodup
      unfold rowBlks at this
      rw [← e] at this
      simp at this)
    have HLT := Lib.hid (blk_lt hm.out.at_)
    have HOWL := Lib.hid (show ps.length = k from HM.out.len)
    obtain ⟨i2, hi2, hy0, hy1, hy2⟩ := info_parts infoPS
    have HI2 := Lib.hid hi2
    have HK1 := Lib.hid hk1
    clear hk hkg hm hi2 hrows hrowi hlen hwd hl hnp hm' hk1
    go_upto_region 7 with (fail)
    clear hcell hcB
    go_upto_region 8 with (fail)
    clear n1 n2 n3 n6 n7
    go_upto_region 10 with (fail)
    clear n4 n5 n8 n9 n10 hd9 hd9' hlm
    go_region_law
      (first
        | (refine step_append_lies _ (by rfl) _ _ _ (by rfl) 0 129 i2 _ 1 8 Try.underlying59 HI2.out hy0 hy1 hy2 rfl (by omega) rv k (ps.map ptrV) (by rfl) (HOW.out.alloc _) ⟨w1.heap.size, 0, none⟩ 1 1 [.pointer (some ⟨p, 0, none⟩)] (by rfl) (by rfl) (World.news_of_block (cs := #[.pointer (some ⟨p, 0, none⟩)]) (t := 129) (fr := (0, 0)) (heap_alloc_new w1 _)) (by simp [Value.oneCell']) (by omega) HML.out HBY.out (Nat.zero_le _) (w1.heap.size + 1) (by simp) ?_; intro g cap w2 hown2 hgrow2 hat2 hlt2; have HOWN2 := Lib.hid hown2; have HGROW2 := Lib.hid hgrow2; have HAT2 := Lib.hid hat2; obtain ⟨k92, f92⟩ := HFR.out w2 (blk_grown (blk_alloc HAT1.out _) hgrow2 HNE.out); clear hown2 hgrow2 hat2 hlt2)
        | (go_simp; go_at_call 80; refine HOF.out.mono ?_; rintro e w1 ⟨p, rfl, hp0, hp1, hu1⟩; have HP0 := Lib.hid hp0; have HP1 := Lib.hid hp1; have HU1 := Lib.hid hu1; have hat1 : w1.heap[mp]? = some (mapO o pv rv) := (hu1.block mp HLT.out (fun h => h.elim)).trans HAT.out; have HAT1 := Lib.hid hat1; obtain ⟨k91, f91⟩ := HFR.out w1 hat1; obtain ⟨k91a, f91a⟩ := HFR.out (w1.alloc (.cells #[.pointer (some ⟨p, 0, none⟩)] 129 (0, 0))) (blk_alloc hat1 _); have HOW := Lib.hid (show w1.ownsRow 0 129 1 rv k (ps.map ptrV) by rw [← HOWL.out]; exact own_move HM.out.own (fun x hx => hu1.block x (own_lt HM.out.own hx).2 (fun h => h.elim))); clear hp0 hp1 hu1 hat1))
    all_goals
      have n1 : wrap64 ((k : Int) + 1) = (k : Int) + 1 := up1 (by have := HBY.out; omega)
      have HST := Lib.hid (MapI.step HM.out HU1.out.size HP0.out HP1.out (app_out (g := mp) (j := 2) (p := p) HOWL.out HM.out.nodup (fun x hx => (HM.out.lt x hx).2) HU1.out HP0.out HP1.out HOWN2.out HGROW2.out HAT2.out))
      clear a4 fa k91 f91 k91a f91a k92 f92
      go_wp2
      go_roundg g1
      case measure => omega
      case rel => exact ⟨k + 1, _, _, by simp; try exact n1, ⟨HG.out⟩, ⟨HST.out⟩⟩
end Go.Proofs.Ytkgedpcipaogjaa.WB
end
section
namespace Go.Proofs.Ytkgedpcipaogjaa.WB
open Go Go.RowKit Go.Proofs.YtkgedpcipaogjaaW.PrintWords Go.Proofs.YtkgedpcipaogjaaW.PrintLast Go.Proofs.YtkgedpcipaogjaaW.PrintMore Go.Proofs.Ytkgedpcipaogjaa.PWalkChecks Go.Proofs.Ytkgedpcipaogjaa.Mem
set_option linter.unusedVariables false
set_option linter.unusedSimpArgs false
def slabO (pool : Nat) (ps : List Int) : Obj := .cells (.pointer (some ⟨pool, 0, none⟩) :: ps.map (Value.int .i64 ·)).toArray 114 (0, 0)
theorem slab_nums (k : Nat) (hk : k < 8) : ((List.replicate k (-1 : Int) ++ List.replicate (8 - k) 0).set k (-1)) = List.replicate (k + 1) (-1 : Int) ++ List.replicate (8 - (k + 1)) 0 := by
  revert k; decide
theorem slab_set (pool : Nat) (ps : List Int) (k : Nat) (x : Int) (w : World) {g : Nat} (h : w.heap[g]? = some (slabO pool ps)) : (w.setCell ⟨g, 1 + k, none⟩ (.int .i64 x)).heap[g]? = some (slabO pool (ps.set k x)) := by
  unfold slabO at h ⊢
  refine blk_put h (1 + k) _ ?_
  rw [show 1 + k = k + 1 by omega]
  simp [List.map_set]
theorem slab_cell {pool : Nat} {ps : List Int} {w : World} {g : Nat} (h : w.heap[g]? = some (slabO pool ps)) (k : Nat) (hk : k < ps.length) : w.cell? ⟨g, 1 + k, none⟩ = some (.int .i64 (ps.getD k 0)) ∧ w.frozen? ⟨g, 1 + k, none⟩ = false := by
  unfold slabO at h
  refine ⟨?_, blk_frozen h _⟩
  rw [blk_cell h, show 1 + k = k + 1 by omega]
  simp [List.getD_eq_getElem?_getD, List.getElem?_eq_getElem hk]
set_option maxRecDepth 100000 in
theorem slabNew_c (pool : Nat) (w : World) : Calls Try.prog 38 #[.pointer (some ⟨pool, 0, none⟩)] w fun e w' => e = .returned (.pointer (some ⟨w.heap.size, 0, none⟩)) ∧ w'.heap[w.heap.size]? = some (slabO pool (List.replicate 8 (-1))) ∧ w'.heap.size = w.heap.size + 1 ∧ Below w.heap.size w w' := by
  have HI := Lib.hid (show (w.alloc (slabO pool (List.replicate 8 0))).heap[w.heap.size]? = some (slabO pool (List.replicate 0 (-1) ++ List.replicate (8 - 0) 0)) from blk_new w _)
  have HB := Lib.hid (show Below w.heap.size w (w.alloc (slabO pool (List.replicate 8 0))) from (Below.refl _ _).alloc (Nat.le_refl _) _)
  have HS := Lib.hid (show (w.alloc (slabO pool (List.replicate 8 0))).heap.size = w.heap.size + 1 by simp)
  obtain ⟨W1, hW1⟩ : ∃ W1, w.alloc (slabO pool (List.replicate 8 0)) = W1 := ⟨_, rfl⟩
  rw [hW1] at HI HB HS
  have e1 : slabO pool (List.replicate 8 0) = .cells #[.pointer (some ⟨pool, 0, none⟩), .int .i64 0, .int .i64 0, .int .i64 0, .int .i64 0, .int .i64 0, .int .i64 0, .int .i64 0, .int .i64 0] 114 (0, 0) := rfl
  rw [e1] at hW1
  clear e1
  go_enter Try.func38, Try.ntmps38
  go_wp2
  clear hW1
  generalize hsb : w.heap.size = sb at HI HB HS ⊢
  have HSB := Lib.hid hsb
  clear hsb
  go_loopg [4, 8, 9, 10, 11, 12, 13, 14, 15, 16] 8 (fun g _ v8 _ _ _ _ _ _ _ _ wi => ∃ (k : Nat), v8 = .int .i64 (k : Int) ∧ Aside0 (k + g = 8) ∧ Aside0 (wi.heap[sb]? = some (slabO pool (List.replicate k (-1) ++ List.replicate (8 - k) 0)) ∧ wi.heap.size = sb + 1 ∧ Below sb w wi))
  case atStart => exact ⟨0, rfl, ⟨rfl⟩, ⟨HI.out, HS.out, HB.out⟩⟩
  case round =>
    obtain ⟨k, rfl, hkg, hm⟩ := hrel
    by_cases hk : k < 8
    case neg =>
      have t1 : decide ((k : Int) < 8) = false := decide_eq_false (by omega)
      have t2 : decide (k < 8) = false := decide_eq_false hk
      have HM := Lib.hid hm.out
      have HK := Lib.hid (show k = 8 by have := hkg.out; omega)
      clear hk hkg hm
      go_wp2
      go_ret
      obtain ⟨h1, h2, h3⟩ := HM.out
      rw [HK.out] at h1
      rw [HSB.out]
      exact ⟨rfl, h1, h2, h3⟩
    have t1 : decide ((k : Int) < 8) = true := decide_eq_true (by omega)
    have t2 : decide (k < 8) = true := decide_eq_true hk
    have hkI : (k : Int) < 8 := by omega
    obtain ⟨g1, rfl⟩ : ∃ g1, gk = g1 + 1 := ⟨gk - 1, by have := hkg.out; omega⟩
    have HG := Lib.hid (lp_step hkg.out)
    have HM := Lib.hid hm.out
    obtain ⟨c1, f1⟩ := slab_cell hm.out.1 k (by simp; omega)
    have n1 : wrap64 ((k : Int) + 1) = (k : Int) + 1 := up1 (by omega)
    have HKL := Lib.hid hk
    clear hkg hm
    go_wp2
    go_roundg g1
    case measure => omega
    case rel =>
      obtain ⟨h1, h2, h3⟩ := HM.out
      refine ⟨k + 1, by simp; try exact n1, ⟨HG.out⟩, ⟨?_, by simpa [World.setCell] using h2, h3.setCell (Nat.le_refl _) _⟩⟩
      rw [← slab_nums k HKL.out]
      exact slab_set _ _ k _ _ h1
theorem info_int : (Try.prog.info? 3).map (·.size) = some 1 := by kernel_rfl
set_option maxRecDepth 100000 in
theorem slabOpen_c {F : Nat → Prop} {w : World} {A : Option Addr} {cap : Nat} (pool : Nat) {ps : List Int} (h8 : ps.length = 8) (hx : RowI F w A .i64 ps) (hF : ∀ k, F k → k < w.heap.size) : Calls Try.prog 40 #[.pointer (some ⟨pool, 0, none⟩), .slice A ps.length cap] w fun e w' => e = .returned (.tuple #[.pointer (some ⟨w.heap.size, 0, none⟩), .int .i64 0]) ∧ w'.heap[w.heap.size]? = some (slabO pool ps) ∧ w'.heap.size = w.heap.size + 1 ∧ Below w.heap.size w w' := by
  obtain ⟨ad, hA, hFa, hcell⟩ := hx (by omega)
  subst hA
  have HI := Lib.hid (show (w.alloc (slabO pool (List.replicate 8 0))).heap[w.heap.size]? = some (.cells (Value.pointer (some ⟨pool, 0, none⟩) :: (List.replicate 8 (0 : Int)).map (Value.int .i64 ·)).toArray 114 (0, 0)) from blk_new w _)
  obtain ⟨W1, hW1⟩ : ∃ W1, w.alloc (slabO pool (List.replicate 8 0)) = W1 := ⟨_, rfl⟩
  have HB := Lib.hid (show Below w.heap.size w W1 by rw [← hW1]; exact (Below.refl _ _).alloc (Nat.le_refl _) _)
  have HS := Lib.hid (show W1.heap.size = w.heap.size + 1 by rw [← hW1]; simp)
  have HSRC := Lib.hid (show ∀ j v, (ps.map (Value.int .i64 ·))[j]? = some v → W1.cell? (ad.add j) = some v from fun j v hj => by
    rw [List.getElem?_map] at hj
    cases hy : ps[j]? with
    | none => rw [hy] at hj; cases hj
    | some x =>
      rw [hy] at hj
      injection hj with hj
      have hjl : j < ps.length := (List.getElem?_eq_some_iff.1 hy).1
      have := hcell j hjl
      rw [List.getD_eq_getElem?_getD, hy] at this
      rw [← hj, cell_keep (HB.out.block _ (hF _ hFa))]
      exact this)
  have HONE := Lib.hid (show ∀ v ∈ ps.map (Value.int .i64 ·), v.oneCell' = true from fun v hv => by
    obtain ⟨x, -, rfl⟩ := List.mem_map.1 hv
    rfl)
  have HL := Lib.hid (show (ps.map (Value.int .i64 ·)).length = Nat.min ps.length 8 by rw [List.length_map, h8]; rfl)
  have H8 := Lib.hid h8
  have HFIT := Lib.hid (show 1 + (ps.map (Value.int .i64 ·)).length ≤ (Value.pointer (some ⟨pool, 0, none⟩) :: (List.replicate 8 (0 : Int)).map (Value.int .i64 ·)).toArray.size by rw [List.length_map, h8]; simp)
  rw [hW1] at HI
  have t1 : ((ps.length : Int) != 8) = false := by simp [h8]
  have t2 : (ps.length != 8) = false := by simp [h8]
  have e1 : slabO pool (List.replicate 8 0) = .cells #[.pointer (some ⟨pool, 0, none⟩), .int .i64 0, .int .i64 0, .int .i64 0, .int .i64 0, .int .i64 0, .int .i64 0, .int .i64 0, .int .i64 0] 114 (0, 0) := rfl
  rw [e1] at hW1
  clear e1 hx hF hcell h8 hFa
  go_enter Try.func40, Try.ntmps40
  go_wp2_with ((with_reducible refine gate_dst (N := 18) rfl ?_); refine wpList_copy_own rfl _ _ _ _ (by rfl) 3 Try.underlying29 info_int w.heap.size 1 8 8 ad ps.length cap (by rfl) (by rfl) (Value.pointer (some ⟨pool, 0, none⟩) :: (List.replicate 8 (0 : Int)).map (Value.int .i64 ·)).toArray 114 HI.out (ps.map (Value.int .i64 ·)) HL.out HSRC.out HFIT.out HONE.out ?_)
  go_ret2
  refine ⟨rfl, ?_, by have := HS.out; simpa [World.setRow] using this, below_setRow HB.out (Nat.le_refl _) _⟩
  have h := setRow_heap W1 w.heap.size _ (.pointer (some ⟨pool, 0, none⟩) :: (ps.map (Value.int .i64 ·) ++ List.drop (1 + ps.length) [.pointer (some ⟨pool, 0, none⟩), .int .i64 0, .int .i64 0, .int .i64 0, .int .i64 0, .int .i64 0, .int .i64 0, .int .i64 0, .int .i64 0])).toArray _ _ HI.out
  rw [h, H8.out]
  simp [slabO]
end Go.Proofs.Ytkgedpcipaogjaa.WB
end
section
namespace Go.Proofs.Ytkgedpcipaogjaa.WB
open Go Go.RowKit Go.Proofs.YtkgedpcipaogjaaW.PrintWords Go.Proofs.YtkgedpcipaogjaaW.PrintLast Go.Proofs.YtkgedpcipaogjaaW.PrintMore Go.Proofs.Ytkgedpcipaogjaa.PWalkChecks Go.Proofs.Ytkgedpcipaogjaa.Mem
set_option linter.unusedVariables false
set_option linter.unusedSimpArgs false
theorem step_copy_at {P : Program} {ops : Array Oper} {o : Oper} {a : Act} {w : World} {K : Act → World → Prop} {Q : Exit → Act → World → Prop} {E : Prop} (hgd : o.guard = none) (d s : Operand) (dT sT : TypeId)
    (ho : o.op = .call { callee := .builtin .copy, args := #[d, s], argTypes := #[dT, sT] }) (elem : TypeId) (hu : P.underlying dT = some (.slice elem)) (hsz : (P.info? elem).map (·.size) = some 1)
    (dLen dCap sLen sCap : Nat) (g off : Nat) (ad : Addr) (hd : a.eval d = .slice (some ⟨g, off, none⟩) dLen dCap) (hs : a.eval s = .slice (some ad) sLen sCap)
    (cur : Array Value) (t : TypeId) (hg : w.heap[g]? = some (.cells cur t (0, 0))) (cs : List Value) (hn : cs.length = Nat.min sLen dLen)
    (hsrc : ∀ j v, cs[j]? = some v → w.cell? (ad.add j) = some v)
    (hfit : off + cs.length ≤ cur.size) (h1 : ∀ v ∈ cs, v.oneCell' = true) (n : Nat) (hnn : n = cs.length)
    (h : ∀ w', Hid (w'.heap[g]? = some (.cells (splice cur.toList off cs).toArray t (0, 0))) → Hid (Upd (fun k => k = g) w w') → K (a.put o.dst (.int .i64 (n : Int))) w') :
    if Region.wanted o (yielded ops a.tmps) = true then Oper.wp P o a w K Q else E := by
  have hw : Region.wanted o (yielded ops a.tmps) = true := by simp [Region.wanted, hgd]
  rw [if_pos hw]
  have hrun := run_copy_row (P := P) w dT sT o.type elem g off dLen dCap ad sLen sCap cur t cs hu hsz hg hn hsrc hfit h1
  unfold Oper.wp
  simp [execOp, ho, resolve, invoke, builtin, hd, hs, hrun, Result.andThen]
  have := h (w.setRow g (splice cur.toList off cs).toArray) (Lib.hid (setRow_heap w g cur _ t _ hg)) (Lib.hid ⟨rfl, rfl, rfl, by simp [World.setRow], fun k _ hk => setRow_other w g k _ hk⟩)
  rw [hnn] at this
  simp only [splice] at this
  simpa [goInt, Oper.upon] using this
theorem splice_getD {α : Type} (l : List α) (a : Nat) (ys : List α) (d : α) (h : a + ys.length ≤ l.length) (i : Nat) : (splice l a ys).getD i d = if a ≤ i ∧ i < a + ys.length then ys.getD (i - a) d else l.getD i d := by
  unfold splice
  simp only [List.getD_eq_getElem?_getD]
  by_cases h1 : i < a
  · rw [List.getElem?_append_left (by rw [List.length_take]; omega), List.getElem?_take, if_pos h1, if_neg (by omega)]
  · rw [List.getElem?_append_right (by rw [List.length_take]; omega), List.length_take, Nat.min_eq_left (by omega)]
    by_cases h2 : i < a + ys.length
    · rw [List.getElem?_append_left (by omega), if_pos ⟨by omega, h2⟩]
    · rw [List.getElem?_append_right (by omega), List.getElem?_drop, if_neg (by omega)]
      congr 2
      omega
theorem splice_get? {α : Type} (l : List α) (a : Nat) (ys : List α) (h : a + ys.length ≤ l.length) (i : Nat) : (splice l a ys)[i]? = if a ≤ i ∧ i < a + ys.length then ys[i - a]? else l[i]? := by
  unfold splice
  by_cases h1 : i < a
  · rw [List.getElem?_append_left (by rw [List.length_take]; omega), List.getElem?_take, if_pos h1, if_neg (by omega)]
  · rw [List.getElem?_append_right (by rw [List.length_take]; omega), List.length_take, Nat.min_eq_left (by omega)]
    by_cases h2 : i < a + ys.length
    · rw [List.getElem?_append_left (by omega), if_pos ⟨by omega, h2⟩]
    · rw [List.getElem?_append_right (by omega), List.getElem?_drop, if_neg (by omega)]
      congr 1
      omega
theorem splice_more (l xs : List Int) (a k m : Nat) (h : a + xs.length ≤ l.length) (hk : k + m ≤ xs.length) : splice (splice l a (xs.take k)) (a + k) ((xs.drop k).take m) = splice l a (xs.take (k + m)) := by
  have l1 : (xs.take k).length = k := by rw [List.length_take]; omega
  have l2 : ((xs.drop k).take m).length = m := by rw [List.length_take, List.length_drop]; omega
  have l3 : (xs.take (k + m)).length = k + m := by rw [List.length_take]; omega
  have l4 : (splice l a (xs.take k)).length = l.length := length_splice _ _ _ (by omega)
  apply List.ext_getElem?
  intro i
  rw [splice_get? _ _ _ (by omega), splice_get? _ _ _ (by omega), splice_get? _ _ _ (by omega), l1, l2, l3]
  by_cases c1 : a + k ≤ i ∧ i < a + k + m
  · rw [if_pos c1, if_pos (by omega), List.getElem?_take, if_pos (by omega), List.getElem?_drop, List.getElem?_take, if_pos (by omega)]
    congr 1; omega
  · rw [if_neg c1]
    by_cases c2 : a ≤ i ∧ i < a + k
    · rw [if_pos c2, if_pos (by omega), List.getElem?_take, List.getElem?_take, if_pos (by omega), if_pos (by omega)]
    · rw [if_neg c2, if_neg (by omega)]
theorem byte_at {n sz a : Nat} (hs : 0 < sz) (ha : a < n * sz) : a / sz < n ∧ a % sz < sz ∧ a = a / sz * sz + a % sz :=
  ⟨(Nat.div_lt_iff_lt_mul hs).2 ha, Nat.mod_lt _ hs, (by rw [Nat.mul_comm]; exact (Nat.div_add_mod a sz).symm)⟩
theorem other_part {i q sz j r m : Nat} (hj : j < sz) (hr : r + m ≤ sz) (hne : i ≠ q) : ¬ (q * sz + r ≤ i * sz + j ∧ i * sz + j < q * sz + r + m) := by
  rintro ⟨h1, h2⟩
  rcases Nat.lt_or_ge i q with h | h
  · have : (i + 1) * sz ≤ q * sz := Nat.mul_le_mul_right sz h
    rw [Nat.add_mul, Nat.one_mul] at this; omega
  · have : (q + 1) * sz ≤ i * sz := Nat.mul_le_mul_right sz (by omega)
    rw [Nat.add_mul, Nat.one_mul] at this; omega
theorem SpaceR.put {w w' : World} {L : SpL} {b l : Int} {o sz : Nat} {mem : List Int} (h : SpaceR w L b l o sz mem) {q p r : Nat} {cs : Array Value} {ys : List Int} (hq : L.ps[q]? = some p) (hcs : w.heap[p]? = some (.cells cs 5 (0, 0))) (hr : r + ys.length ≤ sz) (hys : ∀ x ∈ ys, 0 ≤ x ∧ x < 256)
    (h1 : w'.heap[p]? = some (.cells (splice cs.toList r (ys.map (Value.int .u8 ·))).toArray 5 (0, 0))) (hu : Upd (fun k => k = p) w w') : SpaceR w' L b l o sz (splice mem (q * sz + r) ys) := by
  have hlt := h.lt
  have hnd := h.nodup
  have hpm := List.mem_of_getElem? hq
  have hps : ∀ p ∈ L.ps, p ∈ L.blks := fun p hp => by unfold SpL.blks; simp [hp]
  have hql : q < L.ps.length := (List.getElem?_eq_some_iff.1 hq).1
  unfold SpL.blks at hnd
  obtain ⟨hn1, hn2⟩ := List.nodup_cons.1 hnd
  obtain ⟨hn3, hn4, hn5⟩ := List.nodup_append.1 hn2
  have hfit : q * sz + r + ys.length ≤ mem.length := by
    rw [h.len]
    have : (q + 1) * sz ≤ L.ps.length * sz := Nat.mul_le_mul_right sz hql
    rw [Nat.add_mul, Nat.one_mul] at this; omega
  have keep : ∀ k, k ∈ L.blks → k ≠ p → w'.heap[k]? = w.heap[k]? := fun k hk hne => hu.block k (hlt k hk) hne
  refine ⟨?_, ?_, ?_, ?_, ?_, h.nodup⟩
  · rw [keep _ (by unfold SpL.blks; simp) (fun e => hn1 (by rw [e]; exact List.mem_append_right _ hpm))]
    exact h.at_
  · refine own_move h.own (fun k hk => keep k (by unfold SpL.blks; simp [hk]) (fun e => hn5 k (by simp [hk]) p hpm e))
  · rw [length_splice _ _ _ (by omega)]; exact h.len
  · intro x hx
    unfold splice at hx
    rcases List.mem_append.1 hx with hx | hx
    · exact h.byte x (List.mem_of_mem_take hx)
    · rcases List.mem_append.1 hx with hx | hx
      · exact hys x hx
      · exact h.byte x (List.mem_of_mem_drop hx)
  · intro i p2 hp2
    by_cases e : i = q
    · subst e
      rw [hq] at hp2
      injection hp2 with hp2
      subst hp2
      obtain ⟨cs0, g1, g2, g3⟩ := h.part i p hq
      rw [g1] at hcs
      injection hcs with hcs
      injection hcs with hcs
      subst hcs
      refine ⟨_, h1, ?_, fun j hj => ?_⟩
      · simp only [List.size_toArray]
        rw [length_splice _ _ _ (by simp [g2]; omega)]
        simpa using g2
      · have hl : r + (ys.map (Value.int .u8 ·)).length ≤ cs0.toList.length := by simp [g2]; omega
        rw [← Array.getElem?_toList, splice_get? _ _ _ hl, splice_getD _ _ _ _ hfit, List.length_map]
        by_cases c : r ≤ j ∧ j < r + ys.length
        · rw [if_pos c, if_pos (by omega), List.getElem?_map, List.getElem?_eq_getElem (by omega), List.getD_eq_getElem?_getD, show i * sz + j - (i * sz + r) = j - r by omega, List.getElem?_eq_getElem (by omega)]
          rfl
        · rw [if_neg c, if_neg (by omega), Array.getElem?_toList]
          exact g3 j hj
    · obtain ⟨cs0, g1, g2, g3⟩ := h.part i p2 hp2
      have hpm2 := List.mem_of_getElem? hp2
      have hne : p2 ≠ p := fun e2 => e ((List.getElem?_inj (List.getElem?_eq_some_iff.1 hp2).1 hn4).1 (by rw [hp2, hq, e2]))
      refine ⟨cs0, (keep p2 (hps p2 hpm2) hne).trans g1, g2, fun j hj => ?_⟩
      rw [splice_getD _ _ _ _ hfit, if_neg (other_part hj hr e)]
      exact g3 j hj
set_option maxRecDepth 100000 in
theorem look_ok {w : World} {L : SpL} {b l : Int} {o sz : Nat} {mem : List Int} (h : SpaceR w L b l o sz mem) (hc : CfgOk b l o sz) (hn : (L.ps.length : Int) ≤ l) (off n : Nat) (hin : off + n ≤ mem.length) :
    Calls Try.prog 97 #[.pointer (some ⟨L.sp, 0, none⟩), .int .u64 (b + (off : Int)), .int .u64 (n : Int)] w fun e w' => e = .returned (.tuple #[]) ∧ Drawn0 w w' := by
  obtain ⟨⟨c0, c1, c2, c3, c4⟩, -⟩ := h.cells
  have HE0 := Lib.hid (End_c h hc hn)
  have HE := Lib.hid (fun (q : Nat) => End_c (h.keep (w' := w.drewN q) (fun _ _ => rfl)) hc hn)
  obtain ⟨y, hy, hyI, n1, n2, n3, n4, n5⟩ := space_nums hc hn
  rw [hy] at HE HE0
  rw [h.len, hy] at hin
  have hb0 := hc.b0
  obtain ⟨p, hp⟩ : ∃ p, b + (off : Int) = p := ⟨_, rfl⟩
  obtain ⟨E, hE⟩ : ∃ E, b + (y : Int) = E := ⟨_, rfl⟩
  rw [hE] at HE HE0
  rw [hp]
  have t1 : decide (p < b) = false := decide_eq_false (by omega)
  have t2 : decide (E < p) = false := decide_eq_false (by omega)
  have s1 : IntKind.u64.wrap (E - p) = E - p := wrap_u64_in (by omega) (by omega)
  have t3 : decide (E - p < (n : Int)) = false := decide_eq_false (by omega)
  clear h hc hy hyI n1 n2 n3 n4 n5 hE hp hin
  by_cases h0 : n = 0
  · subst h0
    go_enter Try.func97, Try.ntmps97
    go_wp2
    go_end0
    exact ⟨rfl, 0, rfl⟩
  · have t4 : ((n : Int) != 0) = true := by rw [bne_iff_ne]; omega
    have TK : True := trivial
    clear h0
    go_enter Try.func97, Try.ntmps97
    go_wp2_with (first | (go_at_call 94; clear TK; refine HE0.out.mono ?_; rintro e w1 ⟨rfl, m1, rfl⟩) | (go_at_call 94; refine (HE.out _).mono ?_; rintro e w1 ⟨rfl, m2, rfl⟩))
    go_end0
    exact ⟨rfl, _, rfl⟩
theorem RowI.drop {F : Nat → Prop} {w : World} {A : Option Addr} {k : IntKind} {xs : List Int} (h : RowI F w A k xs) (n : Nat) : ∃ ad, RowI F w (some ad) k (xs.drop n) ∧ (0 < (xs.drop n).length → ∃ a0, A = some a0 ∧ ad = a0.add n) := by
  by_cases h0 : 0 < (xs.drop n).length
  · rw [List.length_drop] at h0
    obtain ⟨a0, e, hF, hx⟩ := h (by omega)
    refine ⟨a0.add n, fun _ => ⟨_, rfl, by rw [add_block]; exact hF, fun i hi => ?_⟩, fun _ => ⟨a0, e, rfl⟩⟩
    rw [List.length_drop] at hi
    rw [Addr.add_add, hx _ (by omega), List.getD_eq_getElem?_getD, List.getD_eq_getElem?_getD, List.getElem?_drop]
  · exact ⟨⟨0, 0, none⟩, fun h => absurd h h0, fun h => absurd h h0⟩
structure PutI (F : Nat → Prop) (w : World) (L : SpL) (b l : Int) (o sz : Nat) (mem xs : List Int) (off k : Nat) (A : Option Addr) (wi : World) : Prop where
  le : k ≤ xs.length
  sp : SpaceR wi L b l o sz (splice mem off (xs.take k))
  src : RowI F wi A .u8 (xs.drop k)
  upd : Upd (fun x => x ∈ L.ps) w wi
theorem PutI.step {F : Nat → Prop} {w wi w3 : World} {L : SpL} {b l : Int} {o sz : Nat} {mem xs : List Int} {off k a q r m R p : Nat} {A2 : Option Addr} {cs : Array Value} {ad1 : Addr} (h : PutI F w L b l o sz mem xs off k (some ad1) wi) (hin : off + xs.length ≤ mem.length) (hF : ∀ k, F k → k < w.heap.size ∧ k ∉ L.ps) (hxs : ∀ x ∈ xs, 0 ≤ x ∧ x < 256)
    (hR : xs.length - k = R) (hmR : m ≤ R) (hk : k ≤ xs.length) (ha : off + k = a) (haq : a = q * sz + r) (hrm : r + m ≤ sz) (hp : L.ps[q]? = some p) (hcs : wi.heap[p]? = some (.cells cs 5 (0, 0)))
    (h3 : w3.heap[p]? = some (.cells (splice cs.toList r ((((xs.drop k).take m).map (Value.int .u8 ·)))).toArray 5 (0, 0))) (hu : Upd (fun k => k = p) wi w3) (hA : 0 < R - m → A2 = some (ad1.add m)) : PutI F w L b l o sz mem xs off (k + m) A2 w3 := by
  have hys : ((xs.drop k).take m).length = m := by rw [List.length_take, List.length_drop]; omega
  have hpm := List.mem_of_getElem? hp
  refine ⟨by omega, ?_, ?_, ?_⟩
  · have := SpaceR.put h.sp (ys := (xs.drop k).take m) hp hcs (by rw [hys]; exact hrm) (fun x hx => hxs x (List.mem_of_mem_drop (List.mem_of_mem_take hx))) h3 hu
    rw [← haq, ← ha, splice_more _ _ _ _ _ hin (by omega)] at this
    exact this
  · intro h0
    rw [List.length_drop] at h0
    obtain ⟨ad, e, hFa, hx⟩ := h.src (by rw [List.length_drop]; omega)
    injection e with e
    subst e
    refine ⟨ad1.add m, hA (by omega), by rw [add_block]; exact hFa, fun i hi => ?_⟩
    rw [List.length_drop] at hi
    have hb : ((ad1.add m).add i).block = ad1.block := by rw [add_block, add_block]
    have hfa := hF _ hFa
    rw [World.cell?_of_block (w := wi) (w' := w3) (by rw [hb]; exact hu.block _ (Nat.lt_of_lt_of_le hfa.1 h.upd.size) (fun e => hfa.2 (e ▸ hpm))), Addr.add_add, hx _ (by rw [List.length_drop]; omega)]
    rw [List.getD_eq_getElem?_getD, List.getD_eq_getElem?_getD, List.getElem?_drop, List.getElem?_drop, Nat.add_assoc]
  · exact h.upd.trans hu (fun x hx _ => by rw [hx]; exact hpm)
theorem upd_undrew {F : Nat → Prop} {w w' : World} (h : Upd F w.drew w') : Upd F w w' := ⟨h.os, h.tape, h.output, h.size, h.block⟩
theorem put_nums {b : Int} {sz n off k len y : Nat} (hs : 4096 ≤ sz) (hy : n * sz = y) (hin : off + len ≤ y) (hk : k < len) (hb : 0 < b) (ht : b + (y : Int) ≤ 9223372036854775808) (hy6 : y ≤ 67108864) {a q r m : Nat} (ha : off + k = a) (hq : a / sz = q) (hr : a % sz = r) (hm : min (len - k) (sz - r) = m) :
    IntKind.u64.wrap (b + (k : Int) + (off : Int) - b) = (a : Int) ∧ q < n ∧ r < sz ∧ a = q * sz + r ∧ 0 < m ∧ m ≤ len - k ∧ r + m ≤ sz ∧ a < 67108864 ∧ IntKind.u64.wrap (b + (k : Int) + (off : Int) + (m : Int)) = b + ((k + m : Nat) : Int) + (off : Int) := by
  have hay : a < n * sz := by omega
  obtain ⟨h1, h2, h3⟩ := byte_at (by omega) hay
  rw [hq] at h1 h3
  rw [hr] at h2 h3
  exact ⟨by rw [wrap_u64]; omega, h1, h2, h3, by omega, by omega, by omega, by omega, by rw [wrap_u64]; omega⟩
set_option maxRecDepth 100000 in
set_option maxHeartbeats 1000000 in
theorem put_c {F : Nat → Prop} {w : World} {L : SpL} {b l : Int} {o sz : Nat} {mem xs : List Int} {A : Option Addr} {cap off : Nat} (h : SpaceR w L b l o sz mem) (hc : CfgOk b l o sz) (hn : (L.ps.length : Int) ≤ l) (hx : RowI F w A .u8 xs) (hF : ∀ k, F k → k < w.heap.size ∧ k ∉ L.ps) (hxs : ∀ x ∈ xs, 0 ≤ x ∧ x < 256) (hcap : xs.length ≤ cap) (hin : off + xs.length ≤ mem.length) :
    Calls Try.prog 98 #[.pointer (some ⟨L.sp, 0, none⟩), .int .u64 (b + (off : Int)), .slice A xs.length cap] w fun e w' => e = .returned (.tuple #[]) ∧ SpaceR w' L b l o sz (splice mem off xs) ∧ Upd (fun k => k ∈ L.ps) w w' := by
  obtain ⟨y, hy, hyI, n1, n2, n3, n4, n5⟩ := space_nums hc hn
  have hmy : mem.length = y := by rw [h.len, hy]
  have hin' := hin
  rw [hmy] at hin
  have h0 : splice mem off (xs.take 0) = mem := by simp [splice]
  have HI := Lib.hid (show PutI F w L b l o sz mem xs off 0 A w from ⟨Nat.zero_le _, by rw [h0]; exact h, hx, Upd.refl _ _⟩)
  have HN := Lib.hid (show ∀ k a q r m : Nat, k < xs.length → off + k = a → a / sz = q → a % sz = r → min (xs.length - k) (sz - r) = m → _ from fun k a q r m hk ha hq hr hm => put_nums (b := b) hc.lo hy hin hk hc.b0 n2 n1 ha hq hr hm)
  have HXS := Lib.hid hxs
  have HF := Lib.hid hF
  have HIN := Lib.hid hin'
  have HSZ := Lib.hid hc.hi
  have HLO := Lib.hid hc.lo
  have HLN := Lib.hid (show L.ps.length ≤ 64 by have := hc.l64; omega)
  clear h hc hn hx hxs hF hy hyI n1 n2 n3 n4 n5 hmy hin hin' h0
  go_enter Try.func98, Try.ntmps98
  go_wp2
  go_loopg [1, 2, 6, 7, 8, 9, 10, 11, 12, 13, 14, 15, 16, 17, 18, 19, 20, 21, 22, 23, 24, 25, 26, 27, 28, 29, 30, 31, 32, 33, 34, 35, 36, 37, 38, 39, 40, 41, 42, 43, 44, 45] xs.length (fun g v1 v2 _ _ _ _ _ _ _ _ _ _ _ _ _ _ _ _ _ _ _ _ _ _ _ _ _ _ _ _ _ _ _ _ _ _ _ _ _ _ _ _ wi => ∃ (k : Nat) (A1 : Option Addr) (c1 : Nat), v1 = .int .u64 (b + (k : Int) + (off : Int)) ∧ v2 = .slice A1 (xs.length - k) c1 ∧ Aside0 (xs.length - k ≤ c1) ∧ Aside0 (k + g = xs.length) ∧ Aside0 (PutI F w L b l o sz mem xs off k A1 wi))
  case atStart => exact ⟨0, A, cap, by simp, rfl, ⟨hcap⟩, ⟨by omega⟩, ⟨HI.out⟩⟩
  case round =>
    obtain ⟨k, A1, c1, rfl, rfl, hc1, hkg, hput⟩ := hrel
    have HP := Lib.hid hput.out
    have hle := HP.out.le
    by_cases hk : k < xs.length
    case neg =>
      have hke : xs.length - k = 0 := by omega
      rw [hke]
      have HK := Lib.hid (show k = xs.length by omega)
      clear hk hke hle hkg hput hc1
      go_wp2
      go_end0
      refine ⟨rfl, ?_, HP.out.upd⟩
      have := HP.out.sp
      rw [HK.out, List.take_length] at this
      exact this
    obtain ⟨a, ha⟩ : ∃ a, off + k = a := ⟨_, rfl⟩
    obtain ⟨q, hq⟩ : ∃ q, a / sz = q := ⟨_, rfl⟩
    obtain ⟨r, hr⟩ : ∃ r, a % sz = r := ⟨_, rfl⟩
    obtain ⟨R, hR⟩ : ∃ R, xs.length - k = R := ⟨_, rfl⟩
    obtain ⟨m, hm⟩ : ∃ m, min R (sz - r) = m := ⟨_, rfl⟩
    obtain ⟨n1, n2, n3, n4, n5, n6, n7, n8, n9⟩ := HN.out k a q r m hk ha hq hr (by rw [hR]; exact hm)
    rw [hR] at n6
    rw [hR]
    have R0 : 0 < R := by omega
    have R0I : decide ((R : Int) > 0) = true := decide_eq_true (by omega)
    obtain ⟨p, hp⟩ : ∃ p, L.ps[q]? = some p := ⟨_, List.getElem?_eq_getElem n2⟩
    obtain ⟨cs, hcs1, hcs2, hcs3⟩ := HP.out.sp.part q p hp
    obtain ⟨⟨c0, c1', c2, c3, c4⟩, AP, cP, hv⟩ := HP.out.sp.cells
    rw [hv] at c4
    have hlo := HLO.out
    have hhi := HSZ.out
    have hln := HLN.out
    obtain ⟨ap, hap, hcell⟩ : ∃ ap, AP = some ap ∧ wr.cell? (ap.add q) = some (.slice (some ⟨p, 0, none⟩) sz sz) := by
      rcases HP.out.sp.own.2 with ⟨e, e0⟩ | ⟨g, cap, cur, e, -⟩
      · omega
      · rw [hv] at e
        injection e with e1 e2 e3
        refine ⟨_, e1, ?_⟩
        have := HP.out.sp.own.cells (g := g) (by rw [hv, e1]; rfl) q (partV sz p) (by rw [List.getElem?_map, hp]; rfl)
        exact this
    subst hap
    obtain ⟨ad1, ead, hF1, hx1⟩ := HP.out.src (by rw [List.length_drop]; omega)
    subst ead
    obtain ⟨ys, hys⟩ : ∃ ys, (xs.drop k).take m = ys := ⟨_, rfl⟩
    have hyl : ys.length = m := by rw [← hys, List.length_take, List.length_drop]; omega
    have HSRC := Lib.hid (show ∀ j v, (ys.map (Value.int .u8 ·))[j]? = some v → wr.cell? (ad1.add j) = some v from fun j v hj => by
      rw [List.getElem?_map] at hj
      cases hy : ys[j]? with
      | none => rw [hy] at hj; cases hj
      | some x =>
        rw [hy] at hj
        injection hj with hj
        have hjl : j < ys.length := (List.getElem?_eq_some_iff.1 hy).1
        rw [← hj, hx1 j (by rw [List.length_drop]; omega)]
        rw [← hys, List.getElem?_take, if_pos (by omega)] at hy
        rw [List.getD_eq_getElem?_getD, hy]
        rfl)
    have HONE := Lib.hid (show ∀ v ∈ ys.map (Value.int .u8 ·), v.oneCell' = true from fun v hv => by
      obtain ⟨x, -, rfl⟩ := List.mem_map.1 hv
      rfl)
    have HYL := Lib.hid (show (ys.map (Value.int .u8 ·)).length = Nat.min R (sz - r) by rw [List.length_map, hyl]; exact hm.symm)
    have HYM := Lib.hid (show m = (ys.map (Value.int .u8 ·)).length by rw [List.length_map, hyl])
    have HYS := Lib.hid hys
    have HFIT := Lib.hid (show r + (ys.map (Value.int .u8 ·)).length ≤ cs.size by rw [List.length_map, hyl, hcs2]; exact n7)
    clear hys hyl hx1 hF1
    have hqI : (q : Int) < (L.ps.length : Int) := by omega
    have hz0 : ¬ sz = 0 := by omega
    have hz : ((sz : Int) == 0) = false := by rw [beq_eq_false_iff_ne]; omega
    have d1 : (a : Int) / (sz : Int) = (q : Int) := by rw [← hq]; rfl
    have d2 : (a : Int) % (sz : Int) = (r : Int) := by rw [← hr]; rfl
    have d3 : Int.tdiv (a : Int) (sz : Int) = (q : Int) := by rw [Int.tdiv_eq_ediv_of_nonneg (by omega)]; exact d1
    have d4 : Int.tmod (a : Int) (sz : Int) = (r : Int) := by rw [Int.tmod_eq_emod_of_nonneg (by omega)]; exact d2
    have k1 : IntKind.u64.wrap (q : Int) = (q : Int) := wrap_u64_in (by omega) (by omega)
    have k2 : IntKind.u64.wrap (r : Int) = (r : Int) := wrap_u64_in (by omega) (by omega)
    have k3 : IntKind.u64.wrap (m : Int) = (m : Int) := wrap_u64_in (by omega) (by omega)
    have hrs : ¬ sz = r := by omega
    have hrle : r ≤ sz := by omega
    have hrs' : ¬ r = sz := by omega
    have HN4 := Lib.hid n4
    have HN9 := Lib.hid n9
    have HA := Lib.hid ha
    have HM := Lib.hid hm
    have HRR := Lib.hid hR
    have HCS := Lib.hid hcs1
    have HCS2 := Lib.hid hcs2
    have HQ := Lib.hid hp
    clear ha hq hr hm hR hcs1 hcs2 hcs3 hp n4 n9
    go_wp2_with (fail)
    have sU8 : (Try.prog.info? 5).map (·.size) = some 1 := by kernel_rfl
    have SU := Lib.hid sU8
    clear sU8
    go_region_law (refine step_copy_at (by rfl) _ _ _ _ (by rfl) 5 Try.underlying25 SU.out (sz - r) (sz - r) R c1 p r ad1 (by rfl) (by rfl) cs 5 HCS.out (ys.map (Value.int .u8 ·)) HYL.out HSRC.out HFIT.out HONE.out m HYM.out ?_; intro w3 h3 hu3)
    all_goals
      have HST := Lib.hid (fun (A2 : Option Addr) (hA : 0 < R - m → A2 = some (ad1.add m)) => PutI.step HP.out HIN.out HF.out HXS.out HRR.out n6 hle HA.out HN4.out n7 HQ.out HCS.out (by rw [HYS.out]; exact h3.out) (upd_undrew hu3.out) hA)
      clear c0 c1' c2 c3 c4 hcell
      by_cases hmc : c1 = m
      · have HMC := Lib.hid (show R = m by have := hc1.out; rw [HRR.out] at this; omega)
        subst hmc
        go_wp2
        go_roundg (xs.length - (k + c1))
        case measure => have := hkg.out; have := HRR.out; omega
        case rel => exact ⟨k + c1, some ad1, 0, by rw [HN9.out], by rw [← HRR.out, Nat.sub_sub], ⟨by have := HRR.out; have := HMC.out; omega⟩, ⟨by have := HRR.out; omega⟩, ⟨HST.out _ (fun h => by have := HMC.out; omega)⟩⟩
      · have hmc' : ¬ m = c1 := fun e => hmc e.symm
        have hmle : m ≤ c1 := by have := hc1.out; rw [HRR.out] at this; omega
        go_wp2
        go_roundg (xs.length - (k + m))
        case measure => have := hkg.out; have := HRR.out; omega
        case rel => exact ⟨k + m, some (ad1.add m), c1 - m, by rw [HN9.out], by rw [← HRR.out, Nat.sub_sub], ⟨by have := HRR.out; have := hc1.out; omega⟩, ⟨by have := HRR.out; omega⟩, ⟨HST.out _ (fun _ => rfl)⟩⟩
end Go.Proofs.Ytkgedpcipaogjaa.WB
end
section
namespace Go.Proofs.Ytkgedpcipaogjaa.WB
open Go Go.RowKit Go.Proofs.YtkgedpcipaogjaaW.PrintWords Go.Proofs.YtkgedpcipaogjaaW.PrintLast Go.Proofs.YtkgedpcipaogjaaW.PrintMore Go.Proofs.Ytkgedpcipaogjaa.PWalkChecks Go.Proofs.Ytkgedpcipaogjaa.Mem
set_option linter.unusedVariables false
set_option linter.unusedSimpArgs false
theorem caught_nil (p : Addr) (w : World) : Calls Try.prog 96 #[.nilIface, .pointer (some p)] w fun e w' => e = .returned (.tuple #[]) ∧ w' = w := by
  go_enter Try.func96, Try.ntmps96
  go_wp2
  refine bodyPost_ret (results_none rfl _ _ _) rfl ?_
  exact ⟨rfl, rfl⟩
theorem shutW_idle (p : Addr) (w : World) :
    CallsD Try.prog 95 #[.pointer (some p)] .returning w fun e u' w' => e = .returned (.tuple #[]) ∧ u' = .returning ∧ w' = w := by
  refine callsD_of_wpS Try.func95 rfl fun c₀ cs hu => ?_
  apply wpS_region
  simp [wpOpsS, go_sem, recoverD, hu, Try.ntmps95, Exit.thenS]
  refine (caught_nil p w).mono ?_
  rintro e w1 ⟨rfl, rfl⟩
  cases c₀
  simp_all [bodyPostS, results, Try.results95]
theorem upd_past {F : Nat → Prop} {w w' : World} {o : Obj} (h : Upd F (w.alloc o) w') : Upd F w w' :=
  ⟨h.os, h.tape, h.output, by have := h.size; simp at this; omega, fun k hk hn => (h.block k (by simp; omega) hn).trans (Below.heap_alloc w o k hk)⟩
set_option maxRecDepth 100000 in
set_option maxHeartbeats 1000000 in
theorem Write_c {F : Nat → Prop} {w : World} {L : SpL} {b l : Int} {o sz : Nat} {mem xs : List Int} {A : Option Addr} {cap off : Nat} (h : SpaceR w L b l o sz mem) (hc : CfgOk b l o sz) (hn : (L.ps.length : Int) ≤ l) (hx : RowI F w A .u8 xs) (hF : ∀ k, F k → k < w.heap.size ∧ k ∉ L.ps) (hxs : ∀ x ∈ xs, 0 ≤ x ∧ x < 256) (hcap : xs.length ≤ cap) (hin : off + xs.length ≤ mem.length) :
    Calls Try.prog 69 #[.pointer (some ⟨L.sp, 0, none⟩), .int .u64 (b + (off : Int)), .slice A xs.length cap] w fun e w' => e = .returned (.int .i64 0) ∧ SpaceR w' L b l o sz (splice mem off xs) ∧ Upd (fun k => k ∈ L.ps) w w' := by
  have hmf : ∀ (fn : Fn) (first cap : Array Value) (w : World), (Instr.makeFunc fn first cap).run Try.prog w = .ok (.func fn first cap) w := fun _ _ _ _ => rfl
  obtain ⟨y, hy, hyI, n1, n2, n3, n4, n5⟩ := space_nums hc hn
  have hwl : IntKind.u64.wrap (xs.length : Int) = (xs.length : Int) := by
    have := h.len
    exact wrap_u64_in (by omega) (by omega)
  obtain ⟨W1, hW1⟩ : ∃ W1, w.alloc (.cells #[.int .i64 0] 54) = W1 := ⟨_, rfl⟩
  have hlt := h.lt
  have hs1 : W1.heap.size = w.heap.size + 1 := by rw [← hW1]; simp
  have hold : ∀ k, k < w.heap.size → W1.heap[k]? = w.heap[k]? := fun k hk => by rw [← hW1]; exact Below.heap_alloc w _ k hk
  have HNW := Lib.hid (show W1.heap[w.heap.size]? = some (.cells #[.int .i64 0] 54 (0, 0)) by rw [← hW1]; exact blk_new w _)
  have HNE := Lib.hid (show w.heap.size ∉ L.ps from fun hp => by have := hlt _ (show w.heap.size ∈ L.blks by unfold SpL.blks; simp [hp]); omega)
  have HLK := Lib.hid (look_ok (h.keep (w' := W1) (fun k hk => hold k (hlt k hk))) hc hn off xs.length hin)
  have HPT := Lib.hid (fun n => put_c (w := W1.drewN n) (h.keep (fun k hk => hold k (hlt k hk))) hc hn (hx.keep (w' := W1.drewN n) (fun k hk => hold k (hF k hk).1)) (fun k hk => ⟨by have := (hF k hk).1; show k < W1.heap.size; omega, (hF k hk).2⟩) hxs hcap hin)
  have HUP := Lib.hid (show ∀ n w', Upd (fun k => k ∈ L.ps) (W1.drewN n) w' → Upd (fun k => k ∈ L.ps) w w' from fun n w' hu => by
    have h2 : Upd (fun k => k ∈ L.ps) W1 w' := ⟨hu.os, hu.tape, hu.output, hu.size, hu.block⟩
    rw [← hW1] at h2
    exact upd_past h2)
  have HSB := Lib.hid (show ∀ k ∈ L.blks, k ≠ w.heap.size from fun k hk e => by have := hlt k hk; omega)
  clear h hc hn hx hF hxs hcap hin hy hyI n1 n2 n3 n4 n5 hlt hold hs1
  go_enter_defers Try.func69, Try.ntmps69
  go_wp2_with (first | (go_at_call 97; refine HLK.out.mono ?_; rintro e w2 ⟨rfl, n2, rfl⟩) | (go_at_call 98; refine (HPT.out _).mono ?_; rintro e w3 ⟨rfl, hsp, hu⟩; have HSP := Lib.hid hsp; have HU := Lib.hid hu; have hv3 := (hu.block w.heap.size (blk_lt HNW.out) HNE.out).trans HNW.out; clear hsp hu; have c3 := blk_cell hv3 0; have f3 := blk_frozen hv3 0))
  have y4 := blk_put hv3 0 (.int .i64 0) rfl
  have r1 := blk_cell y4 0
  refine leaves_cons (f := 95) (args := #[.pointer (some ⟨w.heap.size, 0, none⟩)]) (by simp) (by simp [go_sem]) ?_
  refine (shutW_idle ⟨w.heap.size, 0, none⟩ _).mono ?_
  rintro e u' w5 ⟨rfl, rfl, rfl⟩
  simp [Leaves, settle, results, Try.results69, go_sem, r1]
  have hu := HUP.out n2 w3 HU.out
  refine ⟨HSP.out.keep (fun k hk => Below.heap_setCell w3 _ _ _ (HSB.out k hk)), hu.os, hu.tape, hu.output, by have := hu.size; simpa [World.setCell] using this, fun k hk hne => (Below.heap_setCell w3 _ _ _ (show k ≠ w.heap.size by omega)).trans (hu.block k hk hne)⟩
end Go.Proofs.Ytkgedpcipaogjaa.WB
end
