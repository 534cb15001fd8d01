/- Stretches: how many stretches of k pages no page of a map lies in. -/
import Derived.Test.YtihfblnjgaalcaaORep
import Derived.Deep.QuietTactic
import Derived.BigQuiet
import Derived.Deep.LoopGhost
import Derived.Deep.RegionHeld3
namespace Go.Proofs.Ytihfblnjgaalcaa.OS
open Go Go.RowKit Go.Maps Go.Proofs.YtihfblnjgaalcaaW.PrintWords Go.Proofs.YtihfblnjgaalcaaW.PrintLast Go.Proofs.YtihfblnjgaalcaaW.PrintMore Go.Proofs.Ytihfblnjgaalcaa.R Go.Proofs.Ytihfblnjgaalcaa.OM Go.Proofs.Ytihfblnjgaalcaa.OP Go.Proofs.Ytihfblnjgaalcaa.OR
set_option linter.unusedVariables false
set_option linter.unusedSimpArgs false
/-- Does a page of m below T lie in stretch j? -/
def occ (m : PM) (T k : Nat) (j : Nat) : Bool := (List.range T).any (fun x => decide (x / k = j) && (m (x : Int)).isSome)
def occN (m : PM) (T k : Nat) : Nat := (List.range 1024).countP (occ m T k)
theorem occ_iff {m : PM} {T k j : Nat} : occ m T k j = true ↔ ∃ x : Nat, x < T ∧ x / k = j ∧ (m (x : Int)).isSome = true := by
 unfold occ
 simp only [List.any_eq_true, List.mem_range, Bool.and_eq_true, decide_eq_true_eq]
def Met (m : PM) (T k : Nat) (left : Int → Bool) (g : Int → Option Int) (sz : Nat) : Prop :=
 (∀ j : Nat, (g (j : Int)).isSome = true ↔ ∃ x : Nat, (m (x : Int)).isSome = true ∧ left (x : Int) = false ∧ x < T ∧ x / k = j) ∧ sz = (List.range 1024).countP (fun j : Nat => (g (j : Int)).isSome)
theorem met_start (m : PM) (T k : Nat) (left : Int → Bool) (h : ∀ x, left x = (m x).isSome) : Met m T k left (fun _ => none) 0 := by
 refine ⟨fun j => ⟨fun h1 => (by cases h1), fun ⟨x, a, b, _⟩ => (by rw [h, a] at b; cases b)⟩, ?_⟩
 exact (List.countP_eq_zero.2 (fun _ _ h => by cases h)).symm
theorem countP_upd (g : Int → Option Int) (j0 : Nat) (c : Int) (N : Nat) (hj : j0 < N) : (List.range N).countP (fun j : Nat => (upd g (j0 : Int) c (j : Int)).isSome) = if (g (j0 : Int)).isSome then (List.range N).countP (fun j : Nat => (g (j : Int)).isSome) else (List.range N).countP (fun j : Nat => (g (j : Int)).isSome) + 1 := by
 induction N with
 | zero => omega
 | succ N ih =>
  rw [List.range_succ, List.countP_append, List.countP_append]
  simp only [List.countP_cons, List.countP_nil]
  by_cases e : j0 = N
  ·subst e
   have h1 : (List.range j0).countP (fun j : Nat => (upd g (j0 : Int) c (j : Int)).isSome) = (List.range j0).countP (fun j : Nat => (g (j : Int)).isSome) := by
    apply List.countP_congr
    intro j hj
    have : j < j0 := List.mem_range.1 hj
    unfold upd
    rw [if_neg (by omega)]
   rw [h1]
   have h2 : (upd g (j0 : Int) c (j0 : Int)).isSome = true := by simp [upd]
   rw [h2]
   cases (g (j0 : Int)).isSome <;> simp
  ·have h2 : (upd g (j0 : Int) c (N : Int)) = g (N : Int) := by unfold upd; rw [if_neg (by omega)]
   rw [h2, ih (by omega)]
   cases (g (j0 : Int)).isSome <;> cases (g (N : Int)).isSome <;> simp <;> omega
theorem met_hit {m : PM} {T k : Nat} {left : Int → Bool} {g : Int → Option Int} {sz : Nat} (h : Met m T k left g sz) {x : Nat} (hx : (m (x : Int)).isSome = true) (hT : x < T) (hT2 : T ≤ 1024) (c : Int) :
  Met m T k (fun y => left y && !decide (y = (x : Int))) (upd g ((x / k : Nat) : Int) c) (if (g ((x / k : Nat) : Int)).isSome then sz else sz + 1) := by
 obtain ⟨h1, h2⟩ := h
 refine ⟨fun j => ?_, ?_⟩
 ·by_cases e : j = x / k
  ·subst e
   simp only [upd, if_pos, Option.isSome_some, true_iff]
   exact ⟨x, hx, by simp, hT, rfl⟩
  ·have : upd g ((x / k : Nat) : Int) c (j : Int) = g (j : Int) := by unfold upd; rw [if_neg (by omega)]
   rw [this, h1 j]
   constructor
   ·rintro ⟨y, a, b, d, f⟩; exact ⟨y, a, by simp [b], d, f⟩
   ·rintro ⟨y, a, b, d, f⟩
    refine ⟨y, a, ?_, d, f⟩
    simp only [Bool.and_eq_false_iff, Bool.not_eq_false', decide_eq_true_eq] at b
    rcases b with b | b
    ·exact b
    ·have : y = x := by omega
     subst this
     exact absurd f.symm e
 ·rw [h2, countP_upd g (x / k) c 1024 (by have := Nat.div_le_self x k; omega)]
theorem met_miss {m : PM} {T k : Nat} {left : Int → Bool} {g : Int → Option Int} {sz : Nat} (h : Met m T k left g sz) {x : Nat} (hT : T ≤ x) : Met m T k (fun y => left y && !decide (y = (x : Int))) g sz := by
 obtain ⟨h1, h2⟩ := h
 refine ⟨fun j => ?_, h2⟩
 rw [h1 j]
 constructor
 ·rintro ⟨y, a, b, d, f⟩; exact ⟨y, a, by simp [b], d, f⟩
 ·rintro ⟨y, a, b, d, f⟩
  refine ⟨y, a, ?_, d, f⟩
  simp only [Bool.and_eq_false_iff, Bool.not_eq_false', decide_eq_true_eq] at b
  rcases b with b | b
  ·exact b
  ·omega
theorem met_end {m : PM} {T k : Nat} {left : Int → Bool} {g : Int → Option Int} {sz : Nat} (h : Met m T k left g sz) (hl : ∀ x : Nat, (m (x : Int)).isSome = true → left (x : Int) = false) : sz = occN m T k := by
 obtain ⟨h1, h2⟩ := h
 rw [h2]
 unfold occN
 apply List.countP_congr
 intro j _
 rw [h1 j, occ_iff]
 constructor
 ·rintro ⟨x, a, b, d, f⟩; exact ⟨x, d, f, a⟩
 ·rintro ⟨x, d, f, a⟩; exact ⟨x, a, hl x a, d, f⟩
theorem wfI {x : Int} (h0 : 0 ≤ x) (h : x < 9223372036854775808) : (Lit.int .i64 x).wf = true := by simp [Lit.wf, IntKind.min, IntKind.max, IntKind.signed, IntKind.bits]; omega
theorem wfU {x : Int} (h0 : 0 ≤ x) (h : x < 18446744073709551616) : (Lit.int .u64 x).wf = true := by simp [Lit.wf, IntKind.min, IntKind.max, IntKind.signed, IntKind.bits]; omega
theorem RepR.open_ {w : World} {mb s : Nat} {m : PM} (h : RepR w mb s m) : ∃ ptr : Int → Option Int, MapI Try.prog El.ptr 3 .i64 w mb s ptr ∧ ∀ x, (ptr x).isSome = (m x).isSome := by
 obtain ⟨ptr, h1, h2⟩ := h
 refine ⟨ptr, h1, fun x => ?_⟩
 have := h2 x
 cases hm : m x with
 | none => rw [hm] at this; rw [this]; rfl
 | some l => rw [hm] at this; obtain ⟨g, c, a, -⟩ := this; rw [a]; rfl
end Go.Proofs.Ytihfblnjgaalcaa.OS
