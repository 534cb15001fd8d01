/- Fits, walked: is there room for blocks of orders that are wanted? -/
import Derived.Test.YtihfblnjgaalcaaOStrW
import Derived.Test.YtihfblnjgaalcaaOBase
import Derived.StillTailTactics
namespace Go.Proofs.Ytihfblnjgaalcaa.OF
open Go Go.RowKit Go.Maps Go.Proofs.YtihfblnjgaalcaaW.PrintWords Go.Proofs.YtihfblnjgaalcaaW.PrintLast Go.Proofs.YtihfblnjgaalcaaW.PrintMore Go.Proofs.Ytihfblnjgaalcaa.R Go.Proofs.Ytihfblnjgaalcaa.OM Go.Proofs.Ytihfblnjgaalcaa.OP Go.Proofs.Ytihfblnjgaalcaa.OR Go.Proofs.Ytihfblnjgaalcaa.OS Go.Proofs.Ytihfblnjgaalcaa.OB
set_option linter.unusedVariables false
set_option linter.unusedSimpArgs false
/-- What blocks of order k and above take, in stretches of 2^k pages: from order j on. -/
def takes (need : List Nat) (k : Nat) : Nat → Nat → Nat
 | 0, _ => 0
 | d + 1, j => need.getD j 0 * 2 ^ (j - k) + takes need k d (j + 1)
def takesAll (need : List Nat) (k : Nat) : Nat := takes need k (need.length - k) k
def allFrom (p : Nat → Bool) : Nat → Nat → Bool
 | 0, _ => true
 | d + 1, k => p k && allFrom p d (k + 1)
theorem all_from (p : Nat → Bool) : ∀ d k, allFrom p d k = (List.range d).all (fun i => p (k + i)) := by
 intro d
 induction d with
 | zero => intro k; rfl
 | succ d ih =>
  intro k
  rw [allFrom, ih (k + 1), List.range_succ_eq_map, List.all_cons, List.all_map]
  simp only [Nat.add_zero, Function.comp_def]
  refine congrArg (fun q => _ && q) (congrArg (List.all (List.range d)) (funext fun i => ?_))
  rw [show k + Nat.succ i = k + 1 + i by omega]
/-- Are there stretches enough for the orders from k on? -/
def fitK (m : PM) (T : Nat) (need : List Nat) (k : Nat) : Bool := decide ((takesAll need k : Int) ≤ ((T / 2 ^ k : Nat) : Int) - (occN m T (2 ^ k) : Int))
/-- Do they go in? -/
def fitsB (m : PM) (T : Nat) (need : List Nat) : Bool := allFrom (fitK m T need) need.length 0
theorem takes_bd {need : List Nat} {B : Nat} (hB : ∀ j, need.getD j 0 ≤ B) (k : Nat) : ∀ d j, j + d ≤ 9 → takes need k d j ≤ B * 256 * d := by
 intro d
 induction d with
 | zero => intro j _; simp [takes]
 | succ d ih =>
  intro j hj
  rw [takes]
  have h1 := ih (j + 1) (by omega)
  have h2 : need.getD j 0 * 2 ^ (j - k) ≤ B * 256 := Nat.mul_le_mul (hB j) (Nat.le_trans (Nat.pow_le_pow_right (by decide) (show j - k ≤ 8 by omega)) (by decide))
  rw [Nat.mul_succ]
  omega
theorem takes_snoc (need : List Nat) (k : Nat) : ∀ d j, takes need k (d + 1) j = takes need k d j + need.getD (j + d) 0 * 2 ^ (j + d - k) := by
 intro d
 induction d with
 | zero => intro j; simp [takes]
 | succ d ih =>
  intro j
  rw [takes, ih (j + 1), takes, show j + 1 + d = j + (d + 1) by omega]
  omega
end Go.Proofs.Ytihfblnjgaalcaa.OF
