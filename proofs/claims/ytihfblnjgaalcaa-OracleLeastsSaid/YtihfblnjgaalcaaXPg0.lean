/- Least with no blocks that stay: the pages of sizes; the pages of a sound list. -/
import Derived.Test.YtihfblnjgaalcaaXFit0
namespace Go.Proofs.Ytihfblnjgaalcaa.OX
open Go Go.RowKit Go.Proofs.Ytihfblnjgaalcaa.R Go.Proofs.Ytihfblnjgaalcaa.OP Go.Proofs.Ytihfblnjgaalcaa.OB Go.Proofs.Ytihfblnjgaalcaa.OV Go.Proofs.Ytihfblnjgaalcaa.OS Go.Proofs.Ytihfblnjgaalcaa.OW Go.Proofs.Ytihfblnjgaalcaa.OF Go.Proofs.Ytihfblnjgaalcaa.ON Go.Proofs.Ytihfblnjgaalcaa.OC
set_option linter.unusedVariables false
set_option linter.unusedSimpArgs false
def bigF (z : List Int) : Nat → Nat
 | 0 => 0
 | d + 1 => bigF z d + cnt z (4096 * 2 ^ d) * 2 ^ d
theorem cnt_cons (s x : Int) (z : List Int) : cnt (s :: z) x = cnt z x + if s = x then 1 else 0 := by
 unfold cnt
 rw [List.countP_cons]
 by_cases h : s = x <;> simp [h]
theorem bigF_small {s : Int} (hs : s < 4096) (z : List Int) : ∀ d, bigF (s :: z) d = bigF z d
 | 0 => rfl
 | d + 1 => by
  have hp : (0 : Int) < 2 ^ d := Int.pow_pos (by decide)
  rw [bigF, bigF, bigF_small hs z d, cnt_cons, if_neg (by omega), Nat.add_zero]
theorem bigs_length (order : Int) (z : List Int) : (bigs order z).length = order.toNat + 1 := by unfold bigs; rw [List.length_map, List.length_range]
theorem need_length (m : PM) (order : Int) (z : List Int) : (needOf m order z).length = order.toNat + 1 := by unfold needOf; rw [List.length_set, bigs_length]
theorem bigs_at {order : Int} {z : List Int} {j : Nat} (h : j < order.toNat + 1) : (bigs order z).getD j 0 = cnt z (4096 * 2 ^ j) := by
 unfold bigs
 rw [List.getD_eq_getElem?_getD, List.getElem?_map, List.getElem?_range h]; rfl
theorem set_at {need : List Nat} {v j : Nat} (h : 0 < need.length) : (need.set 0 v).getD j 0 = if j = 0 then v else need.getD j 0 := by
 rw [List.getD_eq_getElem?_getD, List.getElem?_set]
 by_cases e : j = 0
 ·subst e; rw [if_pos rfl, if_pos rfl, if_pos h]; rfl
 ·rw [if_neg (by omega), if_neg e, List.getD_eq_getElem?_getD]
theorem extra_nonneg (g : Int → Int) : 0 ≤ extra g := by
 unfold extra
 refine sumR_nonneg 8 (fun k hk => ?_)
 obtain ⟨a, b, c, d⟩ := sz8_cells hk
 unfold pagesFor
 exact Int.ediv_nonneg (by omega) (by omega)
/-! ### the pages of a sound list -/
theorem sumR_const (c : Int) : ∀ n, sumR (fun _ => c) n = c * n
 | 0 => by simp [sumR]
 | n + 1 => by rw [sumR, sumR_const c n, show ((n + 1 : Nat) : Int) = (n : Int) + 1 by omega, Int.mul_add, Int.mul_one]
end Go.Proofs.Ytihfblnjgaalcaa.OX
