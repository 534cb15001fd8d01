/- The reference's NoFit, plain: it answers as the oracle's. -/
import Derived.Test.YtihfblnjgaalcaaRN2
import Derived.Test.YtihfblnjgaalcaaXFit0
namespace Go.Proofs.Ytihfblnjgaalcaa.OX
open Go Go.RowKit Go.Proofs.Ytihfblnjgaalcaa.R Go.Proofs.Ytihfblnjgaalcaa.OP Go.Proofs.Ytihfblnjgaalcaa.OB Go.Proofs.Ytihfblnjgaalcaa.OV Go.Proofs.Ytihfblnjgaalcaa.OS Go.Proofs.Ytihfblnjgaalcaa.OW Go.Proofs.Ytihfblnjgaalcaa.ON Go.Proofs.Ytihfblnjgaalcaa.OC
set_option linter.unusedVariables false
set_option linter.unusedSimpArgs false
theorem meet_el {l : List S49} (he : Ends l) {i : Nat} (hi : i < l.length) {p s : Int} (hp : 0 ≤ p ∧ 0 ≤ s ∧ p + s < 18446744073709551616) : croftref11_Meet.f p s (rd_T49 l (i : Int)).f0 (rd_T49 l (i : Int)).f1 = some (decide (meetP ⟨p, s⟩ (el l i))) :=
  meet_f hp (he i hi)
theorem taken_l0 {l : List S49} (he : Ends l) (hl : l.length ≤ 8796093021952) {p s : Int} (hp : 0 ≤ p ∧ 0 ≤ s ∧ p + s < 18446744073709551616) (d : Nat) :
    ∀ (k i : Nat), i + d = l.length → d < k → croftref11_taken.l0 k p s l (i : Int) = some (anyMeet p s (cv (l.drop i))) := by
  induction d with
  | zero =>
    intro k i hi hk
    obtain ⟨k, rfl⟩ : ∃ m, k = m + 1 := ⟨k - 1, by omega⟩
    obtain rfl : i = l.length := hi
    rw [croftref11_taken.l0, if_neg (by omega), List.drop_length]
    rfl
  | succ d ih =>
    intro k i hi hk
    obtain ⟨k, rfl⟩ : ∃ m, k = m + 1 := ⟨k - 1, by omega⟩
    have hil : i < l.length := by omega
    rw [croftref11_taken.l0, if_pos (by omega), if_pos (by omega), meet_el he hil hp, Option.bind_some, inc64 (by omega), ih k (i + 1) (by omega) (by omega), cv_drop hil]
    unfold anyMeet
    rw [List.any_cons]
    cases decide (meetP ⟨p, s⟩ (el l i)) <;> rfl
theorem taken_f {l : List S49} (he : Ends l) (hl : l.length ≤ 8796093021952) {p s : Int} (hp : 0 ≤ p ∧ 0 ≤ s ∧ p + s < 18446744073709551616) {k : Nat} (hk : l.length < k) : croftref11_taken.f k p s l = some (anyMeet p s (cv l)) :=
  taken_l0 he hl hp l.length k 0 (by omega) hk
theorem fit_l2 {base limit order r H o : Int} {l : List S49} (hw : Wd49 l) (he : Ends l) (hl : l.length ≤ 8796093021952) (ho : 0 ≤ base ∧ 0 ≤ o ∧ base + o + 4096 < 18446744073709551616) {K : Nat} {V : Bool}
    (hV : ∀ k, K ≤ k → croftref11_NoFit.l1 k l r H (IntKind.u64.wrap (o + 4096)) base limit order = some V) (d : Nat) :
    ∀ (k i : Nat) (s : Bool) (sum : Int), i + d = l.length → K + d < k → 0 ≤ sum → sum + total (cv (l.drop i)) < 9223372036854775808 →
      croftref11_NoFit.l2 k l r H o s sum (i : Int) base limit order = some (if (s || someM (base + o) r (cv (l.drop i))) = true ∧ sum + sumM (base + o) (cv (l.drop i)) < 4096 then false else V) := by
  induction d with
  | zero =>
    intro k i s sum hi hk h0 hs
    obtain ⟨k, rfl⟩ : ∃ m, k = m + 1 := ⟨k - 1, by omega⟩
    obtain rfl : i = l.length := hi
    rw [croftref11_NoFit.l2, if_neg (by omega), List.drop_length, hV k (by omega)]
    have e1 : someM (base + o) r (cv ([] : List S49)) = false := rfl
    have e2 : sumM (base + o) (cv ([] : List S49)) = 0 := rfl
    rw [e1, e2, Bool.or_false, Int.add_zero]
    cases s with
    | false => rw [if_neg (by decide), if_neg (fun h => by cases h.1)]
    | true =>
      rw [if_pos rfl]
      by_cases h4 : sum < 4096
      · rw [if_pos h4, if_pos ⟨rfl, h4⟩]
      · rw [if_neg h4, if_neg (fun h => h4 h.2)]
  | succ d ih =>
    intro k i s sum hi hk h0 hs
    obtain ⟨k, rfl⟩ : ∃ m, k = m + 1 := ⟨k - 1, by omega⟩
    have hil : i < l.length := by omega
    have hel := he i hil
    have hwd : ∀ b ∈ cv (l.drop (i + 1)), 0 ≤ b.f1 := fun b hb => by
      obtain ⟨c, hc, rfl⟩ := List.mem_map.1 hb
      exact (hw c (List.mem_of_mem_drop hc)).2.1
    have hsb := sumM_bd (base + o) hwd
    have htot : total (cv (l.drop i)) = (el l i).f1 + total (cv (l.drop (i + 1))) := by rw [cv_drop hil]; rfl
    have hsm : sumM (base + o) (cv (l.drop i)) = (if meetP ⟨base + o, 4096⟩ (el l i) then (el l i).f1 else 0) + sumM (base + o) (cv (l.drop (i + 1))) := by rw [cv_drop hil]; rfl
    have hso : someM (base + o) r (cv (l.drop i)) = ((decide (meetP ⟨base + o, 4096⟩ (el l i)) && ((el l i).f1 == r)) || someM (base + o) r (cv (l.drop (i + 1)))) := by rw [cv_drop hil]; rfl
    rw [htot] at hs
    rw [croftref11_NoFit.l2, if_pos (by omega), if_pos (by omega), u64_in (x := base + o) (by omega) (by omega), meet_el he hil (by omega), Option.bind_some, inc64 (by omega), hsm, hso]
    by_cases hm : meetP ⟨base + o, 4096⟩ (el l i)
    · rw [decide_eq_true hm, if_pos rfl, if_pos hm, Bool.true_and]
      change (if s = true then croftref11_NoFit.l2 k l r H o true (IntKind.u64.wrap (sum + (el l i).f1)) _ base limit order else croftref11_NoFit.l2 k l r H o ((el l i).f1 == r) (IntKind.u64.wrap (sum + (el l i).f1)) _ base limit order) = _
      rw [u64_in (x := sum + (el l i).f1) (by omega) (by omega), ih k (i + 1) true _ (by omega) (by omega) (by omega) (by omega), ih k (i + 1) ((el l i).f1 == r) _ (by omega) (by omega) (by omega) (by omega), Int.add_assoc]
      cases s with
      | true => rw [if_pos rfl, Bool.true_or, Bool.true_or]
      | false => rw [if_neg (by decide), Bool.false_or]
    · rw [decide_eq_false hm, if_neg (by decide), if_neg hm, Bool.false_and, Bool.false_or, Int.zero_add]
      exact ih k (i + 1) s sum (by omega) (by omega) h0 (by omega)
theorem fit_l1 {base limit order r : Int} {l : List S49} {T : Nat} (hw : Wd49 l) (he : Ends l) (hl : l.length ≤ 8796093021952) (hb : 0 ≤ base ∧ base ≤ 9223372036854775808) (hT : T ≤ 1024) (ht : total (cv l) < 9223372036854775808) (d : Nat) :
    ∀ (k x : Nat), x + d = T → d * (l.length + 2) < k → croftref11_NoFit.l1 k l r ((4096 * T : Nat) : Int) ((4096 * x : Nat) : Int) base limit order = some (decide (∀ y, y < T → x ≤ y → part2 base r (cv l) y = false)) := by
  induction d with
  | zero =>
    intro k x hx hk
    obtain ⟨k, rfl⟩ : ∃ m, k = m + 1 := ⟨k - 1, by omega⟩
    rw [croftref11_NoFit.l1, if_neg (by omega), decide_eq_true (fun y h1 h2 => by omega)]
  | succ d ih =>
    intro k x hx hk
    obtain ⟨k, rfl⟩ : ∃ m, k = m + 1 := ⟨k - 1, by omega⟩
    rw [Nat.succ_mul] at hk
    rw [croftref11_NoFit.l1, if_pos (by omega)]
    have hz := fit_l2 (base := base) (order := order) (limit := limit) (r := r) (H := ((4096 * T : Nat) : Int)) (o := ((4096 * x : Nat) : Int)) hw he hl (by omega) (K := d * (l.length + 2) + 1) (V := decide (∀ y, y < T → x + 1 ≤ y → part2 base r (cv l) y = false)) (fun k hk => by
      rw [u64_in (by omega) (by omega), show ((4096 * x : Nat) : Int) + 4096 = ((4096 * (x + 1) : Nat) : Int) by omega]
      exact ih k (x + 1) (by omega) (by omega)) l.length k 0 false 0 (by omega) (by omega) (Int.le_refl 0) (by rw [List.drop_zero]; omega)
    rw [show ((0 : Nat) : Int) = 0 from rfl, List.drop_zero, Bool.false_or, Int.zero_add] at hz
    rw [hz]
    congr 1
    by_cases hp : someM (base + ((4096 * x : Nat) : Int)) r (cv l) = true ∧ sumM (base + ((4096 * x : Nat) : Int)) (cv l) < 4096
    · rw [if_pos hp, eq_comm, decide_eq_false]
      intro h
      have h2 := h x (by omega) (Nat.le_refl _)
      unfold part2 at h2
      rw [hp.1, decide_eq_true hp.2] at h2
      cases h2
    · rw [if_neg hp, decide_eq_decide]
      constructor
      · intro h y h1 h2
        by_cases e : y = x
        · subst e
          unfold part2
          rw [Bool.and_eq_false_iff]
          by_cases hs : someM (base + ((4096 * y : Nat) : Int)) r (cv l) = true
          · exact Or.inr (decide_eq_false (fun h => hp ⟨hs, h⟩))
          · exact Or.inl (by simpa using hs)
        · exact h y h1 (by omega)
      · intro h y h1 h2
        exact h y h1 (by omega)
/-- The first loop: stretches. -/
theorem fit_l0 {base limit order r : Int} {l : List S49} {N u : Nat} (he : Ends l) (hl : l.length ≤ 8796093021952) (hb : 0 ≤ base ∧ base ≤ 9223372036854775808) (hN : 4096 ≤ N) (hu : N * u ≤ 4194304) (hN2 : N ≤ 4194304) {K : Nat} {V : Bool}
    (hV : ∀ k, K ≤ k → (if r ≥ 4096 then (some true) else (croftref11_NoFit.l1 k l r ((N * u : Nat) : Int) 0 base limit order)) = some V) (d : Nat) :
    ∀ (k j : Nat), j + d = u → K + l.length + d < k → croftref11_NoFit.l0 k l r (N : Int) ((N * u : Nat) : Int) ((N * j : Nat) : Int) base limit order = some (if ∀ y, y < u → j ≤ y → anyMeet (base + ((N * y : Nat) : Int)) (N : Int) (cv l) = true then V else false) := by
  induction d with
  | zero =>
    intro k j hj hk
    obtain ⟨k, rfl⟩ : ∃ m, k = m + 1 := ⟨k - 1, by omega⟩
    obtain rfl : j = u := hj
    rw [croftref11_NoFit.l0, if_neg (by omega), hV k (by omega), if_pos (fun y h1 h2 => by omega)]
  | succ d ih =>
    intro k j hj hk
    obtain ⟨k, rfl⟩ : ∃ m, k = m + 1 := ⟨k - 1, by omega⟩
    have h1 : N * (j + 1) ≤ N * u := Nat.mul_le_mul_left N (by omega)
    rw [Nat.mul_succ] at h1
    rw [croftref11_NoFit.l0, if_pos (by omega), u64_in (x := base + ((N * j : Nat) : Int)) (by omega) (by omega), taken_f he hl (by omega) (by omega), Option.bind_some, u64_in (by omega) (by omega), show ((N * j : Nat) : Int) + (N : Int) = ((N * (j + 1) : Nat) : Int) by rw [Nat.mul_succ]; omega, ih k (j + 1) (by omega) (by omega)]
    by_cases ht : anyMeet (base + ((N * j : Nat) : Int)) (N : Int) (cv l) = true
    · rw [if_pos ht]
      congr 1
      by_cases hall : ∀ y, y < u → j + 1 ≤ y → anyMeet (base + ((N * y : Nat) : Int)) (N : Int) (cv l) = true
      · rw [if_pos hall, if_pos]
        intro y h1 h2
        by_cases e : y = j
        · rw [e]; exact ht
        · exact hall y h1 (by omega)
      · rw [if_neg hall, if_neg]
        intro h
        exact hall fun y h1 h2 => h y h1 (by omega)
    · rw [if_neg ht, if_neg]
      intro h
      exact ht (h j (by omega) (Nat.le_refl _))
end Go.Proofs.Ytihfblnjgaalcaa.OX
