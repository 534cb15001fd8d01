/- The passes over the places: great blocks. -/
import Derived.Test.YtihfblnjgaalcaaXLd2
namespace Go.Proofs.Ytihfblnjgaalcaa.OL
open Go Go.RowKit Go.Proofs.Ytihfblnjgaalcaa.R Go.Proofs.Ytihfblnjgaalcaa.OM Go.Proofs.Ytihfblnjgaalcaa.OP Go.Proofs.Ytihfblnjgaalcaa.OB Go.Proofs.Ytihfblnjgaalcaa.OV Go.Proofs.Ytihfblnjgaalcaa.OS Go.Proofs.Ytihfblnjgaalcaa.OW Go.Proofs.Ytihfblnjgaalcaa.OF Go.Proofs.Ytihfblnjgaalcaa.ON Go.Proofs.Ytihfblnjgaalcaa.OC Go.Proofs.Ytihfblnjgaalcaa.OX
set_option linter.unusedVariables false
set_option linter.unusedSimpArgs false
section
variable {base limit order n : Int} {z : List Int} {T : Nat}
/-- Behind the last place, or where none is wanted any more. -/
theorem l4_out {lv : List S49} {r o need beg : Int} {H : Int} {v : Bool} (h : ¬ o < H ∨ need = 0) {k : Nat} (hl : croftref11_laid.l3 k z lv H r need (wrap64 (beg - 1)) base limit order = some v) : croftref11_laid.l4 (k + 2) z lv H r need beg o base limit order = some v := by
 rw [croftref11_laid.l4]
 have hj : croftref11_laid.j5 (k + 1) z lv H r need beg o false base limit order = some v := by rw [croftref11_laid.j5, if_neg (by decide)]; exact hl
 by_cases ho : o < H
 ·have h0 : need = 0 := by rcases h with h | h; exact absurd ho h; exact h
  rw [if_pos ho, decide_eq_false (show ¬ need > 0 by omega)]; exact hj
 ·rw [if_neg ho]; exact hj
theorem w_neg : wrap64 ((0 : Int) - 1) = -1 := by unfold wrap64; omega
theorem w_zero : wrap64 ((1 : Int) - 1) = 0 := by unfold wrap64; omega
theorem great_isSome {m m2 : PM} {j i u : Nat} (hs : OP.step base order n m (⟨base + ((4096 * 2 ^ j * i : Nat) : Int), ((4096 * 2 ^ j : Nat) : Int)⟩ : S55) = some m2) : (∀ x : Nat, (m2 (x : Int)).isSome = ((m (x : Int)).isSome || decide (2 ^ j * i ≤ x ∧ x < 2 ^ j * i + 2 ^ j))) ∧ ∀ s, roomAll m2 s = roomAll m s := by
 have hp := Nat.two_pow_pos j
 have hz0 : (0 : Int) ≤ ((4096 * 2 ^ j : Nat) : Int) := Int.natCast_nonneg _
 obtain ⟨-, h2, rfl⟩ := (step_iff (b := ⟨base + ((4096 * 2 ^ j * i : Nat) : Int), ((4096 * 2 ^ j : Nat) : Int)⟩) hz0).1 hs
 have hn4 : ¬ ((4096 * 2 ^ j : Nat) : Int) < 4096 := by omega
 constructor
 ·intro x
  have hon := great_on (base := base) (j := j) (i := i) (x : Int)
  unfold addAll
  by_cases hx : onP base (⟨base + ((4096 * 2 ^ j * i : Nat) : Int), ((4096 * 2 ^ j : Nat) : Int)⟩ : S55) (x : Int)
  ·rw [if_pos hx, h2 _ hx, decide_eq_true (by have := hon.1 hx; omega), Bool.or_true]
  ·rw [if_neg hx, decide_eq_false (fun h => hx (hon.2 (by omega))), Bool.or_false]
 ·intro s
  refine great_room (b := ⟨base + ((4096 * 2 ^ j * i : Nat) : Int), ((4096 * 2 ^ j : Nat) : Int)⟩) hn4 s (fun x hx => ?_)
  have h3 := h2 x hx
  cases hm : m x with
  | none => rfl
  | some lt =>
   rw [hm] at h3
   cases lt with
   | great s => simp [addL] at h3
   | small s cs q =>
    simp only [addL] at h3
    rw [if_neg (fun hc => hn4 hc.1)] at h3
    cases h3
theorem occ_mono {m m2 : PM} (h : ∀ x : Nat, (m (x : Int)).isSome = true → (m2 (x : Int)).isSome = true) {c q : Nat} (ho : occ m T c q = true) : occ m2 T c q = true := by
 obtain ⟨x, a, b, d⟩ := occ_iff.1 ho
 exact occ_iff.2 ⟨x, a, b, h x d⟩
/-- The second pass for great blocks: each free stretch takes one, as long as some are wanted. -/
theorem passG {j u : Nat} (hj : j ≤ order.toNat) (hT : T = 2 ^ j * u) (hTt : T = totP order n) (d : Nat) :
  ∀ (i : Nat) (lv : List S49) (m : PM) (need : Nat), i + d = u → need ≤ 17592186044416 → St base limit order n lv m →
   ∃ lv' m' p, St base limit order n lv' m' ∧ p ≤ need ∧ (∀ k, k ≤ j → freeN m' T (2 ^ k) + p * 2 ^ (j - k) = freeN m T (2 ^ k)) ∧ (∀ s, roomAll m' s = roomAll m s) ∧
    (p = need ∨ ∀ q, i ≤ q → q < u → occ m' T (2 ^ j) q = true) ∧ (∀ x : Nat, (m (x : Int)).isSome = true → (m' (x : Int)).isSome = true) ∧
    ∀ (K : Nat) (v : Bool), (∀ k, K ≤ k → croftref11_laid.l3 k z lv' ((4096 * T : Nat) : Int) ((4096 * 2 ^ j : Nat) : Int) ((need - p : Nat) : Int) (-1) base limit order = some v) →
     ∀ k, K + 2 * d + 262200 < k → croftref11_laid.l4 k z lv ((4096 * T : Nat) : Int) ((4096 * 2 ^ j : Nat) : Int) (need : Int) 0 ((4096 * 2 ^ j * i : Nat) : Int) base limit order = some v := by
 have hp := Nat.two_pow_pos j
 have hTe : 4096 * 2 ^ j * u = 4096 * T := by rw [hT, Nat.mul_assoc]
 induction d with
 | zero =>
  intro i lv m need hi hne h
  obtain rfl : i = u := hi
  refine ⟨lv, m, 0, h, Nat.zero_le _, fun k hk => by omega, fun s => rfl, Or.inr fun q h1 h2 => by omega, fun x hx => hx, fun K v hV k hk => ?_⟩
  obtain ⟨k, rfl⟩ : ∃ q, k = q + 2 := ⟨k - 2, by omega⟩
  refine l4_out (Or.inl (by omega)) ?_
  rw [w_neg]
  exact hV k (by omega)
 | succ d ih =>
  intro i lv m need hi hne h
  by_cases h0 : need = 0
  ·subst h0
   refine ⟨lv, m, 0, h, Nat.le_refl _, fun k hk => by omega, fun s => rfl, Or.inl rfl, fun x hx => hx, fun K v hV k hk => ?_⟩
   obtain ⟨k, rfl⟩ : ∃ q, k = q + 2 := ⟨k - 2, by omega⟩
   refine l4_out (Or.inr rfl) ?_
   rw [w_neg]
   exact hV k (by omega)
  have hiu : i < u := by omega
  have htot := h.tot
  rw [← hTt] at htot
  have hmm := mayB_iff.1 h.may
  have hju : 2 ^ j * (i + 1) ≤ 2 ^ j * u := Nat.mul_le_mul_left _ (by omega)
  rw [Nat.mul_succ] at hju
  have e4 : 4096 * 2 ^ j * i = 4096 * (2 ^ j * i) := Nat.mul_assoc ..
  have hok := great_ok h hj (by omega) hiu
  have hst := great_step h hj (by omega) hiu
  rw [← hTt] at hst
  have hz : 0 ≤ ((4096 * 2 ^ j : Nat) : Int) ∧ ((4096 * 2 ^ j : Nat) : Int) < 18446744073709551616 := by omega
  have e1 : IntKind.u64.wrap (base + ((4096 * 2 ^ j * i : Nat) : Int)) = base + ((4096 * 2 ^ j * i : Nat) : Int) := u64_in (by have := h.b0; omega) (by omega)
  have e2 : IntKind.u64.wrap (((4096 * 2 ^ j * i : Nat) : Int) + ((4096 * 2 ^ j : Nat) : Int)) = ((4096 * 2 ^ j * (i + 1) : Nat) : Int) := by
   rw [u64_in (by omega) (by omega), Nat.mul_succ]; omega
  have hgo : ∀ (k : Nat) (v : Bool), 262144 < k → (if (OP.step base order n m (⟨base + ((4096 * 2 ^ j * i : Nat) : Int), ((4096 * 2 ^ j : Nat) : Int)⟩ : S55)).isSome = true then croftref11_laid.l4 k z (lv ++ [(⟨base + ((4096 * 2 ^ j * i : Nat) : Int), ((4096 * 2 ^ j : Nat) : Int)⟩ : S49)]) ((4096 * T : Nat) : Int) ((4096 * 2 ^ j : Nat) : Int) ((need - 1 : Nat) : Int) 0 ((4096 * 2 ^ j * (i + 1) : Nat) : Int) base limit order else croftref11_laid.l4 k z lv ((4096 * T : Nat) : Int) ((4096 * 2 ^ j : Nat) : Int) (need : Int) 0 ((4096 * 2 ^ j * (i + 1) : Nat) : Int) base limit order) = some v →
    croftref11_laid.l4 (k + 2) z lv ((4096 * T : Nat) : Int) ((4096 * 2 ^ j : Nat) : Int) (need : Int) 0 ((4096 * 2 ^ j * i : Nat) : Int) base limit order = some v := by
   intro k v hk hv
   have hlen := h.len
   rw [croftref11_laid.l4, if_pos (by omega), decide_eq_true (show (need : Int) > 0 by omega), croftref11_laid.j5, if_pos rfl, if_pos rfl, e1, free_f h hok hz hk, Option.bind_some, e2]
   have e3 : wrap64 ((need : Int) - 1) = ((need - 1 : Nat) : Int) := by unfold wrap64; omega
   rw [e3]
   by_cases hs : (OP.step base order n m (⟨base + ((4096 * 2 ^ j * i : Nat) : Int), ((4096 * 2 ^ j : Nat) : Int)⟩ : S55)).isSome = true
   ·rw [if_pos hs] at hv
    rw [if_pos hs, if_pos (by omega)]; exact hv
   ·rw [if_neg hs] at hv
    rw [if_neg hs]; exact hv
  by_cases ho : occ m T (2 ^ j) i = true
  ·have hns : ¬ (OP.step base order n m (⟨base + ((4096 * 2 ^ j * i : Nat) : Int), ((4096 * 2 ^ j : Nat) : Int)⟩ : S55)).isSome = true := by
    intro hs
    have := hst.1 (Option.isSome_iff_exists.1 hs)
    rw [ho] at this; cases this
   obtain ⟨lv', m', p, a1, a2, a3, a4, a5, a6, a7⟩ := ih (i + 1) lv m need (by omega) hne h
   refine ⟨lv', m', p, a1, a2, a3, a4, ?_, a6, fun K v hV k hk => ?_⟩
   ·rcases a5 with a5 | a5
    ·exact Or.inl a5
    ·refine Or.inr fun q h1 h2 => ?_
     by_cases e : q = i
     ·rw [e]; exact occ_mono a6 ho
     ·exact a5 q (by omega) h2
   ·obtain ⟨k, rfl⟩ : ∃ q, k = q + 2 := ⟨k - 2, by omega⟩
    refine hgo k v (by omega) ?_
    rw [if_neg hns]
    exact a7 K v hV k (by omega)
  ·have ho' : occ m T (2 ^ j) i = false := by simpa using ho
   obtain ⟨m2, hs⟩ := hst.2 ho'
   obtain ⟨g1, g2⟩ := great_isSome (u := u) hs
   have h2 : St base limit order n (lv ++ [(⟨base + ((4096 * 2 ^ j * i : Nat) : Int), ((4096 * 2 ^ j : Nat) : Int)⟩ : S49)]) m2 := h.add ⟨⟨by have := h.b0; show 0 ≤ base + ((4096 * 2 ^ j * i : Nat) : Int); omega, by show base + ((4096 * 2 ^ j * i : Nat) : Int) < _; omega⟩, hz⟩ hs
   obtain ⟨lv', m', p, a1, a2, a3, a4, a5, a6, a7⟩ := ih (i + 1) _ m2 (need - 1) (by omega) (by omega) h2
   refine ⟨lv', m', p + 1, a1, by omega, fun k hk => ?_, fun s => by rw [a4, g2], ?_, fun x hx => a6 x (by rw [g1, hx]; rfl), fun K v hV k hk => ?_⟩
   ·have h3 := great_free hk hT hiu ho' g1
    have h4 := a3 k hk
    rw [Nat.add_mul, Nat.one_mul]; omega
   ·rcases a5 with a5 | a5
    ·exact Or.inl (by omega)
    ·refine Or.inr fun q h1 h2 => ?_
     by_cases e : q = i
     ·rw [e]
      refine occ_mono a6 (occ_iff.2 ⟨2 ^ j * i, by omega, Nat.mul_div_cancel_left i hp, ?_⟩)
      rw [g1, decide_eq_true (by omega), Bool.or_true]
     ·exact a5 q (by omega) h2
   ·obtain ⟨k, rfl⟩ : ∃ q, k = q + 2 := ⟨k - 2, by omega⟩
    refine hgo k v (by omega) ?_
    rw [if_pos (by rw [hs]; rfl)]
    refine a7 K v ?_ k (by omega)
    rw [show need - 1 - p = need - (p + 1) by omega]
    exact hV
/-- The first pass lays no great block. -/
theorem passG1 {j u : Nat} (hj : j ≤ order.toNat) (hT : T = 2 ^ j * u) (hTt : T = totP order n) {lv : List S49} {m : PM} (h : St base limit order n lv m) {need : Nat} {K : Nat} {v : Bool}
  (hV : ∀ k, K ≤ k → croftref11_laid.l3 k z lv ((4096 * T : Nat) : Int) ((4096 * 2 ^ j : Nat) : Int) (need : Int) 0 base limit order = some v) (d : Nat) :
  ∀ (i : Nat), i + d = u → ∀ k, K + 2 * d + 262200 < k → croftref11_laid.l4 k z lv ((4096 * T : Nat) : Int) ((4096 * 2 ^ j : Nat) : Int) (need : Int) 1 ((4096 * 2 ^ j * i : Nat) : Int) base limit order = some v := by
 have hp := Nat.two_pow_pos j
 have hTe : 4096 * 2 ^ j * u = 4096 * T := by rw [hT, Nat.mul_assoc]
 induction d with
 | zero =>
  intro i hi k hk
  obtain rfl : i = u := hi
  obtain ⟨k, rfl⟩ : ∃ q, k = q + 2 := ⟨k - 2, by omega⟩
  refine l4_out (Or.inl (by omega)) ?_
  rw [w_zero]
  exact hV k (by omega)
 | succ d ih =>
  intro i hi k hk
  obtain ⟨k, rfl⟩ : ∃ q, k = q + 2 := ⟨k - 2, by omega⟩
  by_cases h0 : need = 0
  ·subst h0
   refine l4_out (Or.inr rfl) ?_
   rw [w_zero]
   exact hV k (by omega)
  have htot := h.tot
  rw [← hTt] at htot
  have hju : 2 ^ j * (i + 1) ≤ 2 ^ j * u := Nat.mul_le_mul_left _ (by omega)
  rw [Nat.mul_succ] at hju
  have e4 : 4096 * 2 ^ j * i = 4096 * (2 ^ j * i) := Nat.mul_assoc ..
  have e1 : IntKind.u64.wrap (base + ((4096 * 2 ^ j * i : Nat) : Int)) = base + ((4096 * 2 ^ j * i : Nat) : Int) := u64_in (by have := h.b0; omega) (by omega)
  have e2 : IntKind.u64.wrap (((4096 * 2 ^ j * i : Nat) : Int) + ((4096 * 2 ^ j : Nat) : Int)) = ((4096 * 2 ^ j * (i + 1) : Nat) : Int) := by
   rw [u64_in (by omega) (by omega), Nat.mul_succ]; omega
  rw [croftref11_laid.l4, if_pos (by omega), decide_eq_true (show (need : Int) > 0 by omega), croftref11_laid.j5, if_pos rfl, if_neg (by decide), e1, shares_great h ⟨by omega, by omega⟩ (by omega) (by omega), Option.bind_some, if_neg (by decide), e2]
  exact ih (i + 1) (by omega) k (by omega)
end
end Go.Proofs.Ytihfblnjgaalcaa.OL
