/- The passes over the places: small blocks. -/
import Derived.Test.YtihfblnjgaalcaaXLd3
namespace Go.Proofs.Ytihfblnjgaalcaa.OL
open Go Go.RowKit Go.Proofs.Ytihfblnjgaalcaa.R Go.Proofs.Ytihfblnjgaalcaa.OM Go.Proofs.Ytihfblnjgaalcaa.OP Go.Proofs.Ytihfblnjgaalcaa.OB Go.Proofs.Ytihfblnjgaalcaa.OV Go.Proofs.Ytihfblnjgaalcaa.OS Go.Proofs.Ytihfblnjgaalcaa.OW Go.Proofs.Ytihfblnjgaalcaa.OF Go.Proofs.Ytihfblnjgaalcaa.ON Go.Proofs.Ytihfblnjgaalcaa.OC Go.Proofs.Ytihfblnjgaalcaa.OX
set_option linter.unusedVariables false
set_option linter.unusedSimpArgs false
/-- A cell by its number. -/
structure CellAt (r c i x y : Nat) : Prop where
 yc : y < c
 ix : i = c * x + y
 off : r * i = 4096 * x + r * y
 next : r * (i + 1) = 4096 * x + r * y + r
theorem at_of {r c : Nat} (hc : Cut r c) (i : Nat) : CellAt r c i (i / c) (i % c) := by
 have hb := hc.bd
 have h1 := Nat.div_add_mod i c
 have h2 : r * i = 4096 * (i / c) + r * (i % c) := by
  have : r * (c * (i / c) + i % c) = 4096 * (i / c) + r * (i % c) := by rw [Nat.mul_add, ← Nat.mul_assoc, hb.2.2.2.2.1]
  rw [h1] at this; exact this
 exact ⟨Nat.mod_lt _ (by omega), by omega, h2, by rw [Nat.mul_succ]; omega⟩
theorem at_uniq {c x y x' y' : Nat} (hy : y < c) (hy' : y' < c) (h : c * x + y = c * x' + y') : x = x' ∧ y = y' := by
 have h1 : x = (c * x + y) / c := ((div_iff (by omega)).2 ⟨by omega, by omega⟩).symm
 have h2 : x' = (c * x + y) / c := ((div_iff (by omega)).2 ⟨by omega, by omega⟩).symm
 have h3 : x = x' := by omega
 subst h3
 exact ⟨rfl, by omega⟩
theorem at_lt {c x y T : Nat} (hy : y < c) : c * x + y < c * T ↔ x < T := by
 constructor
 ·intro h
  apply Nat.lt_of_mul_lt_mul_left (a := c)
  omega
 ·intro h
  have : c * (x + 1) ≤ c * T := Nat.mul_le_mul_left c (by omega)
  rw [Nat.mul_succ] at this; omega
section
variable {base limit order n : Int} {z : List Int} {T : Nat}
theorem cell_go {lv : List S49} {m : PM} (h : St base limit order n lv m) (hTt : T = totP order n) {r c i x y : Nat} (hc : Cut r c) (ha : CellAt r c i x y) (hx : x < T) {need : Nat} (hn0 : 0 < need) (hne : need ≤ 17592186044416) {beg : Int} {v : Bool} {k : Nat} (hk : 262144 < k)
  (hv : (if (beg = 0 ∨ isR m r x = true) ∧ (addL (cellB base r x y) (m (x : Int))).isSome = true then croftref11_laid.l4 k z (lv ++ [(⟨(cellB base r x y).f0, (r : Int)⟩ : S49)]) ((4096 * T : Nat) : Int) (r : Int) ((need - 1 : Nat) : Int) beg ((r * (i + 1) : Nat) : Int) base limit order else croftref11_laid.l4 k z lv ((4096 * T : Nat) : Int) (r : Int) (need : Int) beg ((r * (i + 1) : Nat) : Int) base limit order) = some v) :
  croftref11_laid.l4 (k + 2) z lv ((4096 * T : Nat) : Int) (r : Int) (need : Int) beg ((r * i : Nat) : Int) base limit order = some v := by
 have hlen := h.len
 have htot := h.tot
 rw [← hTt] at htot
 have hb0 := h.b0
 have hb := hc.bd
 have hm := hc.mul ha.yc
 have hoff := ha.off
 have hnx := ha.next
 have hf0 : (cellB base r x y).f0 = base + ((r * i : Nat) : Int) := by show base + ((4096 * x + r * y : Nat) : Int) = _; rw [hoff]
 have hf1 : (cellB base r x y).f1 = (r : Int) := rfl
 have e1 : IntKind.u64.wrap (base + ((r * i : Nat) : Int)) = (cellB base r x y).f0 := by rw [hf0]; exact u64_in (by omega) (by omega)
 have e2 : IntKind.u64.wrap (((r * i : Nat) : Int) + (r : Int)) = ((r * (i + 1) : Nat) : Int) := by rw [u64_in (by omega) (by omega)]; omega
 have hok := cell_ok h hc ha.yc (show x < totP order n by omega)
 have hfr := free_f h (p := (cellB base r x y).f0) (s := (r : Int)) hok (by omega) hk
 have hst := cell_step h hc ha.yc (show x < totP order n by omega)
 have hiss : (OP.step base order n m (⟨(cellB base r x y).f0, (r : Int)⟩ : S55)).isSome = (addL (cellB base r x y) (m (x : Int))).isSome := by
  show (OP.step base order n m (cellB base r x y)).isSome = _
  rw [hst]
  cases hq : (addL (cellB base r x y) (m (x : Int))).isSome with
  | true => rw [if_pos rfl]; rfl
  | false => rw [if_neg (by decide)]; rfl
 rw [hiss] at hfr
 have hsh := shares_small h hc ha.yc (show x < totP order n by omega) hk
 have e3 : wrap64 ((need : Int) - 1) = ((need - 1 : Nat) : Int) := by unfold wrap64; omega
 rw [croftref11_laid.l4, if_pos (by omega), decide_eq_true (show (need : Int) > 0 by omega), croftref11_laid.j5, if_pos rfl, e1, hfr, hsh, e2, e3, Option.bind_some, Option.bind_some, if_pos (show lv.length < 8796093022208 by omega)]
 by_cases hbg : beg = 0
 ·rw [if_pos hbg]
  by_cases hs : (addL (cellB base r x y) (m (x : Int))).isSome = true
  ·rw [if_pos ⟨Or.inl hbg, hs⟩] at hv
   rw [if_pos hs]; exact hv
  ·rw [if_neg (fun h => hs h.2)] at hv
   rw [if_neg hs]; exact hv
 ·rw [if_neg hbg]
  by_cases hr : isR m r x = true
  ·rw [if_pos hr]
   by_cases hs : (addL (cellB base r x y) (m (x : Int))).isSome = true
   ·rw [if_pos ⟨Or.inr hr, hs⟩] at hv
    rw [if_pos hs]; exact hv
   ·rw [if_neg (fun h => hs h.2)] at hv
    rw [if_neg hs]; exact hv
  ·rw [if_neg (fun h => h.1.elim hbg hr)] at hv
   rw [if_neg hr]; exact hv
theorem cell_add {lv : List S49} {m : PM} (h : St base limit order n lv m) {r c x y : Nat} (hc : Cut r c) (hy : y < c) (hx : x < totP order n) (hs : (addL (cellB base r x y) (m (x : Int))).isSome = true) : St base limit order n (lv ++ [(⟨(cellB base r x y).f0, (r : Int)⟩ : S49)]) (addAll base (cellB base r x y) m) := by
 have hb := hc.bd
 have hst := cell_step h hc hy hx
 rw [if_pos hs] at hst
 have hok := cell_ok h hc hy hx
 have he := ok_end h.may h.n0 h.nl (b := cellB base r x y) (by constructor; exact Int.natCast_nonneg _; show (r : Int) < _; omega) hok
 have hf1 : (cellB base r x y).f1 = (r : Int) := rfl
 have hb0 := h.b0
 refine h.add (b := ⟨(cellB base r x y).f0, (r : Int)⟩) ⟨⟨?_, ?_⟩, ⟨?_, ?_⟩⟩ hst
 ·show 0 ≤ (cellB base r x y).f0; omega
 ·show (cellB base r x y).f0 < _; omega
 ·show 0 ≤ (r : Int); omega
 ·show (r : Int) < _; omega
/-- The first pass for small blocks: cells of pages that hold some of that size. -/
theorem passS1 (hTt : T = totP order n) {r c : Nat} (hc : Cut r c) (d : Nat) :
  ∀ (i : Nat) (lv : List S49) (m : PM) (need : Nat), i + d = c * T → need ≤ 17592186044416 → St base limit order n lv m → (∀ x y, y < c → c * x + y < i → toldC base m r x y) →
   ∃ lv' m' p, St base limit order n lv' m' ∧ p ≤ need ∧ freeN m' T 1 = freeN m T 1 ∧ (∀ s, roomAll m' s = roomAll m s - if (r : Int) = s then (p : Int) else 0) ∧
    (p = need ∨ ∀ x, x < T → ∀ y, y < c → toldC base m' r x y) ∧
    ∀ (K : Nat) (v : Bool), (∀ k, K ≤ k → croftref11_laid.l3 k z lv' ((4096 * T : Nat) : Int) (r : Int) ((need - p : Nat) : Int) 0 base limit order = some v) →
     ∀ k, K + 2 * d + 262200 < k → croftref11_laid.l4 k z lv ((4096 * T : Nat) : Int) (r : Int) (need : Int) 1 ((r * i : Nat) : Int) base limit order = some v := by
 have hb := hc.bd
 induction d with
 | zero =>
  intro i lv m need hi hne h hd
  refine ⟨lv, m, 0, h, Nat.zero_le _, rfl, fun s => by split <;> omega, Or.inr fun x hx y hy => hd x y hy (by have := (at_lt (c := c) (x := x) (y := y) (T := T) hy).2 hx; omega), fun K v hV k hk => ?_⟩
  obtain ⟨k, rfl⟩ : ∃ q, k = q + 2 := ⟨k - 2, by omega⟩
  have hH : r * i = 4096 * T := by rw [show i = c * T by omega, ← Nat.mul_assoc, hb.2.2.2.2.1]
  refine l4_out (Or.inl (by omega)) ?_
  rw [w_zero]
  exact hV k (by omega)
 | succ d ih =>
  intro i lv m need hi hne h hd
  by_cases h0 : need = 0
  ·subst h0
   refine ⟨lv, m, 0, h, Nat.le_refl _, rfl, fun s => by split <;> omega, Or.inl rfl, fun K v hV k hk => ?_⟩
   obtain ⟨k, rfl⟩ : ∃ q, k = q + 2 := ⟨k - 2, by omega⟩
   refine l4_out (Or.inr rfl) ?_
   rw [w_zero]
   exact hV k (by omega)
  have ha := at_of hc i
  generalize i / c = x at ha
  generalize i % c = y at ha
  have hai := ha.ix
  have hx : x < T := (at_lt ha.yc).1 (by omega)
  have hT2 := h.tot.2.1
  by_cases hgo : isR m r x = true ∧ (addL (cellB base r x y) (m (x : Int))).isSome = true
  ·obtain ⟨cs, q, hmx⟩ := isR_iff.1 hgo.1
   have hfr : (cs (cellB base r x y).f0).isSome = false := by
    rcases addL_inv _ hgo.2 with h1 | ⟨cs2, q2, h1, h2⟩
    ·rw [hmx] at h1; cases h1
    ·rw [hmx] at h1
     have h1 := Option.some.inj h1
     injection h1 with _ h3 _
     rw [h3]; exact h2
   have h2 := cell_add h hc ha.yc (by omega) hgo.2
   obtain ⟨lv', m', p, a1, a2, a3, a4, a5, a6⟩ := ih (i + 1) _ _ (need - 1) (by omega) (by omega) h2 (fun x' y' hy' hlt => by
    by_cases e : x' = x
    ·subst e
     refine told_old hc ha.yc hmx hfr ?_
     by_cases e2 : y' = y
     ·exact Or.inl e2
     ·exact Or.inr (hd x' y' hy' (by omega))
    ·refine told_new hc ha.yc e (hd x' y' hy' ?_)
     apply Decidable.byContradiction
     intro hge
     have := (at_uniq hy' ha.yc (show c * x' + y' = c * x + y by omega)).1
     exact e this)
   refine ⟨lv', m', p + 1, a1, by omega, ?_, fun s => ?_, ?_, fun K v hV k hk => ?_⟩
   ·rw [a3]
    exact cell_free_old hc ha.yc hgo.2 (by rw [hmx]; rfl)
   ·rw [a4, room_old hc ha.yc (by omega) hmx hfr s]
    split <;> omega
   ·rcases a5 with a5 | a5
    ·exact Or.inl (by omega)
    ·exact Or.inr a5
   ·obtain ⟨k, rfl⟩ : ∃ q, k = q + 2 := ⟨k - 2, by omega⟩
    refine cell_go h hTt hc ha hx (by omega) hne (by omega) ?_
    rw [if_pos ⟨Or.inr hgo.1, hgo.2⟩]
    refine a6 K v ?_ k (by omega)
    rw [show need - 1 - p = need - (p + 1) by omega]
    exact hV
  ·obtain ⟨lv', m', p, a1, a2, a3, a4, a5, a6⟩ := ih (i + 1) lv m need (by omega) hne h (fun x' y' hy' hlt => by
    by_cases hlt2 : c * x' + y' < i
    ·exact hd x' y' hy' hlt2
    ·obtain ⟨rfl, rfl⟩ := at_uniq hy' ha.yc (show c * x' + y' = c * x + y by omega)
     intro cs q hmx
     cases e : (cs (cellB base r x' y').f0).isSome with
     | true => rfl
     | false =>
      refine absurd ⟨isR_iff.2 ⟨cs, q, hmx⟩, ?_⟩ hgo
      rw [hmx, show addL (cellB base r x' y') (some (.small (r : Int) cs q)) = some (.small (r : Int) (upd cs (cellB base r x' y').f0 (r : Int)) (q + 1)) from addL_small (cellB base r x' y') (by show (r : Int) < 4096; omega) e]
      rfl)
   refine ⟨lv', m', p, a1, a2, a3, a4, a5, fun K v hV k hk => ?_⟩
   obtain ⟨k, rfl⟩ : ∃ q, k = q + 2 := ⟨k - 2, by omega⟩
   refine cell_go h hTt hc ha hx (by omega) hne (by omega) ?_
   rw [if_neg (fun h => hgo ⟨h.1.resolve_left (by decide), h.2⟩)]
   exact a6 K v hV k (by omega)
/-- The second pass: any free cell; a page once begun is filled ahead of the next. -/
theorem passS0 (hTt : T = totP order n) {r c : Nat} (hc : Cut r c) (d : Nat) :
  ∀ (i : Nat) (lv : List S49) (m : PM) (need : Nat), i + d = c * T → 0 < need → need ≤ 17592186044416 → St base limit order n lv m → (∀ x y, y < c → c * x + y < i → (m (x : Int)).isSome = true ∧ toldC base m r x y) → (∀ x, i ≤ c * x → roomAt m (r : Int) x = 0) →
   ∃ lv' m' p, St base limit order n lv' m' ∧ p ≤ need ∧ roomAll m' (r : Int) + (c : Int) * (freeN m' T 1 : Int) + (p : Int) = roomAll m (r : Int) + (c : Int) * (freeN m T 1 : Int) ∧ (∀ s, s ≠ (r : Int) → roomAll m' s = roomAll m s) ∧
    ((p = need ∧ 0 ≤ roomAll m' (r : Int) ∧ roomAll m' (r : Int) ≤ (c : Int) - 1) ∨ (p < need ∧ roomAll m' (r : Int) = 0 ∧ freeN m' T 1 = 0)) ∧
    ∀ (K : Nat) (v : Bool), (∀ k, K ≤ k → croftref11_laid.l3 k z lv' ((4096 * T : Nat) : Int) (r : Int) ((need - p : Nat) : Int) (-1) base limit order = some v) →
     ∀ k, K + 2 * d + 262210 < k → croftref11_laid.l4 k z lv ((4096 * T : Nat) : Int) (r : Int) (need : Int) 0 ((r * i : Nat) : Int) base limit order = some v := by
 have hb := hc.bd
 induction d with
 | zero =>
  intro i lv m need hi hn0 hne h hd hz
  have hall : ∀ x, x < T → ∀ y, y < c → (m (x : Int)).isSome = true ∧ toldC base m r x y := fun x hx y hy => hd x y hy (by have := (at_lt (c := c) (x := x) (y := y) (T := T) hy).2 hx; omega)
  refine ⟨lv, m, 0, h, Nat.zero_le _, by omega, fun s _ => rfl, Or.inr ⟨hn0, room_all_told h hc (fun x hx y hy => (hall x (by omega) y hy).2), free_none (fun x hx => (hall x hx 0 (by omega)).1)⟩, fun K v hV k hk => ?_⟩
  obtain ⟨k, rfl⟩ : ∃ q, k = q + 2 := ⟨k - 2, by omega⟩
  have hH : r * i = 4096 * T := by rw [show i = c * T by omega, ← Nat.mul_assoc, hb.2.2.2.2.1]
  refine l4_out (Or.inl (by omega)) ?_
  rw [w_neg]
  exact hV k (by omega)
 | succ d ih =>
  intro i lv m need hi hn0 hne h hd hz
  have ha := at_of hc i
  generalize i / c = x at ha
  generalize i % c = y at ha
  have hai := ha.ix
  have hay := ha.yc
  have hx : x < T := (at_lt ha.yc).1 (by omega)
  have hT2 := h.tot.2.1
  by_cases hgo : (addL (cellB base r x y) (m (x : Int))).isSome = true
  ·have h2 := cell_add h hc ha.yc (by omega) hgo
   -- what the step does to room and free pages
   have hV : roomAll (addAll base (cellB base r x y) m) (r : Int) + (c : Int) * (freeN (addAll base (cellB base r x y) m) T 1 : Int) + 1 = roomAll m (r : Int) + (c : Int) * (freeN m T 1 : Int) := by
    rcases addL_inv _ hgo with h1 | ⟨cs, q, h1, h3⟩
    ·rw [room_new hc ha.yc (by omega) h1, if_pos rfl, ← cell_free_new (base := base) hc ha.yc hx h1, Int.natCast_add, Int.mul_add]; omega
    ·rw [room_old hc ha.yc (by omega) h1 h3, if_pos rfl, cell_free_old hc ha.yc hgo (by rw [h1]; rfl)]; omega
   have hS : ∀ s, s ≠ (r : Int) → roomAll (addAll base (cellB base r x y) m) s = roomAll m s := by
    intro s hs
    rcases addL_inv _ hgo with h1 | ⟨cs, q, h1, h3⟩
    ·rw [room_new hc ha.yc (by omega) h1, if_neg (Ne.symm hs)]; omega
    ·rw [room_old hc ha.yc (by omega) h1 h3, if_neg (Ne.symm hs)]; omega
   have hd2 : ∀ x' y', y' < c → c * x' + y' < i + 1 → (addAll base (cellB base r x y) m (x' : Int)).isSome = true ∧ toldC base (addAll base (cellB base r x y) m) r x' y' := by
    intro x' y' hy' hlt
    by_cases e : x' = x
    ·subst e
     refine ⟨by rw [cell_new hc ha.yc, if_pos rfl]; exact hgo, ?_⟩
     by_cases e2 : y' = y
     ·subst e2
      rcases addL_inv _ hgo with h1 | ⟨cs, q, h1, h3⟩
      ·exact told_fresh hc ha.yc h1
      ·exact told_old hc ha.yc h1 h3 (Or.inl rfl)
     ·have h5 := hd x' y' hy' (by omega)
      rcases addL_inv _ hgo with h1 | ⟨cs, q, h1, h3⟩
      ·rw [h1] at h5; cases h5.1
      ·exact told_old hc ha.yc h1 h3 (Or.inr h5.2)
    ·have h5 := hd x' y' hy' (by
      apply Decidable.byContradiction
      intro hge
      exact e (at_uniq hy' ha.yc (show c * x' + y' = c * x + y by omega)).1)
     refine ⟨by rw [cell_new hc ha.yc, if_neg (by omega)]; exact h5.1, told_new hc ha.yc e h5.2⟩
   have hz2 : ∀ x', i + 1 ≤ c * x' → roomAt (addAll base (cellB base r x y) m) (r : Int) x' = 0 := by
    intro x' hx'
    have hne2 : x' ≠ x := by intro e; subst e; omega
    have := hz x' (by omega)
    unfold roomAt at this ⊢
    rw [cell_new hc ha.yc, if_neg (by omega)]
    exact this
   by_cases h1 : need = 1
   ·subst h1
    refine ⟨_, _, 1, h2, Nat.le_refl _, hV, hS, Or.inl ⟨rfl, ?_⟩, fun K v hVV k hk => ?_⟩
    ·refine room_one h2 hc (x := x) (by omega) (fun w hw => ?_)
     by_cases hwx : w < x
     ·refine room_told h2 hc (fun y' hy' => (hd2 w y' hy' ?_).2)
      have : c * (w + 1) ≤ c * x := Nat.mul_le_mul_left c (by omega)
      rw [Nat.mul_succ] at this; omega
     ·refine hz2 w ?_
      have : c * (x + 1) ≤ c * w := Nat.mul_le_mul_left c (by omega)
      rw [Nat.mul_succ] at this; omega
    ·obtain ⟨k, rfl⟩ : ∃ q, k = q + 4 := ⟨k - 4, by omega⟩
     refine cell_go h hTt hc ha hx (by omega) hne (by omega) ?_
     rw [if_pos ⟨Or.inl rfl, hgo⟩]
     refine l4_out (Or.inr rfl) ?_
     rw [w_neg]
     exact hVV k (by omega)
   ·obtain ⟨lv', m', p, a1, a2, a3, a4, a5, a6⟩ := ih (i + 1) _ _ (need - 1) (by omega) (by omega) (by omega) h2 hd2 hz2
    refine ⟨lv', m', p + 1, a1, by omega, by omega, fun s hs => (a4 s hs).trans (hS s hs), ?_, fun K v hVV k hk => ?_⟩
    ·rcases a5 with ⟨a5, a7⟩ | ⟨a5, a7⟩
     ·exact Or.inl ⟨by omega, a7⟩
     ·exact Or.inr ⟨by omega, a7⟩
    ·obtain ⟨k, rfl⟩ : ∃ q, k = q + 2 := ⟨k - 2, by omega⟩
     refine cell_go h hTt hc ha hx (by omega) hne (by omega) ?_
     rw [if_pos ⟨Or.inl rfl, hgo⟩]
     refine a6 K v ?_ k (by omega)
     rw [show need - 1 - p = need - (p + 1) by omega]
     exact hVV
  ·obtain ⟨lv', m', p, a1, a2, a3, a4, a5, a6⟩ := ih (i + 1) lv m need (by omega) hn0 hne h (fun x' y' hy' hlt => by
    by_cases hlt2 : c * x' + y' < i
    ·exact hd x' y' hy' hlt2
    ·obtain ⟨rfl, rfl⟩ := at_uniq hy' ha.yc (show c * x' + y' = c * x + y by omega)
     constructor
     ·cases e : m (x' : Int) with
      | some lt => rfl
      | none =>
       rw [e, addL_none (cellB base r x' y') (by show (r : Int) < 4096; omega)] at hgo
       exact absurd rfl hgo
     ·intro cs q hmx
      cases e : (cs (cellB base r x' y').f0).isSome with
      | true => rfl
      | false =>
       refine absurd ?_ hgo
       rw [hmx, show addL (cellB base r x' y') (some (.small (r : Int) cs q)) = some (.small (r : Int) (upd cs (cellB base r x' y').f0 (r : Int)) (q + 1)) from addL_small (cellB base r x' y') (by show (r : Int) < 4096; omega) e]
       rfl) (fun x' hx' => hz x' (by omega))
   refine ⟨lv', m', p, a1, a2, a3, a4, a5, fun K v hVV k hk => ?_⟩
   obtain ⟨k, rfl⟩ : ∃ q, k = q + 2 := ⟨k - 2, by omega⟩
   refine cell_go h hTt hc ha hx (by omega) hne (by omega) ?_
   rw [if_neg (fun h => hgo h.2)]
   exact a6 K v hVV k (by omega)
end
end Go.Proofs.Ytihfblnjgaalcaa.OL
