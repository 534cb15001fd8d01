/- Least, plain. -/
import Derived.Test.YtihfblnjgaalcaaONoFit
namespace Go.Proofs.Ytihfblnjgaalcaa.OC
open Go Go.RowKit Go.Proofs.YtihfblnjgaalcaaW.PrintWords Go.Proofs.YtihfblnjgaalcaaW.PrintLast Go.Proofs.YtihfblnjgaalcaaW.PrintMore Go.Proofs.Ytihfblnjgaalcaa.R Go.Proofs.Ytihfblnjgaalcaa.OM Go.Proofs.Ytihfblnjgaalcaa.OP Go.Proofs.Ytihfblnjgaalcaa.OS Go.Proofs.Ytihfblnjgaalcaa.OB Go.Proofs.Ytihfblnjgaalcaa.OF Go.Proofs.Ytihfblnjgaalcaa.OW Go.Proofs.Ytihfblnjgaalcaa.ON
set_option linter.unusedVariables false
set_option linter.unusedSimpArgs false
/-- The cells of a page. -/
def cellsAt (m : PM) (x : Nat) : Int := match m (x : Int) with
 | some (.small _ _ q) => (q : Int)
 | _ => 0
structure Few (m : PM) (i : Nat) : Prop where
 le : sumR (cellsAt m) 1024 ≤ (i : Int)
theorem cells_none : ∀ n, sumR (cellsAt PM.none) n = 0
 | 0 => rfl
 | n + 1 => by rw [sumR, cells_none n]; rfl
theorem cellsAt_set {m : PM} {x : Int} {l : Lot} {y : Nat} (h : (y : Int) ≠ x) : cellsAt (pmSet m x l) y = cellsAt m y := by unfold cellsAt; rw [pmSet_other m l h]
theorem cells_set {m : PM} {x : Nat} {l : Lot} (hx : x < 1024) : sumR (cellsAt (pmSet m (x : Int) l)) 1024 = sumR (cellsAt m) 1024 - cellsAt m x + cellsAt (pmSet m (x : Int) l) x :=
 sumR_upd 1024 hx (fun y _ hy => (cellsAt_set (by omega)).symm)
theorem cellsAt_at {m : PM} {x : Nat} {l : Lot} : cellsAt (pmSet m (x : Int) l) x = match l with
  | .small _ _ q => (q : Int)
  | _ => 0 := by
 unfold cellsAt; rw [pmSet_same]; cases l <;> rfl
theorem fill_few {z : Int} {i : Nat} : ∀ (k : Nat) (q : Int) (m m' : PM), Few m i → 0 ≤ q → q + k ≤ 1024 → fill z k q m = some m' → Few m' i
 | 0, q, m, m', h, _, _, hf => by simp only [fill] at hf; injection hf with hf; exact hf ▸ h
 | k + 1, q, m, m', h, h0, h1, hf => by
  cases hm : m q with
  | some l => simp only [fill, hm] at hf; cases hf
  | none =>
   simp only [fill, hm] at hf
   obtain ⟨x, rfl⟩ := Int.eq_ofNat_of_zero_le h0
   refine fill_few k ((x : Int) + 1) _ m' ?_ (by omega) (by omega) hf
   refine ⟨?_⟩
   rw [cells_set (by omega), cellsAt_at]
   have h2 : cellsAt m x = 0 := by unfold cellsAt; rw [hm]
   have h3 := h.le
   simp only
   omega
theorem step_few {base limit order n : Int} {m m' : PM} {b : S55} {i : Nat} (hm : mayB base limit order = true) (h0 : 0 ≤ n) (hn : n ≤ limit) (hw : 0 ≤ b.f1 ∧ b.f1 < 18446744073709551616) (h : Few m i) (hs : OP.step base order n m b = some m') : Few m' (i + 1) := by
 simp only [OP.step] at hs
 have h3 := h.le
 by_cases hok : okB base order n b = true
 ·rw [if_pos hok] at hs
  obtain ⟨p1, p2, p3, ex, e1, e2, e3⟩ := ok_place hm h0 hn hw hok
  have hb := page_bd hm h0 hn hok
  obtain ⟨x, hx⟩ := Int.eq_ofNat_of_zero_le hb.1
  have hxl : x < 1024 := by have := hb.2.1; omega
  rw [hx] at hs
  by_cases hz : b.f1 < 4096
  ·rw [if_pos hz] at hs
   have hput : ∀ (m1 : PM) (lt : Lot), Few m1 i → m1 (x : Int) = some lt → put1 (x : Int) b m1 lt = some m' → Few m' (i + 1) := by
    intro m1 lt hf hat hp
    have h4 := hf.le
    cases lt with
    | great s => simp only [put1] at hp; cases hp
    | small s cs q =>
     simp only [put1] at hp
     split at hp
     ·cases hp
     ·injection hp with hp
      subst hp
      refine ⟨?_⟩
      rw [cells_set hxl, cellsAt_at]
      have h2 : cellsAt m1 x = q := by unfold cellsAt; rw [hat]
      simp only
      omega
   cases hmq : m (x : Int) with
   | none =>
    rw [hmq] at hs
    refine hput _ _ ?_ (pmSet_same _ _ _) hs
    refine ⟨?_⟩
    rw [cells_set hxl, cellsAt_at]
    have h2 : cellsAt m x = 0 := by unfold cellsAt; rw [hmq]
    simp only
    omega
   | some lt =>
    rw [hmq] at hs
    exact hput m lt h hmq hs
  ·rw [if_neg hz] at hs
   have h5 := fill_few (i := i) _ _ _ _ h (by omega) (by
    have h6 := may_bytes hm h0 hn
    have h7 : pageOf base b = (x : Int) := hx
    unfold pageOf at h7
    omega) hs
   have h6 := h5.le
   exact ⟨by omega⟩
 ·rw [if_neg hok] at hs; cases hs
theorem scan_few {base limit order n : Int} (hm : mayB base limit order = true) (h0 : 0 ≤ n) (hn : n ≤ limit) : ∀ (l : List S55) (m m' : PM) (i : Nat) (j r : Int), OP.Wd l → Few m i → scan base order n m l j = (some m', r) → Few m' (i + l.length)
 | [], m, m', i, j, r, _, h, hs => by
  simp only [scan, Prod.mk.injEq] at hs
  obtain ⟨h1, h2⟩ := hs
  injection h1 with h1
  subst h1
  exact h
 | b :: l, m, m', i, j, r, hw, h, hs => by
  cases hst : OP.step base order n m b with
  | none => rw [scan_cons_none hst] at hs; cases hs
  | some m1 =>
   rw [scan_cons_some hst] at hs
   have h2 := scan_few hm h0 hn l m1 m' (i + 1) (j + 1) r (fun c hc => hw c (List.mem_cons_of_mem _ hc)) (step_few hm h0 hn (hw b (List.mem_cons_self ..)).2 h hst) hs
   rw [List.length_cons]
   rw [show i + (l.length + 1) = i + 1 + l.length by omega]; exact h2
theorem few_none : Few PM.none 0 := ⟨by rw [cells_none]; exact Int.le_refl 0⟩
theorem room_cells {m : PM} {s : Int} (h0 : 0 < s) : ∀ n, -(sumR (cellsAt m) n) ≤ sumR (roomAt m s) n
 | 0 => by simp [sumR]
 | n + 1 => by
  have h1 := room_cells (m := m) h0 n
  have h2 : -(cellsAt m n) ≤ roomAt m s n := by
   unfold cellsAt roomAt
   cases hx : m (n : Int) with
   | none => simp
   | some lt =>
    cases lt with
    | great z => simp
    | small z cs q =>
     simp only
     split
     ·rename_i e
      subst e
      have : 0 ≤ 4096 / z := Int.ediv_nonneg (by decide) (by omega)
      omega
     ·omega
  rw [sumR, sumR]; omega
theorem need_bd {m : PM} {order : Int} {l : List Int} {i : Nat} (hf : Few m i) (hi : i ≤ 8796093022208) (hl : l.length ≤ 17592186044416) : ∀ j, (needOf m order l).getD j 0 ≤ 2251799813685248 := by
 have hx : extra (fun s => (cnt l s : Int) - roomAll m s) ≤ (26388279066624 + 256) * 8 := by
  unfold extra
  refine sumR_le (by decide) 8 (fun k hk => ?_)
  refine (pages_bd hk ?_ (by decide)).2
  have h1 := room_cells (m := m) (s := sz8 k) (sz8_cells hk).1 1024
  have h2 := hf.le
  have h3 := cnt_le l (sz8 k)
  show (cnt l (sz8 k) : Int) - sumR (roomAt m (sz8 k)) 1024 ≤ 26388279066624
  omega
 intro j
 unfold needOf
 rw [List.getD_eq_getElem?_getD, List.getElem?_set]
 by_cases e : 0 = j
 ·subst e
  rw [if_pos rfl]
  split
  ·have h3 := cnt_le l 4096
   simp only [Option.getD_some]
   omega
  ·simp
 ·rw [if_neg e]
  unfold bigs
  rw [List.getElem?_map]
  cases hr : (List.range (order.toNat + 1))[j]? with
  | none => simp
  | some q =>
   have h3 := cnt_le l (4096 * 2 ^ q)
   simp only [Option.map_some, Option.getD_some]
   omega
/-- The regions that the pages reach. -/
def topR (m : PM) (o : Nat) : Nat → Nat
 | 0 => 0
 | n + 1 => max (topR m o n) (if (m (n : Int)).isSome then n / 2 ^ o + 1 else 0)
def topI (m : PM) (o : Nat) : Nat := topR m o 1024
/-- .. of the pages that are not left. -/
def TopSo (m : PM) (o : Nat) (left : Int → Bool) (t : Nat) : Prop := (∀ x : Nat, x < 1024 → (m (x : Int)).isSome = true → left (x : Int) = false → x / 2 ^ o + 1 ≤ t) ∧ (t = 0 ∨ ∃ x : Nat, x < 1024 ∧ (m (x : Int)).isSome = true ∧ t = x / 2 ^ o + 1)
theorem top_ge (m : PM) (o : Nat) : ∀ (n x : Nat), x < n → (m (x : Int)).isSome = true → x / 2 ^ o + 1 ≤ topR m o n
 | 0, x, h, _ => by omega
 | n + 1, x, h, hm => by
  rw [topR]
  by_cases e : x = n
  ·subst e; rw [if_pos hm]; exact Nat.le_max_right _ _
  ·exact Nat.le_trans (top_ge m o n x (by omega) hm) (Nat.le_max_left _ _)
theorem top_le (m : PM) (o : Nat) {t : Nat} : ∀ n, (∀ x : Nat, x < n → (m (x : Int)).isSome = true → x / 2 ^ o + 1 ≤ t) → topR m o n ≤ t
 | 0, _ => Nat.zero_le _
 | n + 1, h => by
  rw [topR]
  refine Nat.max_le.2 ⟨top_le m o n (fun x hx hm => h x (by omega) hm), ?_⟩
  split
  ·exact h n (by omega) (by assumption)
  ·exact Nat.zero_le _
theorem top_end {m : PM} {o t : Nat} {left : Int → Bool} (h : TopSo m o left t) (hl : ∀ x : Nat, x < 1024 → left (x : Int) = false) : t = topI m o := by
 unfold topI
 refine Nat.le_antisymm ?_ (top_le m o 1024 (fun x hx hm => h.1 x hx hm (hl x hx)))
 rcases h.2 with h2 | ⟨x, hx, hm, h2⟩
 ·omega
 ·rw [h2]; exact top_ge m o 1024 x hx hm
theorem top_start {m : PM} {o : Nat} {left : Int → Bool} (hl : ∀ x, left x = (m x).isSome) : TopSo m o left 0 := ⟨fun x _ h1 h2 => (by rw [hl, h1] at h2; cases h2), .inl rfl⟩
theorem top_step {m : PM} {o t y : Nat} {left : Int → Bool} (h : TopSo m o left t) (hy : y < 1024) (hm : (m (y : Int)).isSome = true) : TopSo m o (fun z => left z && !decide (z = (y : Int))) (max t (y / 2 ^ o + 1)) := by
 refine ⟨fun x hx h1 h2 => ?_, ?_⟩
 ·by_cases e : x = y
  ·subst e; exact Nat.le_max_right _ _
  ·have : decide ((x : Int) = (y : Int)) = false := decide_eq_false (by omega)
   have h3 : (left (x : Int) && !decide ((x : Int) = (y : Int))) = false := h2
   rw [this] at h3
   exact Nat.le_trans (h.1 x hx h1 (by simpa using h3)) (Nat.le_max_left _ _)
 ·by_cases e : t ≤ y / 2 ^ o + 1
  ·rw [Nat.max_eq_right e]; exact .inr ⟨y, hy, hm, rfl⟩
  ·rw [Nat.max_eq_left (by omega)]; exact h.2
def findF (p : Nat → Bool) : Nat → Nat → Option Nat
 | 0, _ => none
 | d + 1, n => if p n = true then some n else findF p d (n + 1)
/-- Do wanted blocks fit into k regions? -/
def fitAt (m : PM) (o : Nat) (need : List Nat) (k : Nat) : Bool := fitsB m (k * 2 ^ o) need
def outOf : Option Nat → Int × Bool
 | some n => ((n : Int), true)
 | none => (0, false)
/-- Least, its answer. -/
def leastI (base limit order : Int) (l : List S55) (z : List Int) : Int × Bool :=
 if soundI base limit order limit l = -1 ∧ z.all (sizeB order) = true then
  match (scan base order limit PM.none l 0).1 with
  | some m => outOf (findF (fitAt m order.toNat (needOf m order z)) (limit.toNat + 1 - topI m order.toNat) (topI m order.toNat))
  | none => (0, false)
 else (0, false)
theorem least_1 {base limit order : Int} {l : List S55} {z : List Int} (h : ¬ soundI base limit order limit l = -1) : leastI base limit order l z = (0, false) := by
 unfold leastI; rw [if_neg (fun h2 => h h2.1)]
theorem least_2 {base limit order : Int} {l : List S55} {z : List Int} (h : z.all (sizeB order) = false) : leastI base limit order l z = (0, false) := by
 unfold leastI; rw [if_neg (fun h2 => by rw [h] at h2; exact absurd h2.2 (by simp))]
theorem least_3 {base limit order : Int} {l : List S55} {z : List Int} {m : PM} (h1 : soundI base limit order limit l = -1) (h2 : z.all (sizeB order) = true) (h3 : scan base order limit PM.none l 0 = (some m, -1)) :
  leastI base limit order l z = outOf (findF (fitAt m order.toNat (needOf m order z)) (limit.toNat + 1 - topI m order.toNat) (topI m order.toNat)) := by
 unfold leastI; rw [if_pos ⟨h1, h2⟩, h3]
end Go.Proofs.Ytihfblnjgaalcaa.OC
