/- Laying a small block down. -/
import Derived.Test.YtihfblnjgaalcaaXLd0
namespace Go.Proofs.Ytihfblnjgaalcaa.OL
open Go Go.RowKit Go.Proofs.Ytihfblnjgaalcaa.R Go.Proofs.Ytihfblnjgaalcaa.OM Go.Proofs.Ytihfblnjgaalcaa.OP Go.Proofs.Ytihfblnjgaalcaa.OB Go.Proofs.Ytihfblnjgaalcaa.OV Go.Proofs.Ytihfblnjgaalcaa.OS Go.Proofs.Ytihfblnjgaalcaa.OW Go.Proofs.Ytihfblnjgaalcaa.OF Go.Proofs.Ytihfblnjgaalcaa.ON Go.Proofs.Ytihfblnjgaalcaa.OC Go.Proofs.Ytihfblnjgaalcaa.OX
set_option linter.unusedVariables false
set_option linter.unusedSimpArgs false
/-- A small size by its cells: r bytes, c of them on a page. -/
def Cut (r c : Nat) : Prop := (r = 16 ∧ c = 256) ∨ (r = 32 ∧ c = 128) ∨ (r = 64 ∧ c = 64) ∨ (r = 128 ∧ c = 32) ∨ (r = 256 ∧ c = 16) ∨ (r = 512 ∧ c = 8) ∨ (r = 1024 ∧ c = 4) ∨ (r = 2048 ∧ c = 2)
theorem Cut.bd {r c : Nat} (h : Cut r c) : 16 ≤ r ∧ r ≤ 2048 ∧ 2 ≤ c ∧ c ≤ 256 ∧ r * c = 4096 ∧ (4096 : Int) / (r : Int) = (c : Int) := by
 unfold Cut at h
 rcases h with ⟨rfl, rfl⟩ | ⟨rfl, rfl⟩ | ⟨rfl, rfl⟩ | ⟨rfl, rfl⟩ | ⟨rfl, rfl⟩ | ⟨rfl, rfl⟩ | ⟨rfl, rfl⟩ | ⟨rfl, rfl⟩ <;> decide
theorem Cut.mul {r c y : Nat} (h : Cut r c) (hy : y < c) : r * y + r ≤ 4096 := by
 obtain ⟨-, -, -, -, h2, -⟩ := h.bd
 have : r * (y + 1) ≤ r * c := Nat.mul_le_mul_left r (by omega)
 rw [Nat.mul_succ] at this; omega
/-- The block at cell y of page x. -/
def cellB (base : Int) (r x y : Nat) : S55 := ⟨base + ((4096 * x + r * y : Nat) : Int), (r : Int)⟩
section
variable {base limit order n : Int} {lv : List S49} {m : PM} {r c x y : Nat}
theorem cell_page (hc : Cut r c) (hy : y < c) : pageOf base (cellB base r x y) = (x : Int) := by
 have := hc.mul hy
 have := hc.bd
 show (base + ((4096 * x + r * y : Nat) : Int) - base) / 4096 = (x : Int)
 omega
theorem cell_on (hc : Cut r c) (hy : y < c) (z : Int) : onP base (cellB base r x y) z ↔ z = (x : Int) := by
 have := hc.bd
 unfold onP
 rw [cell_page hc hy, if_pos (show (cellB base r x y).f1 < 4096 by show (r : Int) < 4096; omega)]
 omega
theorem cell_ok (h : St base limit order n lv m) (hc : Cut r c) (hy : y < c) (hx : x < totP order n) : okB base order n (cellB base r x y) = true := by
 have hmm := mayB_iff.1 h.may
 obtain ⟨t1, t2, t3, t4, -⟩ := h.tot
 have hb := hc.bd
 have hm := hc.mul hy
 have hRR := RR_bd hmm.1 hmm.2.1
 have hsz : sizeB order (r : Int) = true := by
  have : ∃ k, k < 8 ∧ (r : Int) = sz8 k := by
   unfold Cut at hc
   rcases hc with ⟨rfl, -⟩ | ⟨rfl, -⟩ | ⟨rfl, -⟩ | ⟨rfl, -⟩ | ⟨rfl, -⟩ | ⟨rfl, -⟩ | ⟨rfl, -⟩ | ⟨rfl, -⟩
   ·exact ⟨0, by decide, by decide⟩
   ·exact ⟨1, by decide, by decide⟩
   ·exact ⟨2, by decide, by decide⟩
   ·exact ⟨3, by decide, by decide⟩
   ·exact ⟨4, by decide, by decide⟩
   ·exact ⟨5, by decide, by decide⟩
   ·exact ⟨6, by decide, by decide⟩
   ·exact ⟨7, by decide, by decide⟩
  obtain ⟨k, hk, e⟩ := this
  rw [e]
  exact sz8_size hmm.1 hmm.2.1 hk
 refine okB_iff.2 ⟨hsz, ?_, ?_, ?_⟩
 ·show (base + ((4096 * x + r * y : Nat) : Int)) % (r : Int) = 0
  unfold Cut at hc
  rcases hc with ⟨rfl, -⟩ | ⟨rfl, -⟩ | ⟨rfl, -⟩ | ⟨rfl, -⟩ | ⟨rfl, -⟩ | ⟨rfl, -⟩ | ⟨rfl, -⟩ | ⟨rfl, -⟩ <;> omega
 ·show base ≤ base + ((4096 * x + r * y : Nat) : Int)
  omega
 ·show base + ((4096 * x + r * y : Nat) : Int) - base < n * RR order
  rw [t1]; omega
/-- The free cells of a page, as the block would find it. -/
theorem cell_step (h : St base limit order n lv m) (hc : Cut r c) (hy : y < c) (hx : x < totP order n) : OP.step base order n m (cellB base r x y) = (if (addL (cellB base r x y) (m (x : Int))).isSome = true then some (addAll base (cellB base r x y) m) else none) := by
 have hz0 : (0 : Int) ≤ (cellB base r x y).f1 := Int.natCast_nonneg _
 by_cases hs : (addL (cellB base r x y) (m (x : Int))).isSome = true
 ·rw [if_pos hs]
  exact (step_iff hz0).2 ⟨cell_ok h hc hy hx, fun z hz => by rw [(cell_on hc hy z).1 hz]; exact hs, rfl⟩
 ·rw [if_neg hs]
  cases e : OP.step base order n m (cellB base r x y) with
  | none => rfl
  | some m2 => exact absurd (((step_iff hz0).1 e).2.1 _ ((cell_on hc hy _).2 rfl)) hs
theorem cell_new (hc : Cut r c) (hy : y < c) (z : Int) : addAll base (cellB base r x y) m z = if z = (x : Int) then addL (cellB base r x y) (m (x : Int)) else m z := by
 unfold addAll
 by_cases e : z = (x : Int)
 ·subst e; rw [if_pos ((cell_on hc hy _).2 rfl), if_pos rfl]
 ·rw [if_neg (fun h => e ((cell_on hc hy z).1 h)), if_neg e]
theorem addL_none (b : S55) (hs : b.f1 < 4096) : addL b none = some (.small b.f1 (upd noCells b.f0 b.f1) 1) := by simp only [addL]; rw [if_pos hs]
theorem addL_small (b : S55) (hs : b.f1 < 4096) {cs : Int → Option Int} {q : Nat} (hn : (cs b.f0).isSome = false) : addL b (some (.small b.f1 cs q)) = some (.small b.f1 (upd cs b.f0 b.f1) (q + 1)) := by
 show (if b.f1 < 4096 ∧ b.f1 = b.f1 ∧ (cs b.f0).isSome = false then some (Lot.small b.f1 (upd cs b.f0 b.f1) (q + 1)) else none) = _
 rw [if_pos ⟨hs, rfl, hn⟩]
theorem addL_inv (b : S55) {o : Option Lot} (h : (addL b o).isSome = true) : o = none ∨ ∃ cs q, o = some (.small b.f1 cs q) ∧ (cs b.f0).isSome = false := by
 cases o with
 | none => exact Or.inl rfl
 | some lt =>
  cases lt with
  | great s => simp [addL] at h
  | small s cs q =>
   simp only [addL] at h
   split at h
   ·rename_i hc
    obtain ⟨-, rfl, h3⟩ := hc
    exact Or.inr ⟨cs, q, rfl, h3⟩
   ·cases h
/-- Free pages. -/
theorem occ_one {T q : Nat} : occ m T 1 q = true ↔ q < T ∧ (m (q : Int)).isSome = true := by
 rw [occ_iff]
 constructor
 ·rintro ⟨x, h1, h2, h3⟩
  rw [Nat.div_one] at h2
  subst h2
  exact ⟨h1, h3⟩
 ·rintro ⟨h1, h2⟩
  exact ⟨q, h1, Nat.div_one q, h2⟩
theorem cell_free_new (hc : Cut r c) (hy : y < c) {T : Nat} (hx : x < T) (hn : m (x : Int) = none) : freeN (addAll base (cellB base r x y) m) T 1 + 1 = freeN m T 1 := by
 have hr : (cellB base r x y).f1 < 4096 := by have := hc.bd; show (r : Int) < 4096; omega
 unfold freeN
 rw [Nat.div_one]
 have hpart := countP_part (p := fun q => !occ m T 1 q) (p' := fun q => !occ (addAll base (cellB base r x y) m) T 1 q) (q := fun q => decide (x ≤ q ∧ q < x + 1)) (fun q => by
  show (!occ m T 1 q) = (!occ (addAll base (cellB base r x y) m) T 1 q || _)
  by_cases hq : q = x
  ·subst hq
   have h1 : occ m T 1 q = false := by
    cases e : occ m T 1 q with
    | false => rfl
    | true => have := (occ_one.1 e).2; rw [hn] at this; cases this
   rw [h1, decide_eq_true (by omega)]; simp
  ·have h1 : occ (addAll base (cellB base r x y) m) T 1 q = occ m T 1 q := by
    rw [Bool.eq_iff_iff, occ_one, occ_one, cell_new hc hy, if_neg (by omega)]
   rw [h1, decide_eq_false (by omega), Bool.or_false]) (fun q hq => by
  have hq := of_decide_eq_true hq
  have hqx : q = x := by omega
  subst hqx
  show (!occ (addAll base (cellB base r q y) m) T 1 q) = false
  have : occ (addAll base (cellB base r q y) m) T 1 q = true := by
   rw [occ_one, cell_new hc hy, if_pos rfl, hn, addL_none _ hr]
   exact ⟨hx, rfl⟩
  rw [this]; rfl) T
 rw [hpart, countP_span]
 omega
theorem cell_free_old (hc : Cut r c) (hy : y < c) {T : Nat} (hs : (addL (cellB base r x y) (m (x : Int))).isSome = true) (hn : (m (x : Int)).isSome = true) : freeN (addAll base (cellB base r x y) m) T 1 = freeN m T 1 := by
 unfold freeN
 refine List.countP_congr (fun q _ => ?_)
 have h1 : occ (addAll base (cellB base r x y) m) T 1 q = occ m T 1 q := by
  rw [Bool.eq_iff_iff, occ_one, occ_one, cell_new hc hy]
  by_cases e : (q : Int) = (x : Int)
  ·rw [if_pos e, e, hs, hn]
  ·rw [if_neg e]
 rw [h1]
/-- Free cells of size s. -/
theorem cell_room (hc : Cut r c) (hy : y < c) (hx : x < 1024) (s : Int) : roomAll (addAll base (cellB base r x y) m) s = roomAll m s - roomAt m s x + roomAt (addAll base (cellB base r x y) m) s x := by
 unfold roomAll
 refine sumR_upd 1024 hx (fun z _ hz => ?_)
 unfold roomAt
 rw [cell_new hc hy, if_neg (by omega)]
theorem room_new (hc : Cut r c) (hy : y < c) (hx : x < 1024) (hn : m (x : Int) = none) (s : Int) : roomAll (addAll base (cellB base r x y) m) s = roomAll m s + if (r : Int) = s then (c : Int) - 1 else 0 := by
 have hb := hc.bd
 have hr : (cellB base r x y).f1 < 4096 := by show (r : Int) < 4096; omega
 rw [cell_room hc hy hx]
 have h1 : roomAt m s x = 0 := by unfold roomAt; rw [hn]
 have h2 : roomAt (addAll base (cellB base r x y) m) s x = if (r : Int) = s then (c : Int) - 1 else 0 := by
  unfold roomAt
  rw [cell_new hc hy, if_pos rfl, hn, addL_none _ hr]
  show (if (r : Int) = s then 4096 / (r : Int) - ((1 : Nat) : Int) else 0) = _
  rw [hb.2.2.2.2.2]; rfl
 rw [h1, h2]; omega
theorem room_old (hc : Cut r c) (hy : y < c) (hx : x < 1024) {cs : Int → Option Int} {q : Nat} (hm : m (x : Int) = some (.small (r : Int) cs q)) (hn : (cs (cellB base r x y).f0).isSome = false) (s : Int) : roomAll (addAll base (cellB base r x y) m) s = roomAll m s - if (r : Int) = s then 1 else 0 := by
 have hb := hc.bd
 have hr : (cellB base r x y).f1 < 4096 := by show (r : Int) < 4096; omega
 rw [cell_room hc hy hx]
 have h1 : roomAt m s x = if (r : Int) = s then 4096 / (r : Int) - (q : Int) else 0 := by unfold roomAt; rw [hm]
 have h2 : roomAt (addAll base (cellB base r x y) m) s x = if (r : Int) = s then 4096 / (r : Int) - ((q + 1 : Nat) : Int) else 0 := by
  unfold roomAt
  rw [cell_new hc hy, if_pos rfl, hm]
  rw [show addL (cellB base r x y) (some (.small (r : Int) cs q)) = some (.small (r : Int) (upd cs (cellB base r x y).f0 (r : Int)) (q + 1)) from addL_small (cellB base r x y) hr hn]
 rw [h1, h2]
 split <;> omega
/-- Is the cell told, where its page is of that size? -/
def toldC (base : Int) (m : PM) (r x y : Nat) : Prop := ∀ cs q, m (x : Int) = some (.small (r : Int) cs q) → (cs (cellB base r x y).f0).isSome = true
theorem room_told (h : St base limit order n lv m) (hc : Cut r c) (ht : ∀ y, y < c → toldC base m r x y) : roomAt m (r : Int) x = 0 := by
 have hb := hc.bd
 have hx := h.says.1 (x : Int)
 unfold roomAt
 cases hm : m (x : Int) with
 | none => rfl
 | some lt =>
  cases lt with
  | great s => rfl
  | small z cs q =>
   simp only
   by_cases e : z = (r : Int)
   ·subst e
    rw [if_pos rfl]
    rw [hm] at hx
    obtain ⟨h8, h1, h2, h3, h4, h5⟩ := hx
    have hall : cellsN base (x : Int) (r : Int) cs = (c : Int) := by
     unfold cellsN
     rw [hb.2.2.2.2.2, Int.toNat_natCast]
     have := sumR_congr (f := fun i => if (cs (base + 4096 * (x : Int) + (i : Int) * (r : Int))).isSome = true then (1 : Int) else 0) (g := fun _ => (1 : Int)) c (fun i hi => by
      have h6 := ht i hi cs q hm
      have e : (cellB base r x i).f0 = base + 4096 * (x : Int) + (i : Int) * (r : Int) := by
       show base + ((4096 * x + r * i : Nat) : Int) = _
       rw [Int.natCast_add, Int.natCast_mul r i, Int.mul_comm (r : Int)]; omega
      rw [e] at h6
      show (if (cs (base + 4096 * (x : Int) + (i : Int) * (r : Int))).isSome = true then (1 : Int) else 0) = 1
      rw [if_pos h6])
     rw [this, sumR_const]; omega
    rw [hb.2.2.2.2.2, h5, hall]; omega
   ·rw [if_neg e]
theorem room_at_bd (h : St base limit order n lv m) (hc : Cut r c) (x : Nat) : 0 ≤ roomAt m (r : Int) x ∧ roomAt m (r : Int) x ≤ (c : Int) - 1 := by
 have hb := hc.bd
 have hx := h.says.1 (x : Int)
 unfold roomAt
 cases hm : m (x : Int) with
 | none => simp only; omega
 | some lt =>
  cases lt with
  | great s => simp only; omega
  | small z cs q =>
   simp only
   by_cases e : z = (r : Int)
   ·subst e
    rw [if_pos rfl]
    rw [hm] at hx
    obtain ⟨h8, h1, h2, h3, h4, h5⟩ := hx
    have := cells_le base (x : Int) (r : Int) cs
    rw [hb.2.2.2.2.2, Int.toNat_natCast] at this
    rw [hb.2.2.2.2.2]
    omega
   ·rw [if_neg e]; omega
theorem told_new (hc : Cut r c) (hy : y < c) {x' y' : Nat} (hne : x' ≠ x) (h : toldC base m r x' y') : toldC base (addAll base (cellB base r x y) m) r x' y' := by
 intro cs q hm
 rw [cell_new hc hy, if_neg (by omega)] at hm
 exact h cs q hm
/-- On the page itself: the cells that were told, and the new one. -/
theorem told_old (hc : Cut r c) (hy : y < c) {y' : Nat} {cs : Int → Option Int} {q : Nat} (hm : m (x : Int) = some (.small (r : Int) cs q)) (hn : (cs (cellB base r x y).f0).isSome = false) (h : y' = y ∨ toldC base m r x y') : toldC base (addAll base (cellB base r x y) m) r x y' := by
 have hr : (cellB base r x y).f1 < 4096 := by have := hc.bd; show (r : Int) < 4096; omega
 intro cs2 q2 hm2
 rw [cell_new hc hy, if_pos rfl, hm] at hm2
 rw [show addL (cellB base r x y) (some (.small (r : Int) cs q)) = some (.small (r : Int) (upd cs (cellB base r x y).f0 (r : Int)) (q + 1)) from addL_small (cellB base r x y) hr hn] at hm2
 have hm2 := Option.some.inj hm2
 injection hm2 with _ hm3 _
 rw [← hm3]
 unfold upd
 split
 ·rfl
 ·rename_i hne
  rcases h with rfl | h
  ·exact absurd rfl hne
  ·exact h cs q hm
theorem told_fresh (hc : Cut r c) (hy : y < c) (hn : m (x : Int) = none) : toldC base (addAll base (cellB base r x y) m) r x y := by
 have hr : (cellB base r x y).f1 < 4096 := by have := hc.bd; show (r : Int) < 4096; omega
 intro cs2 q2 hm2
 rw [cell_new hc hy, if_pos rfl, hn, addL_none _ hr] at hm2
 have hm2 := Option.some.inj hm2
 injection hm2 with _ hm3 _
 rw [← hm3]
 unfold upd
 rw [if_pos rfl]; rfl
/-- No room is left where all cells are told. -/
theorem room_all_told (h : St base limit order n lv m) (hc : Cut r c) (ht : ∀ x, x < totP order n → ∀ y, y < c → toldC base m r x y) : roomAll m (r : Int) = 0 := by
 unfold roomAll
 have : sumR (roomAt m (r : Int)) 1024 = sumR (fun _ => 0) 1024 := sumR_congr 1024 (fun x _ => by
  by_cases hx : x < totP order n
  ·exact room_told h hc (ht x hx)
  ·unfold roomAt
   cases hm : m (x : Int) with
   | none => rfl
   | some lt => have := h.dom (x := (x : Int)) (by rw [hm]; rfl); omega)
 rw [this, sumR_zero]
/-- .. and little where only one page has some. -/
theorem room_one (h : St base limit order n lv m) (hc : Cut r c) {x : Nat} (hx : x < 1024) (ht : ∀ z, z ≠ x → roomAt m (r : Int) z = 0) : 0 ≤ roomAll m (r : Int) ∧ roomAll m (r : Int) ≤ (c : Int) - 1 := by
 have hb := room_at_bd h hc x
 unfold roomAll
 rw [sumR_upd (f := fun _ => 0) (y := x) 1024 hx (fun z _ hz => (ht z hz).symm), sumR_zero]
 omega
theorem free_none {T : Nat} (h : ∀ x, x < T → (m (x : Int)).isSome = true) : freeN m T 1 = 0 := by
 unfold freeN
 rw [Nat.div_one, List.countP_eq_zero]
 intro q hq
 have hq := List.mem_range.1 hq
 rw [occ_one.2 ⟨hq, h q hq⟩]; decide
end
end Go.Proofs.Ytihfblnjgaalcaa.OL
