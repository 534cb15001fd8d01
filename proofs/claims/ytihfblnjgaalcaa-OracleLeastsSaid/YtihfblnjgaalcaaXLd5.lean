/- The reference's laying, size by size. -/
import Derived.Test.YtihfblnjgaalcaaXLd4
namespace Go.Proofs.Ytihfblnjgaalcaa.OL
open Go Go.RowKit Go.Proofs.YtihfblnjgaalcaaW.PrintWords Go.Proofs.YtihfblnjgaalcaaW.PrintLast Go.Proofs.YtihfblnjgaalcaaW.PrintMore Go.Proofs.Ytihfblnjgaalcaa.R Go.Proofs.Ytihfblnjgaalcaa.OM Go.Proofs.Ytihfblnjgaalcaa.OP Go.Proofs.Ytihfblnjgaalcaa.OB Go.Proofs.Ytihfblnjgaalcaa.OV Go.Proofs.Ytihfblnjgaalcaa.OS Go.Proofs.Ytihfblnjgaalcaa.OW Go.Proofs.Ytihfblnjgaalcaa.OF Go.Proofs.Ytihfblnjgaalcaa.ON Go.Proofs.Ytihfblnjgaalcaa.OC Go.Proofs.Ytihfblnjgaalcaa.OX
set_option linter.unusedVariables false
set_option linter.unusedSimpArgs false
section
variable {base limit order n : Int} {z : List Int} {T : Nat}
theorem rdz {z : List Int} (s : Int) {i : Nat} (h : i < z.length) : cnt (z.take (i + 1)) s = cnt (z.take i) s + if rd z (i : Int) = s then 1 else 0 := by
 rw [List.take_succ_eq_append_getElem h, cnt_snoc, rdI h]
/-- How many of a size are wanted. -/
theorem l2_count {lv : List S49} {r H : Int} (hz : z.length ≤ 17592186043904) {K : Nat} {v : Bool} (hV : ∀ k, K ≤ k → croftref11_laid.l3 k z lv H r (cnt z r : Int) 1 base limit order = some v) (d : Nat) :
  ∀ (k i : Nat), i + d = z.length → K + d < k → croftref11_laid.l2 k z lv H r (cnt (z.take i) r : Int) (i : Int) base limit order = some v := by
 induction d with
 | zero =>
  intro k i hi hk
  obtain ⟨k, rfl⟩ : ∃ q, k = q + 1 := ⟨k - 1, by omega⟩
  obtain rfl : i = z.length := hi
  rw [croftref11_laid.l2, if_neg (by omega), List.take_length]
  exact hV k (by omega)
 | succ d ih =>
  intro k i hi hk
  obtain ⟨k, rfl⟩ : ∃ q, k = q + 1 := ⟨k - 1, by omega⟩
  have hil : i < z.length := by omega
  have hnext := ih k (i + 1) (by omega) (by omega)
  rw [rdz r hil] at hnext
  have hc := cnt_le (z.take i) r
  rw [List.length_take] at hc
  rw [croftref11_laid.l2, if_pos (by omega), if_pos (by omega), inc64 (i := i) (by omega), inc64 (i := cnt (z.take i) r) (by omega)]
  by_cases he : rd z (i : Int) = r
  ·rw [if_pos he]
   rw [if_pos he] at hnext
   exact hnext
  ·rw [if_neg he]
   rw [if_neg he, Nat.add_zero] at hnext
   exact hnext
theorem room_nonneg {lv : List S49} {m : PM} (h : St base limit order n lv m) {r c : Nat} (hc : Cut r c) : 0 ≤ roomAll m (r : Int) := by
 unfold roomAll
 exact sumR_nonneg 1024 (fun x _ => (room_at_bd h hc x).1)
/-- Is there room for the blocks of a small size? And what is left? -/
theorem small_stage (hTt : T = totP order n) {r c : Nat} (hc : Cut r c) {lv : List S49} {m : PM} {need : Nat} (hne : need ≤ 17592186043904) (h : St base limit order n lv m) :
  ∃ lv' m', (pagesFor ((need : Int) - roomAll m (r : Int)) (r : Int) ≤ (freeN m T 1 : Int) → St base limit order n lv' m' ∧ (freeN m' T 1 : Int) = (freeN m T 1 : Int) - pagesFor ((need : Int) - roomAll m (r : Int)) (r : Int) ∧ ∀ s, s ≠ (r : Int) → roomAll m' s = roomAll m s) ∧
   ∀ (K : Nat) (v : Bool), (pagesFor ((need : Int) - roomAll m (r : Int)) (r : Int) ≤ (freeN m T 1 : Int) → ∀ k, K ≤ k → croftref11_laid.l1 k z lv' ((4096 * T : Nat) : Int) (IntKind.u64.wrap (Int.tdiv (r : Int) 2)) base limit order = some v) → (¬ pagesFor ((need : Int) - roomAll m (r : Int)) (r : Int) ≤ (freeN m T 1 : Int) → v = false) →
    ∀ k, K + 1700000 < k → croftref11_laid.l3 k z lv ((4096 * T : Nat) : Int) (r : Int) (need : Int) 1 base limit order = some v := by
 have hb := hc.bd
 have hT := h.tot.2.1
 rw [← hTt] at hT
 have hcT : c * T ≤ 256 * 1024 := Nat.mul_le_mul hb.2.2.2.1 hT
 have hrn := room_nonneg h hc
 obtain ⟨lv1, m1, p1, a1, a2, a3, a4, a5, a6⟩ := passS1 (z := z) hTt hc (c * T) 0 lv m need (by omega) (by omega) h (fun x y hy hlt => by omega)
 have a4r := a4 (r : Int)
 rw [if_pos rfl] at a4r
 have hrn1 := room_nonneg a1 hc
 have hneg : ∀ q : Int, q ≤ 0 → pagesFor q (r : Int) = 0 := by
  intro q hq
  unfold pagesFor
  rw [hb.2.2.2.2.2, show max q 0 = 0 by omega, Int.zero_add]
  exact Int.ediv_eq_zero_of_lt (by omega) (by omega)
 have hstart : ∀ (k : Nat) (v : Bool), (∀ k', 1000000 ≤ k' + (k' - k') → True) → True := fun _ _ _ => trivial
 by_cases hp1 : p1 = need
 ·-- the first pass lays them all
  subst hp1
  have hpf := hneg ((p1 : Int) - roomAll m (r : Int)) (by omega)
  refine ⟨lv1, m1, fun _ => ⟨a1, by rw [a3, hpf]; omega, fun s hs => by rw [a4 s, if_neg (Ne.symm hs)]; omega⟩, fun K v hV hF k hk => ?_⟩
  obtain ⟨k, rfl⟩ : ∃ q, k = q + 1 := ⟨k - 1, by omega⟩
  rw [croftref11_laid.l3, if_pos (by decide)]
  have hgo := a6 (K + 4) v (fun k hk => by
   obtain ⟨k, rfl⟩ : ∃ q, k = q + 4 := ⟨k - 4, by omega⟩
   rw [croftref11_laid.l3, if_pos (by decide), Nat.sub_self]
   refine l4_out (k := k + 1) (Or.inr rfl) ?_
   rw [w_neg, croftref11_laid.l3, if_neg (by decide), if_neg (by decide)]
   exact hV (by rw [hpf]; omega) k (by omega)) k (by omega)
  rw [Nat.mul_zero] at hgo
  exact hgo
 ·have hlt : p1 < need := by omega
  have htold := a5.resolve_left hp1
  rw [show T = totP order n from hTt] at htold
  have hr0 := room_all_told a1 hc htold
  have hrz : ∀ x, roomAt m1 (r : Int) x = 0 := by
   intro x
   by_cases hx : x < totP order n
   ·exact room_told a1 hc (htold x hx)
   ·unfold roomAt
    cases hm : m1 (x : Int) with
    | none => rfl
    | some lt => have := a1.dom (x := (x : Int)) (by rw [hm]; rfl); omega
  obtain ⟨lv2, m2, p2, b1, b2, b3, b4, b5, b6⟩ := passS0 (z := z) hTt hc (c * T) 0 lv1 m1 (need - p1) (by omega) (by omega) (by omega) a1 (fun x y hy hlt => by omega) (fun x _ => hrz x)
  have hpf : pagesFor ((need : Int) - roomAll m (r : Int)) (r : Int) = (((need : Int) - p1) + (c : Int) - 1) / (c : Int) := by
   unfold pagesFor
   rw [hb.2.2.2.2.2, show max ((need : Int) - roomAll m (r : Int)) 0 = (need : Int) - p1 by omega]
  have hgo : ∀ (K : Nat) (v : Bool), (∀ k, K ≤ k → croftref11_laid.l3 k z lv2 ((4096 * T : Nat) : Int) (r : Int) ((need - p1 - p2 : Nat) : Int) (-1) base limit order = some v) → ∀ k, K + 1600000 < k → croftref11_laid.l3 k z lv ((4096 * T : Nat) : Int) (r : Int) (need : Int) 1 base limit order = some v := by
   intro K v hV k hk
   obtain ⟨k, rfl⟩ : ∃ q, k = q + 1 := ⟨k - 1, by omega⟩
   rw [croftref11_laid.l3, if_pos (by decide)]
   have h6 := a6 (K + 2 * (c * T) + 262220) v (fun k hk => by
    obtain ⟨k, rfl⟩ : ∃ q, k = q + 1 := ⟨k - 1, by omega⟩
    rw [croftref11_laid.l3, if_pos (by decide)]
    have h7 := b6 K v hV k (by omega)
    rw [Nat.mul_zero] at h7
    exact h7) k (by omega)
   rw [Nat.mul_zero] at h6
   exact h6
  rw [a3] at b3
  rcases b5 with ⟨e1, e2, e3⟩ | ⟨e1, e2, e3⟩
  ·have hfin : pagesFor ((need : Int) - roomAll m (r : Int)) (r : Int) ≤ (freeN m T 1 : Int) ∧ (freeN m2 T 1 : Int) = (freeN m T 1 : Int) - pagesFor ((need : Int) - roomAll m (r : Int)) (r : Int) := by
    rw [hpf]
    have hb3 : roomAll m2 (r : Int) + (c : Int) * (freeN m2 T 1 : Int) + ((need : Int) - p1) = (c : Int) * (freeN m T 1 : Int) := by omega
    generalize roomAll m2 (r : Int) = R2 at *
    generalize freeN m2 T 1 = F2 at *
    generalize freeN m T 1 = F1 at *
    unfold Cut at hc
    rcases hc with ⟨-, rfl⟩ | ⟨-, rfl⟩ | ⟨-, rfl⟩ | ⟨-, rfl⟩ | ⟨-, rfl⟩ | ⟨-, rfl⟩ | ⟨-, rfl⟩ | ⟨-, rfl⟩ <;> omega
   refine ⟨lv2, m2, fun _ => ⟨b1, hfin.2, fun s hs => ?_⟩, fun K v hV hF k hk => ?_⟩
   ·rw [b4 s hs, a4 s, if_neg (Ne.symm hs)]; omega
   ·refine hgo (K + 1) v (fun k hk => ?_) k (by omega)
    obtain ⟨k, rfl⟩ : ∃ q, k = q + 1 := ⟨k - 1, by omega⟩
    rw [show need - p1 - p2 = 0 by omega, croftref11_laid.l3, if_neg (by decide), if_neg (by decide)]
    exact hV hfin.1 k (by omega)
  ·have hno : ¬ pagesFor ((need : Int) - roomAll m (r : Int)) (r : Int) ≤ (freeN m T 1 : Int) := by
    rw [hpf]
    have hb3 : (p2 : Int) = (c : Int) * (freeN m T 1 : Int) := by rw [e2, e3, hr0] at b3; simp at b3; omega
    generalize freeN m T 1 = F1 at *
    unfold Cut at hc
    rcases hc with ⟨-, rfl⟩ | ⟨-, rfl⟩ | ⟨-, rfl⟩ | ⟨-, rfl⟩ | ⟨-, rfl⟩ | ⟨-, rfl⟩ | ⟨-, rfl⟩ | ⟨-, rfl⟩ <;> omega
   refine ⟨lv2, m2, fun h => absurd h hno, fun K v hV hF k hk => ?_⟩
   refine hgo (K + 1) v (fun k hk => ?_) k (by omega)
   obtain ⟨k, rfl⟩ : ∃ q, k = q + 1 := ⟨k - 1, by omega⟩
   rw [croftref11_laid.l3, if_neg (by decide), if_pos (by omega), hF hno]
/-- .. of a great size. -/
theorem great_stage (hTt : T = totP order n) {j u : Nat} (hj : j ≤ order.toNat) (hT : T = 2 ^ j * u) {lv : List S49} {m : PM} {need : Nat} (hne : need ≤ 17592186043904) (h : St base limit order n lv m) :
  ∃ lv' m', (need ≤ freeN m T (2 ^ j) → St base limit order n lv' m' ∧ (∀ k, k ≤ j → freeN m' T (2 ^ k) + need * 2 ^ (j - k) = freeN m T (2 ^ k)) ∧ ∀ s, roomAll m' s = roomAll m s) ∧
   ∀ (K : Nat) (v : Bool), (need ≤ freeN m T (2 ^ j) → ∀ k, K ≤ k → croftref11_laid.l1 k z lv' ((4096 * T : Nat) : Int) (IntKind.u64.wrap (Int.tdiv ((4096 * 2 ^ j : Nat) : Int) 2)) base limit order = some v) → (¬ need ≤ freeN m T (2 ^ j) → v = false) →
    ∀ k, K + 1700000 < k → croftref11_laid.l3 k z lv ((4096 * T : Nat) : Int) ((4096 * 2 ^ j : Nat) : Int) (need : Int) 1 base limit order = some v := by
 have hp := Nat.two_pow_pos j
 have hT1 := h.tot.2.1
 rw [← hTt] at hT1
 have hu : u ≤ 1024 := by
  have : u ≤ 2 ^ j * u := Nat.le_mul_of_pos_left u hp
  omega
 obtain ⟨lv2, m2, p, a1, a2, a3, a4, a5, a6, a7⟩ := passG (z := z) hj hT hTt u 0 lv m need (by omega) (by omega) h
 have hgo : ∀ (K : Nat) (v : Bool), (∀ k, K ≤ k → croftref11_laid.l3 k z lv2 ((4096 * T : Nat) : Int) ((4096 * 2 ^ j : Nat) : Int) ((need - p : Nat) : Int) (-1) base limit order = some v) → ∀ k, K + 1600000 < k → croftref11_laid.l3 k z lv ((4096 * T : Nat) : Int) ((4096 * 2 ^ j : Nat) : Int) (need : Int) 1 base limit order = some v := by
  intro K v hV k hk
  obtain ⟨k, rfl⟩ : ∃ q, k = q + 1 := ⟨k - 1, by omega⟩
  rw [croftref11_laid.l3, if_pos (by decide)]
  have h6 := passG1 (z := z) hj hT hTt h (need := need) (K := K + 2 * u + 262210) (v := v) (fun k hk => by
   obtain ⟨k, rfl⟩ : ∃ q, k = q + 1 := ⟨k - 1, by omega⟩
   rw [croftref11_laid.l3, if_pos (by decide)]
   have h7 := a7 K v hV k (by omega)
   rw [Nat.mul_zero] at h7
   exact h7) u 0 (by omega) k (by omega)
  rw [Nat.mul_zero] at h6
  exact h6
 have hjj := a3 j (Nat.le_refl j)
 rw [Nat.sub_self, Nat.pow_zero, Nat.mul_one] at hjj
 have hall : p ≠ need → p = freeN m T (2 ^ j) := by
  intro hpn
  have h5 := a5.resolve_left hpn
  have hocc : occN m2 T (2 ^ j) = u := by
   have := (occ_all (m := m2) (T := T) (pg := 2 ^ j) (u := u) hp hT hu).2 (fun q hq => h5 q (Nat.zero_le _) hq)
   rw [hT, Nat.mul_div_cancel_left u hp, ← hT] at this
   have := free_eq (m := m2) hp hT hu
   omega
  have := free_eq (m := m2) hp hT hu
  omega
 by_cases hfit : need ≤ freeN m T (2 ^ j)
 ·have hpn : p = need := by
   apply Decidable.byContradiction
   intro hpn
   have := hall hpn
   omega
  subst hpn
  refine ⟨lv2, m2, fun _ => ⟨a1, a3, a4⟩, fun K v hV hF k hk => ?_⟩
  refine hgo (K + 1) v (fun k hk => ?_) k (by omega)
  obtain ⟨k, rfl⟩ : ∃ q, k = q + 1 := ⟨k - 1, by omega⟩
  rw [Nat.sub_self, croftref11_laid.l3, if_neg (by decide), if_neg (by decide)]
  exact hV hfit k (by omega)
 ·refine ⟨lv2, m2, fun h => absurd h hfit, fun K v hV hF k hk => ?_⟩
  have hpn : p ≠ need := by
   intro e; omega
  have := hall hpn
  refine hgo (K + 1) v (fun k hk => ?_) k (by omega)
  obtain ⟨k, rfl⟩ : ∃ q, k = q + 1 := ⟨k - 1, by omega⟩
  rw [croftref11_laid.l3, if_neg (by decide), if_pos (by omega), hF hfit]
/-! ### all sizes -/
/-- Small sizes, the greatest first: is there room? -/
def sSm (z : List Int) (room : Nat → Int) : Nat → Int → Bool
 | 0, _ => true
 | k + 1, f => if pagesFor ((cnt z (sz8 k) : Int) - room k) (sz8 k) ≤ f then sSm z room k (f - pagesFor ((cnt z (sz8 k) : Int) - room k) (sz8 k)) else false
def sBig (z : List Int) (room : Nat → Int) : Nat → (Nat → Int) → Bool
 | 0, F => sSm z room 8 (F 0)
 | j + 1, F => if (cnt z (4096 * 2 ^ j) : Int) ≤ F j then sBig z room j (fun k => F k - (cnt z (4096 * 2 ^ j) : Int) * ((2 ^ (j - k) : Nat) : Int)) else false
theorem cut_sz8 (k : Nat) (hk : k < 8) : ∃ c, Cut (8 * 2 ^ (k + 1)) c ∧ ((8 * 2 ^ (k + 1) : Nat) : Int) = sz8 k := by
 have h : k = 0 ∨ k = 1 ∨ k = 2 ∨ k = 3 ∨ k = 4 ∨ k = 5 ∨ k = 6 ∨ k = 7 := by omega
 rcases h with rfl | rfl | rfl | rfl | rfl | rfl | rfl | rfl
 ·exact ⟨256, by unfold Cut; decide, by decide⟩
 ·exact ⟨128, by unfold Cut; decide, by decide⟩
 ·exact ⟨64, by unfold Cut; decide, by decide⟩
 ·exact ⟨32, by unfold Cut; decide, by decide⟩
 ·exact ⟨16, by unfold Cut; decide, by decide⟩
 ·exact ⟨8, by unfold Cut; decide, by decide⟩
 ·exact ⟨4, by unfold Cut; decide, by decide⟩
 ·exact ⟨2, by unfold Cut; decide, by decide⟩
theorem half_pow (q e : Nat) (hq : q * 2 ^ e < 9223372036854775808) : IntKind.u64.wrap (Int.tdiv ((q * 2 ^ (e + 1) : Nat) : Int) 2) = ((q * 2 ^ e : Nat) : Int) := by
 rw [Int.tdiv_eq_ediv_of_nonneg (Int.natCast_nonneg _)]
 have h1 : q * 2 ^ (e + 1) = 2 * (q * 2 ^ e) := by rw [Nat.pow_succ, Nat.mul_comm (2 ^ e), Nat.mul_left_comm]
 rw [h1]
 have h2 : ((2 * (q * 2 ^ e) : Nat) : Int) / 2 = ((q * 2 ^ e : Nat) : Int) := by omega
 rw [h2]
 exact u64_in (Int.natCast_nonneg _) (by omega)
theorem laid_small (hTt : T = totP order n) (hz : z.length ≤ 17592186043904) {L : Nat} (hL : z.length + 1800000 ≤ L) (room : Nat → Int) (k : Nat) : k ≤ 8 → ∀ (lv : List S49) (m : PM), St base limit order n lv m → (∀ i, i < k → roomAll m (sz8 i) = room i) →
  ∀ fuel, k * L + 1 < fuel → croftref11_laid.l1 fuel z lv ((4096 * T : Nat) : Int) ((8 * 2 ^ k : Nat) : Int) base limit order = some (sSm z room k (freeN m T 1 : Int)) := by
 induction k with
 | zero =>
  intro _ lv m h hr fuel hf
  obtain ⟨f, rfl⟩ : ∃ q, fuel = q + 1 := ⟨fuel - 1, by omega⟩
  rw [croftref11_laid.l1, if_neg (by decide)]
  rfl
 | succ k ih0 =>
  intro hk lv m h hr fuel hf
  obtain ⟨f, rfl⟩ : ∃ q, fuel = q + 1 := ⟨fuel - 1, by omega⟩
  rw [Nat.succ_mul] at hf
  obtain ⟨c, hc, hs⟩ := cut_sz8 k (by omega)
  have hb := hc.bd
  have hcl := cnt_le z (sz8 k)
  obtain ⟨lv', m', h1, h2⟩ := small_stage (z := z) hTt hc (lv := lv) (m := m) (need := cnt z (sz8 k)) (by omega) h
  rw [hs, hr k (by omega)] at h1 h2
  have hp8 : 2 ^ k ≤ 2 ^ 8 := Nat.pow_le_pow_right (by decide) (by omega)
  have hhalf := half_pow 8 k (by omega)
  rw [hs] at hhalf
  rw [croftref11_laid.l1, if_pos (by omega), hs]
  have h3 := h2 (k * L + 2) (sSm z room (k + 1) (freeN m T 1 : Int)) (fun hfit k' hk' => by
   obtain ⟨g1, g2, g3⟩ := h1 hfit
   rw [hhalf]
   have ih := ih0 (by omega) lv' m' g1 (fun i hi => by rw [g3 (sz8 i) (fun e => by have := sz8_inj (by omega) (by omega) e; omega)]; exact hr i (by omega)) k' (by omega)
   rw [ih, g2]
   rw [sSm, if_pos hfit]) (fun hno => by rw [sSm, if_neg hno])
  have h4 := l2_count (base := base) (limit := limit) (order := order) (lv := lv) (r := sz8 k) (H := ((4096 * T : Nat) : Int)) hz (K := k * L + 2 + 1700000 + 1) (fun k' hk' => h3 k' (by omega)) z.length f 0 (by omega) (by omega)
  rw [List.take_zero] at h4
  exact h4
theorem laid_big (hTt : T = totP order n) (hz : z.length ≤ 17592186043904) {L : Nat} (hL : z.length + 1800000 ≤ L) (room : Nat → Int) (j : Nat) : j ≤ order.toNat + 1 → ∀ (lv : List S49) (m : PM) (F : Nat → Int), St base limit order n lv m → (∀ i, i < 8 → roomAll m (sz8 i) = room i) → (∀ k, k ≤ j → F k = (freeN m T (2 ^ k) : Int) ∨ (k = j ∧ 0 < j)) →
  ∀ fuel, (j + 8) * L + 1 < fuel → croftref11_laid.l1 fuel z lv ((4096 * T : Nat) : Int) ((2048 * 2 ^ j : Nat) : Int) base limit order = some (sBig z room j F) := by
 induction j with
 | zero =>
  intro hj lv m F h hr hF fuel hf
  have := laid_small (base := base) (limit := limit) hTt hz hL room 8 (Nat.le_refl 8) lv m h hr fuel (by omega)
  rw [sBig]
  have h0 : F 0 = (freeN m T 1 : Int) := by
   rcases hF 0 (Nat.le_refl 0) with h | h
   ·exact h
   ·omega
  rw [h0]
  exact this
 | succ j ih0 =>
  intro hj lv m F h hr hF fuel hf
  obtain ⟨f, rfl⟩ : ∃ q, fuel = q + 1 := ⟨fuel - 1, by omega⟩
  have hmm := mayB_iff.1 h.may
  rw [show j + 1 + 8 = j + 8 + 1 by omega, Nat.succ_mul] at hf
  have hp8 : 2 ^ j ≤ 2 ^ 8 := Nat.pow_le_pow_right (by decide) (by omega)
  have hp1 := Nat.two_pow_pos j
  obtain ⟨N, hN⟩ := h.tot.2.2.2.2
  have hT : T = 2 ^ j * (N * 2 ^ (order.toNat - j)) := by
   rw [hTt, hN, show 2 ^ order.toNat = 2 ^ j * 2 ^ (order.toNat - j) by rw [← Nat.pow_add]; congr 1; omega, Nat.mul_left_comm]
  have hr2 : 2048 * 2 ^ (j + 1) = 4096 * 2 ^ j := by rw [Nat.pow_succ]; omega
  have hri : ((4096 * 2 ^ j : Nat) : Int) = 4096 * 2 ^ j := by rw [Int.natCast_mul, pow_nat]; rfl
  have hcl := cnt_le z (4096 * 2 ^ j)
  have hFj : F j = (freeN m T (2 ^ j) : Int) := by
   rcases hF j (by omega) with h | h
   ·exact h
   ·omega
  obtain ⟨lv', m', h1, h2⟩ := great_stage (z := z) hTt (j := j) (by omega) hT (lv := lv) (m := m) (need := cnt z (4096 * 2 ^ j)) (by omega) h
  have hhalf := half_pow 2048 j (by omega)
  rw [hr2] at hhalf
  rw [hr2, croftref11_laid.l1, if_pos (by omega)]
  have h3 := h2 ((j + 8) * L + 2) (sBig z room (j + 1) F) (fun hfit k' hk' => by
   obtain ⟨g1, g2, g3⟩ := h1 hfit
   rw [hhalf]
   have ih := ih0 (by omega) lv' m' (fun k => F k - (cnt z (4096 * 2 ^ j) : Int) * ((2 ^ (j - k) : Nat) : Int)) g1 (fun i hi => by rw [g3]; exact hr i hi) (fun k hk => by
    left
    have hFk : F k = (freeN m T (2 ^ k) : Int) := by
     rcases hF k (by omega) with h | h
     ·exact h
     ·omega
    have hg := g2 k hk
    show F k - (cnt z (4096 * 2 ^ j) : Int) * ((2 ^ (j - k) : Nat) : Int) = _
    rw [hFk, ← Int.natCast_mul]
    omega) k' (by omega)
   rw [ih, sBig, if_pos (by rw [hFj]; omega)]) (fun hno => by rw [sBig, if_neg (by rw [hFj]; omega)])
  have h4 := l2_count (base := base) (limit := limit) (order := order) (lv := lv) (r := 4096 * 2 ^ j) (H := ((4096 * T : Nat) : Int)) hz (K := (j + 8) * L + 2 + 1700000 + 1) (fun k' hk' => by rw [← hri]; rw [← hri] at h3; exact h3 k' (by omega)) z.length f 0 (by omega) (by omega)
  rw [List.take_zero] at h4
  rw [hri]
  exact h4
end
end Go.Proofs.Ytihfblnjgaalcaa.OL
