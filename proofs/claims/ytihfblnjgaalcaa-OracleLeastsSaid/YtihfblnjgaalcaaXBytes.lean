/- The bytes of blocks, by pages; what NoFit says of them. -/
import Derived.Test.YtihfblnjgaalcaaXInv
namespace Go.Proofs.Ytihfblnjgaalcaa.OV
open Go Go.RowKit Go.Proofs.Ytihfblnjgaalcaa.R Go.Proofs.Ytihfblnjgaalcaa.OM Go.Proofs.Ytihfblnjgaalcaa.OP Go.Proofs.Ytihfblnjgaalcaa.OB Go.Proofs.Ytihfblnjgaalcaa.OS Go.Proofs.Ytihfblnjgaalcaa.OW Go.Proofs.Ytihfblnjgaalcaa.ON Go.Proofs.Ytihfblnjgaalcaa.OC
set_option linter.unusedVariables false
set_option linter.unusedSimpArgs false
theorem sumR_add {f g : Nat → Int} : ∀ n, sumR (fun x => f x + g x) n = sumR f n + sumR g n
 | 0 => rfl
 | n + 1 => by rw [sumR, sumR, sumR, sumR_add n]; omega
theorem sumR_zero : ∀ n, sumR (fun _ => 0) n = 0
 | 0 => rfl
 | n + 1 => by rw [sumR, sumR_zero n]; rfl
theorem sumR_span (q k : Nat) : ∀ n, sumR (fun x => if q ≤ x ∧ x < q + k then 4096 else 0) n = 4096 * ((min n (q + k) - q : Nat) : Int)
 | 0 => by simp [sumR]
 | n + 1 => by
  rw [sumR, sumR_span q k n]
  split <;> omega
/-- What a block adds to a page's bytes. -/
def plusAt (base : Int) (b : S55) (x : Nat) : Int := if onP base b (x : Int) then (if b.f1 < 4096 then b.f1 else 4096) else 0
theorem plus_sum {base limit order n : Int} {b : S55} (hm : mayB base limit order = true) (h0 : 0 ≤ n) (hn : n ≤ limit) (hw : 0 ≤ b.f1 ∧ b.f1 < 18446744073709551616) (h : okB base order n b = true) : sumR (plusAt base b) 1024 = b.f1 := by
 have hp := page_bd hm h0 hn h
 obtain ⟨q, hq⟩ := Int.eq_ofNat_of_zero_le hp.1
 have hq1 : q < 1024 := by omega
 by_cases hs : b.f1 < 4096
 ·have he : ∀ x : Nat, plusAt base b x = if x = q then b.f1 else 0 := by
   intro x
   have hon : onP base b (x : Int) ↔ x = q := by unfold onP; rw [if_pos hs, hq]; omega
   unfold plusAt
   rw [if_pos hs]
   by_cases e : x = q
   ·rw [if_pos (hon.2 e), if_pos e]
   ·rw [if_neg (fun h2 => e (hon.1 h2)), if_neg e]
  rw [sumR_upd (f := fun _ => 0) (y := q) 1024 hq1 (fun x hx hne => by rw [he x, if_neg hne]), sumR_zero, he q, if_pos rfl]
  omega
 ·obtain ⟨p1, p2, p3, ex, e1, e2, e3⟩ := ok_place hm h0 hn hw h
  have h4 : 2 ^ 12 ≤ 2 ^ ex := by omega
  have h5 : 12 ≤ ex := (Nat.pow_le_pow_iff_right (a := 2) (by decide)).1 h4
  have h6 : b.f1 % 4096 = 0 := by
   rw [e3, show ex = 12 + (ex - 12) by omega, Nat.pow_add, Int.natCast_mul]
   exact Int.mul_emod_right _ _
  have hb := may_bytes hm h0 hn
  obtain ⟨k, hk⟩ := Int.eq_ofNat_of_zero_le (show 0 ≤ b.f1 / 4096 by omega)
  have he : ∀ x : Nat, plusAt base b x = if q ≤ x ∧ x < q + k then 4096 else 0 := by
   intro x
   have hon : onP base b (x : Int) ↔ q ≤ x ∧ x < q + k := by unfold onP; rw [if_neg hs, hq, hk]; omega
   unfold plusAt
   rw [if_neg hs]
   by_cases e : q ≤ x ∧ x < q + k
   ·rw [if_pos (hon.2 e), if_pos e]
   ·rw [if_neg (fun h2 => e (hon.1 h2)), if_neg e]
  rw [show plusAt base b = (fun x => if q ≤ x ∧ x < q + k then (4096 : Int) else 0) from funext he, sumR_span]
  unfold pageOf at hq
  omega
theorem byte_add {b : S55} {o : Option Lot} {m m' : PM} {x : Nat} (h : m' (x : Int) = addL b (m (x : Int))) (hs : (addL b (m (x : Int))).isSome = true) : byteAt m' x = byteAt m x + (if b.f1 < 4096 then b.f1 else 4096) := by
 unfold byteAt
 rw [h]
 cases hm : m (x : Int) with
 | none =>
  simp only [addL]
  by_cases hz : b.f1 < 4096
  ·rw [if_pos hz, if_pos hz]; simp
  ·rw [if_neg hz, if_neg hz]; simp
 | some lt =>
  cases lt with
  | great s => rw [hm] at hs; simp [addL] at hs
  | small z cs q =>
   rw [hm] at hs
   simp only [addL] at hs ⊢
   by_cases hc : b.f1 < 4096 ∧ z = b.f1 ∧ (cs b.f0).isSome = false
   ·rw [if_pos hc, if_pos hc.1]
    simp only
    rw [← hc.2.1, show ((q + 1 : Nat) : Int) = (q : Int) + 1 by omega, Int.add_mul, Int.one_mul]
   ·rw [if_neg hc] at hs; cases hs
theorem step_bytes {base limit order n : Int} {m m' : PM} {b : S55} (hm : mayB base limit order = true) (h0 : 0 ≤ n) (hn : n ≤ limit) (hw : 0 ≤ b.f1 ∧ b.f1 < 18446744073709551616) (hs : OP.step base order n m b = some m') : sumR (byteAt m') 1024 = sumR (byteAt m) 1024 + b.f1 := by
 obtain ⟨hok, hp, rfl⟩ := (step_iff hw.1).1 hs
 rw [← plus_sum hm h0 hn hw hok, ← sumR_add]
 refine sumR_congr 1024 (fun x _ => ?_)
 unfold plusAt
 by_cases hx : onP base b (x : Int)
 ·rw [if_pos hx]
  exact byte_add (o := none) (by unfold addAll; rw [if_pos hx]) (hp _ hx)
 ·rw [if_neg hx]
  unfold byteAt addAll
  rw [if_neg hx]; omega
theorem run_bytes {base limit order n : Int} (hm : mayB base limit order = true) (h0 : 0 ≤ n) (hn : n ≤ limit) : ∀ (l : List S55) (m m' : PM), OP.Wd l → run base order n m l = some m' → sumR (byteAt m') 1024 = sumR (byteAt m) 1024 + total l
 | [], m, m', _, hr => by
  have e : m = m' := Option.some.inj hr
  rw [← e, show total [] = 0 from rfl, Int.add_zero]
 | b :: l, m, m', hw, hr => by
  obtain ⟨m1, h1, h2⟩ := run_cons.1 hr
  rw [run_bytes hm h0 hn l m1 m' (fun c hc => hw c (List.mem_cons_of_mem _ hc)) h2, step_bytes hm h0 hn (hw b (List.mem_cons_self ..)).2 h1]
  simp only [total]; omega
theorem bytes_none : ∀ n, sumR (byteAt PM.none) n = 0
 | 0 => rfl
 | n + 1 => by rw [sumR, bytes_none n]; rfl
theorem byte_bd {base : Int} {l : List S55} {m : PM} (h : Tells base l m) (x : Nat) : 0 ≤ byteAt m x ∧ byteAt m x ≤ 4096 := by
 have hx := h (x : Int)
 unfold byteAt
 cases hm : m (x : Int) with
 | none => simp
 | some lt =>
  cases lt with
  | great s => simp
  | small z cs q =>
   rw [hm] at hx
   obtain ⟨h8, h1, h2, h3, h4, h5⟩ := hx
   have hc := cells_le base (x : Int) z cs
   simp only
   rw [h5]
   rcases h8 with rfl | rfl | rfl | rfl | rfl | rfl | rfl | rfl <;> simp at hc ⊢ <;> omega
end Go.Proofs.Ytihfblnjgaalcaa.OV
