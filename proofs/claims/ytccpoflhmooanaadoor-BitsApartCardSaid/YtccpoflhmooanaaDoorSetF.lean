/- Sets as lists of truths and as words: plain; and what the document's own functions (printed) come to. -/
import Derived.Test.YtccpoflhmooanaaDoorSet
namespace Go.Proofs.YtccpoflhmooanaaDoor.SetF
open Go.RowKit Go.Proofs.YtccpoflhmooanaaDoorW.PrintWords Go.Proofs.YtccpoflhmooanaaDoorW.PrintLast Go.Proofs.YtccpoflhmooanaaDoorW.PrintMore Go.Proofs.YtccpoflhmooanaaDoor.Nums Go.Proofs.YtccpoflhmooanaaDoor.NumF Go.Proofs.YtccpoflhmooanaaDoor.Sets Go.Proofs.YtccpoflhmooanaaDoor.R
set_option linter.unusedVariables false
set_option linter.unusedSimpArgs false

/-- Word j; the bit of a number. -/
def wd (ws : List Int) (j : Nat) : Nat := (ws.getD j 0).toNat
def bitN (ws : List Int) (i : Nat) : Bool := (wd ws (i / 64)).testBit (i % 64)
def tbl (n : Nat) (f : Nat → Bool) : List Bool := (List.range n).map f
theorem tbl_length (n : Nat) (f : Nat → Bool) : (tbl n f).length = n := by simp [tbl]
theorem tbl_get (n : Nat) (f : Nat → Bool) (i : Nat) (h : i < n) : (tbl n f).getD i false = f i := by simp [tbl, List.getD_eq_getElem?_getD, h]
theorem tbl_get? (n : Nat) (f : Nat → Bool) (i : Nat) : (tbl n f)[i]? = if i < n then some (f i) else none := by
  unfold tbl
  rw [List.getElem?_map]
  by_cases h : i < n
  · rw [List.getElem?_range h, if_pos h]; rfl
  · rw [if_neg h, List.getElem?_eq_none (by simpa using h)]; rfl
theorem tbl_ext {t : List Bool} {n : Nat} {f : Nat → Bool} (hl : t.length = n) (h : ∀ i, i < n → t.getD i false = f i) : t = tbl n f := by
  apply List.ext_getElem?
  intro i
  rw [tbl_get?]
  by_cases hi : i < n
  · rw [if_pos hi, ← h i hi, List.getD_eq_getElem?_getD, List.getElem?_eq_getElem (by omega)]; rfl
  · rw [if_neg hi, List.getElem?_eq_none (by omega)]
theorem wd_int {ws : List Int} (h : Wd ws) (j : Nat) : ws.getD j 0 = (wd ws j : Int) := by
  have := h j
  unfold wd; omega
theorem wd_lt {ws : List Int} (h : Wd ws) (j : Nat) : wd ws j < 2 ^ 64 := by
  have := h j
  unfold wd; omega
theorem bitN_out {ws : List Int} {i : Nat} (h : ws.length ≤ i / 64) : bitN ws i = false := by
  unfold bitN wd
  rw [List.getD_eq_getElem?_getD, List.getElem?_eq_none h]
  simp
theorem bitI_bitN {ws : List Int} (h : Wd ws) (i : Nat) : bitI ws (i : Int) = bitN ws i := by
  unfold bitI bitN
  rw [show ((i : Int) / 64).toNat = i / 64 by omega, show ((i : Int) % 64).toNat = i % 64 by omega, wd_int h, Nat.testBit_eq_decide_div_mod_eq]
  rw [Bool.eq_iff_iff, beq_iff_eq, decide_eq_true_eq]
  have e : ((2 : Int) ^ (i % 64)) = ((2 ^ (i % 64) : Nat) : Int) := by simp
  rw [e]
  omega

/-! ### the sum of the bits -/
def sumB (f : Nat → Bool) : Nat → Nat
  | 0 => 0
  | m + 1 => sumB f m + if f m then 2 ^ m else 0
theorem sumB_lt (f : Nat → Bool) (m : Nat) : sumB f m < 2 ^ m := by
  induction m with
  | zero => simp [sumB]
  | succ m ih => rw [sumB, Nat.pow_succ]; split <;> omega
theorem sumB_bit (f : Nat → Bool) (m : Nat) : ∀ r, (sumB f m).testBit r = (decide (r < m) && f r) := by
  induction m with
  | zero => intro r; simp [sumB]
  | succ m ih =>
    intro r
    rw [sumB]
    have hl := sumB_lt f m
    cases hf : f m with
    | false =>
      simp only [Bool.false_eq_true, if_false, Nat.add_zero]
      rw [ih r]
      by_cases e : r = m
      · subst e; simp [hf]
      · rw [show decide (r < m) = decide (r < m + 1) by rw [decide_eq_decide]; omega]
    | true =>
      simp only [if_true]
      rw [Nat.add_comm]
      by_cases e : r = m
      · subst e
        rw [Nat.testBit_two_pow_add_eq, Nat.testBit_lt_two_pow hl]; simp [hf]
      · by_cases hr : r < m
        · rw [Nat.testBit_two_pow_add_gt hr, ih r]
          simp [hr, show r < m + 1 by omega]
        · have : 2 ^ m + sumB f m < 2 ^ (m + 1) := by rw [Nat.pow_succ]; omega
          have h2 : 2 ^ (m + 1) ≤ 2 ^ r := Nat.pow_le_pow_right (by omega) (by omega)
          rw [Nat.testBit_lt_two_pow (by omega)]
          simp [show ¬ r < m + 1 by omega]
theorem sumB_self (x : Nat) (hx : x < 2 ^ 64) : sumB x.testBit 64 = x := by
  apply Nat.eq_of_testBit_eq
  intro r
  rw [sumB_bit]
  by_cases h : r < 64
  · simp [h]
  · have h2 : 2 ^ 64 ≤ 2 ^ r := Nat.pow_le_pow_right (by omega) (by omega)
    rw [Nat.testBit_lt_two_pow (by omega)]; simp [h]
theorem sumB_congr {f g : Nat → Bool} {m : Nat} (h : ∀ r, r < m → f r = g r) : sumB f m = sumB g m := by
  induction m with
  | zero => rfl
  | succ m ih => rw [sumB, sumB, ih (fun r hr => h r (by omega)), h m (by omega)]

/-- A set's words, out of its truths. -/
def wordsOf (t : List Bool) : List Int := (List.range ((t.length + 63) / 64)).map fun j => (sumB (fun r => t.getD (64 * j + r) false) 64 : Int)
theorem wordsOf_length (t : List Bool) : (wordsOf t).length = (t.length + 63) / 64 := by simp [wordsOf]
/-- No bit from the length on. -/
def Clean (n : Nat) (ws : List Int) : Prop := ∀ i, n ≤ i → bitN ws i = false
theorem words_back {n : Nat} {ws : List Int} (hw : Wd ws) (hl : ws.length = (n + 63) / 64) (hc : Clean n ws) : wordsOf (tbl n (bitN ws)) = ws := by
  apply List.ext_getElem?
  intro j
  unfold wordsOf
  rw [tbl_length, List.getElem?_map]
  by_cases hj : j < (n + 63) / 64
  · rw [List.getElem?_range hj, List.getElem?_eq_getElem (by omega)]
    simp only [Option.map_some]
    congr 1
    have e : (ws[j]'(by omega) : Int) = (wd ws j : Int) := by
      rw [← wd_int hw j, List.getD_eq_getElem?_getD, List.getElem?_eq_getElem (by omega)]; rfl
    rw [e]
    congr 1
    rw [← sumB_self (wd ws j) (wd_lt hw j)]
    apply sumB_congr
    intro r hr
    by_cases hn : 64 * j + r < n
    · rw [tbl_get _ _ _ hn]
      unfold bitN
      rw [show (64 * j + r) / 64 = j by omega, show (64 * j + r) % 64 = r by omega]
    · have := hc (64 * j + r) (by omega)
      unfold bitN at this
      rw [show (64 * j + r) / 64 = j by omega, show (64 * j + r) % 64 = r by omega] at this
      rw [this, List.getD_eq_getElem?_getD, List.getElem?_eq_none (by rw [tbl_length]; omega)]; rfl
  · rw [List.getElem?_eq_none (by simpa using hj), List.getElem?_eq_none (by omega)]; rfl

/-! ### what Of makes -/
theorem padW_get (k : Nat) (l : List Int) (j : Nat) : (padW k l).getD j 0 = if j < k then l.getD j 0 else 0 := by
  unfold padW
  simp only [List.getD_eq_getElem?_getD]
  rw [List.getElem?_append]
  by_cases h : j < (l.take k).length
  · rw [if_pos h, List.getElem?_take]
    have : j < k := by simp at h; omega
    rw [if_pos this, if_pos this]
  · rw [if_neg h, List.getElem?_replicate]
    simp at h
    by_cases hk : j < k
    · rw [if_pos hk, List.getElem?_eq_none (by omega)]; split <;> rfl
    · rw [if_neg hk, if_neg (by simp; omega)]; rfl
theorem cutW_length (n : Int) (ws : List Int) : (cutW n ws).length = ws.length := by unfold cutW; split <;> simp
theorem cutW_wd {n : Int} {ws : List Int} (h : Wd ws) : Wd (cutW n ws) := by
  unfold cutW
  split
  · exact h
  · exact wd_set h _ _ (mod_wd _ _ (h _))
theorem cutW_get (n : Int) (ws : List Int) (j : Nat) : (cutW n ws).getD j 0 = if n % 64 ≠ 0 ∧ j + 1 = ws.length then ws.getD j 0 % 2 ^ (n % 64).toNat else ws.getD j 0 := by
  unfold cutW
  by_cases h : n % 64 = 0
  · rw [if_pos h, if_neg (by simp [h])]
  · rw [if_neg h]
    simp only [List.getD_eq_getElem?_getD, List.getElem?_set]
    by_cases hj : ws.length - 1 = j
    · by_cases hl : 0 < ws.length
      · rw [if_pos hj, if_pos (by omega), if_pos ⟨h, by omega⟩, hj]; rfl
      · rw [if_pos hj, if_neg (by omega), if_neg (by omega), List.getElem?_eq_none (by omega)]
    · rw [if_neg hj, if_neg (by omega)]
theorem ofW_wd {l : List Int} (h : Wd l) (n : Int) : Wd (ofW l n) := cutW_wd (padW_wd _ _ h)
theorem fitN_nat (n : Int) : ∃ m : Nat, fitN n = m ∧ m ≤ 1048576 := ⟨(fitN n).toNat, by have := fitN_bd n; omega, by have := fitN_bd n; omega⟩
theorem ofW_length (l : List Int) (n : Int) : (ofW l n).length = wdsN n := by unfold ofW; rw [cutW_length, padW_length]
theorem ofW_bit {l : List Int} (h : Wd l) (n : Int) (i : Nat) : bitN (ofW l n) i = (decide ((i : Int) < fitN n) && bitN l i) := by
  obtain ⟨m, hm, hm2⟩ := fitN_nat n
  have hk : wdsN n = (m + 63) / 64 := by unfold wdsN; rw [hm]; omega
  rw [hm, show decide ((i : Int) < (m : Int)) = decide (i < m) by rw [decide_eq_decide]; omega]
  unfold bitN
  have hg : (ofW l n).getD (i / 64) 0 = if (m : Int) % 64 ≠ 0 ∧ i / 64 + 1 = (m + 63) / 64 then (padW ((m + 63) / 64) l).getD (i / 64) 0 % 2 ^ ((m : Int) % 64).toNat else (padW ((m + 63) / 64) l).getD (i / 64) 0 := by
    unfold ofW
    rw [cutW_get, padW_length, hm, hk]
  have hp := padW_get ((m + 63) / 64) l (i / 64)
  unfold wd
  rw [hg]
  by_cases hi : i / 64 < (m + 63) / 64
  · rw [if_pos hi] at hp
    rw [hp, wd_int h]
    by_cases hc : (m : Int) % 64 ≠ 0 ∧ i / 64 + 1 = (m + 63) / 64
    · rw [if_pos hc]
      have e : ((wd l (i / 64) : Int) % 2 ^ ((m : Int) % 64).toNat).toNat = wd l (i / 64) % 2 ^ (m % 64) := by
        rw [show ((m : Int) % 64).toNat = m % 64 by omega]
        have e2 : ((2 : Int) ^ (m % 64)) = ((2 ^ (m % 64) : Nat) : Int) := by simp
        rw [e2]; omega
      rw [e, Nat.testBit_mod_two_pow]
      congr 1
      rw [decide_eq_decide]; omega
    · rw [if_neg hc, Int.toNat_natCast, decide_eq_true (by omega : i < m)]; simp [wd]
  · rw [if_neg hi] at hp
    rw [hp]
    have e : decide (i < m) = false := decide_eq_false (by omega)
    rw [e]
    split <;> simp
theorem ofW_clean {l : List Int} (h : Wd l) (n : Int) (m : Nat) (hm : fitN n = m) : Clean m (ofW l n) := by
  intro i hi
  rw [ofW_bit h, hm, decide_eq_false (by omega)]; rfl
theorem ofW_tbl {l : List Int} (h : Wd l) (n : Int) (m : Nat) (hm : fitN n = m) : tbl m (bitN (ofW l n)) = tbl m (bitN l) := by
  apply List.map_congr_left
  intro i hi
  rw [ofW_bit h, hm, decide_eq_true (by simpa using hi)]; rfl

/-! ### the document's own -/
theorem refFit (n : Int) : croftref1_Fit.f n = some (fitN n) := by
  unfold croftref1_Fit.f fitN mx mn
  by_cases h : n < 0
  · rw [if_pos h]; congr 1; split <;> split <;> omega
  · rw [if_neg h]
    by_cases h2 : n > 1048576
    · rw [if_pos h2]; congr 1; split <;> split <;> omega
    · rw [if_neg h2]; congr 1; split <;> split <;> omega
theorem quo64 (i : Nat) (hi : i < 1048577) : wrap64 (Int.tdiv (i : Int) 64) = ((i / 64 : Nat) : Int) := by
  rw [show Int.tdiv (i : Int) 64 = ((i / 64 : Nat) : Int) by rw [Int.tdiv_eq_ediv_of_nonneg (by omega)]; omega]
  unfold wrap64; omega
theorem rem64 (i : Nat) : Int.tmod (i : Int) 64 = ((i % 64 : Nat) : Int) := (Int.tmod_eq_emod_of_nonneg (by omega)).trans (by omega)
theorem ref_bit {l : List Int} (hw : Wd l) (i : Nat) : (Int.tmod (IntKind.u64.wrap (Int.tdiv (rd l ((i / 64 : Nat) : Int)) ((2 ^ (i % 64) : Nat) : Int))) 2 == 1) = bitN l i := by
  unfold rd bitN
  rw [Int.toNat_natCast, wd_int hw, Nat.testBit_eq_decide_div_mod_eq]
  have hl := wd_lt hw (i / 64)
  have hp : 0 < 2 ^ (i % 64) := Nat.pow_pos (by omega)
  generalize wd l (i / 64) = x at *
  generalize 2 ^ (i % 64) = p at *
  have e1 : Int.tdiv (x : Int) (p : Int) = ((x / p : Nat) : Int) := by rw [Int.tdiv_eq_ediv_of_nonneg (by omega)]; rfl
  have l1 : x / p ≤ x := Nat.div_le_self _ _
  rw [e1, wrapu_nat (by omega)]
  generalize x / p = q at *
  rw [Int.tmod_eq_emod_of_nonneg (by omega), Bool.eq_iff_iff, beq_iff_eq, decide_eq_true_eq]
  omega
theorem refOf_tells {l : List Int} (hw : Wd l) (m : Nat) (hm : m ≤ 1048576) (d : Nat) : ∀ (k i : Nat) (t : List Bool), i + d = m → t.length = m → (∀ j, j < m → t.getD j false = if j < i then bitN l j else false) → d + 70 < k →
    croftref1_Of.l0 k l t (i : Int) = some (tbl m (bitN l)) := by
  induction d with
  | zero =>
    intro k i t hi hl ht hk
    obtain ⟨k, rfl⟩ : ∃ q, k = q + 1 := ⟨k - 1, by omega⟩
    simp only [croftref1_Of.l0]; rw [if_neg (by omega)]
    congr 1
    exact tbl_ext hl (fun j hj => by rw [ht j hj, if_pos (by omega)])
  | succ d ih =>
    intro k i t hi hl ht hk
    obtain ⟨k, rfl⟩ : ∃ q, k = q + 1 := ⟨k - 1, by omega⟩
    simp only [croftref1_Of.l0]; rw [if_pos (by omega), quo64 i (by omega)]
    by_cases hlen : i / 64 < l.length
    · rw [if_pos (by omega), if_pos (by omega), rem64, power_f k (i % 64) (by omega) (by omega)]
      have hp : 0 < 2 ^ (i % 64) := Nat.pow_pos (by omega)
      simp only [Option.bind_some]
      rw [if_neg (by omega), if_pos (by omega), ref_bit hw i, wrap64_id (by omega), Int.toNat_natCast]
      refine ih k (i + 1) _ (by omega) (by simpa using hl) (fun j hj => ?_) (by omega)
      simp only [List.getD_eq_getElem?_getD, List.getElem?_set]
      by_cases e : i = j
      · subst e; rw [if_pos rfl, if_pos (by omega), if_pos (by omega)]; rfl
      · rw [if_neg e]
        have := ht j hj
        rw [List.getD_eq_getElem?_getD] at this
        rw [this]
        by_cases h1 : j < i
        · rw [if_pos h1, if_pos (by omega)]
        · rw [if_neg h1, if_neg (by omega)]
    · rw [if_neg (by omega)]
      congr 1
      refine tbl_ext hl (fun j hj => ?_)
      rw [ht j hj]
      by_cases h1 : j < i
      · rw [if_pos h1]
      · rw [if_neg h1, bitN_out (by omega)]
theorem refOf {l : List Int} (hw : Wd l) (n : Int) (m : Nat) (hm : fitN n = m) (k : Nat) (hk : 1048700 < k) : croftref1_Of.f k l n = some (tbl m (bitN l)) := by
  have hb := fitN_bd n
  unfold croftref1_Of.f
  rw [refFit, hm]
  simp only [Option.bind_some]
  rw [if_pos (by omega), Int.toNat_natCast, if_pos (by omega)]
  exact refOf_tells hw m (by omega) m k 0 _ (by omega) (by simp) (fun j hj => by rw [if_neg (by omega), List.getD_eq_getElem?_getD, List.getElem?_replicate, if_pos hj]; rfl) (by omega)

theorem refWords_tells (t : List Bool) (hm : t.length ≤ 1048576) (d : Nat) : ∀ (k i : Nat) (l : List Int), i + d = t.length → l.length = (t.length + 63) / 64 →
    (∀ j, j < (t.length + 63) / 64 → l.getD j 0 = (sumB (fun r => t.getD (64 * j + r) false) (min 64 (i - 64 * j)) : Int)) → d + 70 < k →
    croftref1_Words.l0 k t l (i : Int) = some (wordsOf t) := by
  induction d with
  | zero =>
    intro k i l hi hl ht hk
    obtain ⟨k, rfl⟩ : ∃ q, k = q + 1 := ⟨k - 1, by omega⟩
    simp only [croftref1_Words.l0]; rw [if_neg (by omega)]
    congr 1
    apply List.ext_getElem?
    intro j
    unfold wordsOf
    rw [List.getElem?_map]
    by_cases hj : j < (t.length + 63) / 64
    · have := ht j hj
      rw [List.getD_eq_getElem?_getD, List.getElem?_eq_getElem (by omega)] at this
      rw [List.getElem?_range hj, List.getElem?_eq_getElem (by omega)]
      simp only [Option.map_some, Option.getD_some] at this ⊢
      rw [this]
      congr 2
      by_cases h64 : 64 ≤ i - 64 * j
      · rw [Nat.min_eq_left h64]
      · rw [Nat.min_eq_right (by omega)]
        apply Nat.eq_of_testBit_eq
        intro r
        rw [sumB_bit, sumB_bit]
        by_cases h1 : r < i - 64 * j
        · simp [h1, show r < 64 by omega]
        · rw [List.getD_eq_getElem?_getD, List.getElem?_eq_none (by omega)]; simp
    · rw [List.getElem?_eq_none (by rw [hl]; omega), List.getElem?_eq_none (by simpa using hj)]; rfl
  | succ d ih =>
    intro k i l hi hl ht hk
    obtain ⟨k, rfl⟩ : ∃ q, k = q + 1 := ⟨k - 1, by omega⟩
    simp only [croftref1_Words.l0]; rw [if_pos (by omega), if_pos (by omega)]
    have er : rdOf false t (i : Int) = t.getD i false := by unfold rdOf; rw [Int.toNat_natCast]
    rw [er, quo64 i (by omega)]
    have step : ∀ j, j ≠ i / 64 → min 64 (i + 1 - 64 * j) = min 64 (i - 64 * j) := fun j hj => by omega
    have here : min 64 (i - 64 * (i / 64)) = i % 64 ∧ min 64 (i + 1 - 64 * (i / 64)) = i % 64 + 1 := by omega
    cases hb : t.getD i false with
    | false =>
      simp only [Bool.false_eq_true, if_false]
      rw [wrap64_id (by omega)]
      refine ih k (i + 1) l (by omega) hl (fun j hj => ?_) (by omega)
      rw [ht j hj]
      by_cases e : j = i / 64
      · subst e
        rw [here.1, here.2, sumB]
        rw [show 64 * (i / 64) + i % 64 = i by omega, hb]; simp
      · rw [step j e]
    | true =>
      simp only [if_true]
      have h0 := ht (i / 64) (by omega)
      rw [here.1] at h0
      rw [if_pos (by omega), if_pos (by omega), rem64, power_f k (i % 64) (by omega) (by omega)]
      simp only [Option.bind_some]
      have e1 : rd l ((i / 64 : Nat) : Int) = l.getD (i / 64) 0 := by unfold rd; rw [Int.toNat_natCast]
      rw [wrap64_id (by omega), Int.toNat_natCast, e1, h0]
      have hs := sumB_lt (fun r => t.getD (64 * (i / 64) + r) false) (i % 64)
      have hp : 2 ^ (i % 64) < 2 ^ 64 := Nat.pow_lt_pow_right (by omega) (by omega)
      have hp2 : 2 ^ (i % 64) ≤ 2 ^ 63 := Nat.pow_le_pow_right (by omega) (by omega)
      refine ih k (i + 1) _ (by omega) (by simpa using hl) (fun j hj => ?_) (by omega)
      rw [List.getD_eq_getElem?_getD, List.getElem?_set]
      by_cases e : i / 64 = j
      · subst e
        rw [if_pos rfl, if_pos (by omega), here.2, sumB, show 64 * (i / 64) + i % 64 = i by omega, hb]
        simp only [if_true, Option.getD_some]
        rw [← Int.natCast_add]
        exact wrapu_nat (by omega)
      · rw [if_neg e, step j (fun h => e h.symm)]
        have := ht j hj
        rw [List.getD_eq_getElem?_getD] at this
        exact this
theorem refWords (t : List Bool) (hm : t.length ≤ 1048576) (k : Nat) (hk : 1048700 < k) : croftref1_Words.f k t = some (wordsOf t) := by
  unfold croftref1_Words.f
  have e : wrap64 (Int.tdiv (wrap64 ((t.length : Int) + 63)) 64) = (((t.length + 63) / 64 : Nat) : Int) := by
    rw [show wrap64 ((t.length : Int) + 63) = ((t.length + 63 : Nat) : Int) by unfold wrap64; omega, Int.tdiv_eq_ediv_of_nonneg (by omega)]
    unfold wrap64; omega
  rw [e, if_pos (by omega), Int.toNat_natCast, if_pos (by omega)]
  refine refWords_tells t hm t.length k 0 _ (by omega) (by simp) (fun j hj => ?_) (by omega)
  rw [show min 64 (0 - 64 * j) = 0 by omega]
  simp [List.getD_eq_getElem?_getD, sumB]
  rw [List.getElem?_replicate]; split <;> rfl
theorem refSame_tells (a b : List Int) (hl : a.length = b.length) (hb : a.length ≤ 1048576) (d : Nat) : ∀ (k i : Nat), i + d = a.length → (∀ j, j < i → a.getD j 0 = b.getD j 0) → d < k → croftref1_Same.l0 k a b (i : Int) = some (decide (a = b)) := by
  induction d with
  | zero =>
    intro k i hi ht hk
    obtain ⟨k, rfl⟩ : ∃ q, k = q + 1 := ⟨k - 1, by omega⟩
    simp only [croftref1_Same.l0]; rw [if_neg (by omega)]
    congr 1
    symm
    rw [decide_eq_true_eq]
    apply List.ext_getElem hl
    intro j h1 h2
    have := ht j (by omega)
    simpa [List.getD_eq_getElem?_getD, h1, h2] using this
  | succ d ih =>
    intro k i hi ht hk
    obtain ⟨k, rfl⟩ : ∃ q, k = q + 1 := ⟨k - 1, by omega⟩
    simp only [croftref1_Same.l0]; rw [if_pos (by omega), if_pos (by omega), if_pos (by omega)]
    have e1 : rd a (i : Int) = a.getD i 0 := by unfold rd; rw [Int.toNat_natCast]
    have e2 : rd b (i : Int) = b.getD i 0 := by unfold rd; rw [Int.toNat_natCast]
    rw [e1, e2]
    by_cases e : a.getD i 0 = b.getD i 0
    · rw [if_pos e, wrap64_id (by omega)]
      refine ih k (i + 1) (by omega) (fun j hj => ?_) (by omega)
      by_cases h : j = i
      · rw [h]; exact e
      · exact ht j (by omega)
    · rw [if_neg e]
      congr 1
      symm
      rw [decide_eq_false_iff_not]
      rintro rfl
      exact e rfl
theorem refSame (a b : List Int) (hb : a.length ≤ 1048576) (k : Nat) (hk : 1048700 < k) : croftref1_Same.f k a b = some (decide (a = b)) := by
  unfold croftref1_Same.f
  by_cases h : a.length = b.length
  · rw [if_pos (by omega)]
    exact refSame_tells a b h hb a.length k 0 (by omega) (fun j hj => by omega) (by omega)
  · rw [if_neg (by omega)]
    congr 1
    symm
    rw [decide_eq_false_iff_not]
    rintro rfl
    exact h rfl
/-- Of's words are the document's. -/
theorem ref_words_of {l : List Int} (hw : Wd l) (n : Int) (m : Nat) (hm : fitN n = m) : wordsOf (tbl m (bitN l)) = ofW l n := by
  rw [← ofW_tbl hw n m hm]
  refine words_back (ofW_wd hw n) ?_ (ofW_clean hw n m hm)
  rw [ofW_length]
  unfold wdsN
  rw [hm]; omega
end Go.Proofs.YtccpoflhmooanaaDoor.SetF
