/- The reference's Of, Meet, page and Sound, plain. -/
import Derived.Test.YtihfblnjgaalcaaRD3
import Derived.Test.YtihfblnjgaalcaaXConf
import Derived.Test.YtihfblnjgaalcaaXLists
namespace Go.Proofs.Ytihfblnjgaalcaa.OX
open Go Go.RowKit Go.Proofs.Ytihfblnjgaalcaa.R Go.Proofs.Ytihfblnjgaalcaa.OP Go.Proofs.Ytihfblnjgaalcaa.OB Go.Proofs.Ytihfblnjgaalcaa.OV
set_option linter.unusedVariables false
set_option linter.unusedSimpArgs false
theorem sR_f (base limit : Int) {order : Int} (h0 : 0 ≤ order) (h8 : order ≤ 8) : croftref11_R.f base limit order = some (RR order) := by
 unfold croftref11_R.f
 rw [u64_in h0 (by omega), if_pos h0, shl_R h0 h8]
theorem sPower_f (s : Int) : croftref11_Power.f s = some (powB s) := by
 unfold croftref11_Power.f powB; split <;> rfl
theorem sMay_f (k : Nat) {base limit order : Int} (hb0 : 0 ≤ base) (hb : base < 18446744073709551616) : croftref11_May.f (k + 1) base limit order = some (mayB base limit order) := by
 have ht : croftref11_May.j0 (k + 1) true base limit order = some false := by
  rw [croftref11_May.j0, if_pos rfl]
 unfold croftref11_May.f mayB
 by_cases h0 : order < 0
 ·rw [if_pos h0, ht]; simp; omega
 rw [if_neg h0]
 by_cases h8 : order > 8
 ·rw [if_pos h8, ht]; simp; omega
 rw [if_neg h8]
 by_cases h1 : limit < 1
 ·rw [if_pos h1, ht]; simp; omega
 rw [if_neg h1]
 by_cases h2 : limit > 64
 ·rw [if_pos h2, ht]; simp; omega
 rw [if_neg h2, u64_in (x := order) (by omega) (by omega), if_pos (by omega), shl_lim (by omega) (by omega) (by omega) (by omega)]
 have e0 : decide (0 ≤ order) = true := decide_eq_true (by omega)
 have e1 : decide (order ≤ 8) = true := decide_eq_true (by omega)
 have e2 : decide (1 ≤ limit) = true := decide_eq_true (by omega)
 have e3 : decide (limit ≤ 64) = true := decide_eq_true (by omega)
 rw [e0, e1, e2, e3]
 simp only [Bool.true_and]
 have hR := RR_bd (order := order) (by omega) (by omega)
 by_cases h3 : limit * 2 ^ order.toNat > 1024
 ·rw [decide_eq_true h3, ht]; simp; omega
 rw [decide_eq_false h3, decide_eq_true (show limit * 2 ^ order.toNat ≤ 1024 by omega)]
 simp only [croftref11_May.j0]
 rw [if_neg (by decide), sR_f base limit (by omega) (by omega)]
 simp only [Option.bind_some, Bool.true_and]
 by_cases h4 : base = 0
 ·rw [if_pos h4]; simp [h4]
 rw [if_neg h4, if_neg (by omega), Int.tmod_eq_emod_of_nonneg hb0]
 have hm : limit * RR order = 4096 * (limit * 2 ^ order.toNat) := by unfold RR; rw [← Int.mul_assoc, Int.mul_comm limit 4096, Int.mul_assoc]
 have hp : (0 : Int) ≤ 2 ^ order.toNat := Int.pow_nonneg (by decide)
 have hl : 0 ≤ limit * 2 ^ order.toNat := Int.mul_nonneg (by omega) hp
 by_cases h5 : base % RR order = 0
 ·rw [if_pos h5]
  have h4' : decide (base ≠ 0) = true := decide_eq_true h4
  have h5' : decide (base % RR order = 0) = true := decide_eq_true h5
  by_cases h6 : base > 9223372036854775808
  ·rw [if_pos h6, h4', h5', decide_eq_false (by omega)]; rfl
  ·rw [if_neg h6, u64_in (x := limit) (by omega) (by omega), u64_in (x := limit * RR order) (by omega) (by omega), u64_in (by omega) (by omega), h4', h5']
   simp only [Bool.true_and]
   congr 1
   rw [decide_eq_decide]
   omega
 ·rw [if_neg h5]; simp [h5]
theorem of_f {base limit order n p s : Int} (hm : mayB base limit order = true) (h0 : 0 ≤ n) (hn : n ≤ limit) (hb : 0 ≤ base) (hp : 0 ≤ p ∧ p < 18446744073709551616) (hs : 0 ≤ s ∧ s < 18446744073709551616) :
  croftref11_Of.f base limit order n p s = some (okB base order n ⟨p, s⟩) := by
 obtain ⟨o0, o8, l1, l64, -⟩ := mayB_iff.1 hm
 have hR := RR_bd o0 o8
 have hB := may_bytes hm h0 hn
 unfold croftref11_Of.f okB sizeB
 rw [sPower_f, sR_f base limit o0 o8]
 simp only [Option.bind_some]
 cases hpw : powB s with
 | false => simp
 | true =>
  rw [if_pos rfl, Bool.true_and]
  by_cases h16 : s < 16
  ·rw [if_pos h16, decide_eq_false (by omega)]; simp
  rw [if_neg h16, decide_eq_true (show 16 ≤ s by omega), Bool.true_and]
  by_cases hsR : s > RR order
  ·rw [if_pos hsR, decide_eq_false (by omega)]; simp
  rw [if_neg hsR, decide_eq_true (show s ≤ RR order by omega), Bool.true_and, if_neg (by omega), Int.tmod_eq_emod_of_nonneg hp.1]
  by_cases hal : p % s = 0
  ·rw [if_pos hal, decide_eq_true hal, Bool.true_and]
   by_cases hpb : p < base
   ·rw [if_pos hpb, decide_eq_false (by omega)]; simp
   ·rw [if_neg hpb, decide_eq_true (show base ≤ p by omega), Bool.true_and, u64_in (x := n) h0 (by omega), u64_in (x := n * RR order) hB.1 (by omega), u64_in (x := p - base) (by omega) (by omega)]
  ·rw [if_neg hal, decide_eq_false hal]; simp
theorem meet_f {a0 a1 b0 b1 : Int} (ha : 0 ≤ a0 ∧ 0 ≤ a1 ∧ a0 + a1 < 18446744073709551616) (hb : 0 ≤ b0 ∧ 0 ≤ b1 ∧ b0 + b1 < 18446744073709551616) : croftref11_Meet.f a0 a1 b0 b1 = some (decide (meetP ⟨a0, a1⟩ ⟨b0, b1⟩)) := by
 unfold croftref11_Meet.f
 have e : meetP ⟨a0, a1⟩ ⟨b0, b1⟩ ↔ a0 < b0 + b1 ∧ b0 < a0 + a1 := Iff.rfl
 rw [u64_in (x := b0 + b1) (by omega) (by omega)]
 by_cases h1 : a0 < b0 + b1
 ·rw [if_pos h1, u64_in (x := a0 + a1) (by omega) (by omega)]
  congr 1
  rw [decide_eq_decide, e]
  omega
 ·rw [if_neg h1, decide_eq_false]
  rw [e]; omega
theorem page_f {base limit order p s : Int} (hb : 0 ≤ base) (hp : base ≤ p ∧ p < 18446744073709551616) : croftref11_page.f base limit order p = some (pageOf base ⟨p, s⟩) := by
 unfold croftref11_page.f
 show _ = some ((p - base) / 4096)
 rw [u64_in (x := p - base) (by omega) (by omega), Int.tdiv_eq_ediv_of_nonneg (by omega), u64_in (x := (p - base) / 4096) (by omega) (by omega)]
 congr 1
 unfold wrap64
 omega
/-- Where a block that is one lies. -/
theorem ok_end {base limit order n : Int} {b : S55} (hm : mayB base limit order = true) (h0 : 0 ≤ n) (hn : n ≤ limit) (hw : 0 ≤ b.f1 ∧ b.f1 < 18446744073709551616) (h : okB base order n b = true) : base ≤ b.f0 ∧ 16 ≤ b.f1 ∧ b.f0 + b.f1 < 18446744073709551616 := by
 obtain ⟨hsz, hal, hb, hlt⟩ := okB_iff.1 h
 obtain ⟨hpw, h16, hR⟩ := sizeB_iff.1 hsz
 obtain ⟨o0, o8, l1, l64, -, -, -, hbl⟩ := mayB_iff.1 hm
 have hRb := RR_bd o0 o8
 have hB := may_bytes hm h0 hn
 have hB2 := may_bytes hm (show 0 ≤ limit by omega) (Int.le_refl _)
 omega
/-- A block of the list, by its number. -/
def el (l : List S49) (i : Nat) : S55 := ⟨(rd_T49 l (i : Int)).f0, (rd_T49 l (i : Int)).f1⟩
theorem el_get {l : List S49} {i : Nat} (h : i < l.length) : el l i = cv1 l[i] := by
 unfold el; rw [rd49 h]; rfl
theorem el_wd {l : List S49} (hw : Wd49 l) {i : Nat} (h : i < l.length) : (0 ≤ (el l i).f0 ∧ (el l i).f0 < 18446744073709551616) ∧ (0 ≤ (el l i).f1 ∧ (el l i).f1 < 18446744073709551616) := by
 rw [el_get h]; exact hw _ (List.getElem_mem h)
theorem el_take {l : List S49} {i : Nat} (h : i ≤ l.length) {a : S55} : a ∈ cv (l.take i) ↔ ∃ m, m < i ∧ a = el l m := by
 unfold cv
 constructor
 ·intro ha
  obtain ⟨b, hb, rfl⟩ := List.mem_map.1 ha
  obtain ⟨m, hm, rfl⟩ := List.mem_iff_getElem.1 hb
  rw [List.length_take] at hm
  refine ⟨m, by omega, ?_⟩
  rw [List.getElem_take, el_get (by omega)]
 ·rintro ⟨m, hm, rfl⟩
  have hl : m < l.length := by omega
  rw [el_get hl]
  refine List.mem_map.2 ⟨l[m], List.mem_iff_getElem.2 ⟨m, ?_, ?_⟩, rfl⟩
  ·rw [List.length_take]; omega
  ·rw [List.getElem_take]
theorem cv_drop {l : List S49} {i : Nat} (h : i < l.length) : cv (l.drop i) = el l i :: cv (l.drop (i + 1)) := by
 rw [List.drop_eq_getElem_cons h, el_get h]; rfl
theorem cv_snoc {l : List S49} {i : Nat} (h : i < l.length) : cv (l.take i) ++ [el l i] = cv (l.take (i + 1)) := take_snoc h
/-- The inner loop: does an elder block conflict? -/
theorem ref_l1 {base limit order n : Int} {l : List S49} (hm : mayB base limit order = true) (h0 : 0 ≤ n) (hn : n ≤ limit) (hb : 0 ≤ base) (hw : Wd49 l) (hl : l.length ≤ 8796093021952) {i K : Nat} (hi : i < l.length) (hok : ∀ m, m ≤ i → okB base order n (el l m) = true) {V : Int}
  (hV : ∀ k, K ≤ k → croftref11_Sound.l0 k n l (((i + 1 : Nat)) : Int) base limit order = some V) (d : Nat) :
  ∀ (k j : Nat), j + d = i → K + d < k → croftref11_Sound.l1 k n l (i : Int) (j : Int) base limit order = some (if ∀ m, m < i → j ≤ m → ¬ conf base (el l i) (el l m) then V else (i : Int)) := by
 have hei := ok_end hm h0 hn (el_wd hw hi).2 (hok i (Nat.le_refl _))
 have hwi := el_wd hw hi
 induction d with
 | zero =>
  intro k j hj hk
  obtain ⟨k, rfl⟩ : ∃ m, k = m + 1 := ⟨k - 1, by omega⟩
  obtain rfl : j = i := hj
  rw [croftref11_Sound.l1, if_neg (by omega), inc64 (by omega), hV k (by omega), if_pos (fun m h1 h2 => by omega)]
 | succ d ih =>
  intro k j hj hk
  obtain ⟨k, rfl⟩ : ∃ m, k = m + 1 := ⟨k - 1, by omega⟩
  have hjl : j < l.length := by omega
  have hej := ok_end hm h0 hn (el_wd hw hjl).2 (hok j (by omega))
  have hwj := el_wd hw hjl
  have hnext := ih k (j + 1) (by omega) (by omega)
  have hif : ∀ (hc : ¬ conf base (el l i) (el l j)), (if ∀ m, m < i → j + 1 ≤ m → ¬ conf base (el l i) (el l m) then V else (i : Int)) = (if ∀ m, m < i → j ≤ m → ¬ conf base (el l i) (el l m) then V else (i : Int)) := by
   intro hc
   by_cases hall : ∀ m, m < i → j + 1 ≤ m → ¬ conf base (el l i) (el l m)
   ·rw [if_pos hall, if_pos]
    intro m h1 h2
    by_cases e : m = j
    ·rw [e]; exact hc
    ·exact hall m h1 (by omega)
   ·rw [if_neg hall, if_neg]
    intro h
    exact hall fun m h1 h2 => h m h1 (by omega)
  have hbad : ∀ (hc : conf base (el l i) (el l j)), (if ∀ m, m < i → j ≤ m → ¬ conf base (el l i) (el l m) then V else (i : Int)) = (i : Int) := fun hc => if_neg fun h => h j (by omega) (Nat.le_refl _) hc
  rw [croftref11_Sound.l1, if_pos (by omega), if_pos (by omega), if_pos (by omega), if_pos (by omega), if_pos (by omega)]
  have hmf := meet_f (a0 := (el l i).f0) (a1 := (el l i).f1) (b0 := (el l j).f0) (b1 := (el l j).f1) (by omega) (by omega)
  have hpi := page_f (limit := limit) (order := order) (s := (el l i).f1) hb (show base ≤ (el l i).f0 ∧ (el l i).f0 < 18446744073709551616 by omega)
  have hpj := page_f (limit := limit) (order := order) (s := (el l j).f1) hb (show base ≤ (el l j).f0 ∧ (el l j).f0 < 18446744073709551616 by omega)
  change croftref11_Meet.f (rd_T49 l (i : Int)).f0 (rd_T49 l (i : Int)).f1 (rd_T49 l (j : Int)).f0 (rd_T49 l (j : Int)).f1 = some (decide (meetP (el l i) (el l j))) at hmf
  change croftref11_page.f base limit order (rd_T49 l (i : Int)).f0 = some (pageOf base (el l i)) at hpi
  change croftref11_page.f base limit order (rd_T49 l (j : Int)).f0 = some (pageOf base (el l j)) at hpj
  rw [hmf, Option.bind_some, hpi, hpj, inc64 (by omega), hnext]
  simp only [Option.bind_some]
  have hc : conf base (el l i) (el l j) ↔ (meetP (el l i) (el l j) ∨ ((el l i).f1 < 4096 ∧ (el l j).f1 < 4096 ∧ (el l i).f1 ≠ (el l j).f1 ∧ pageOf base (el l i) = pageOf base (el l j))) := Iff.rfl
  by_cases hmt : meetP (el l i) (el l j)
  ·rw [decide_eq_true hmt, if_pos rfl, hbad (hc.2 (Or.inl hmt))]
  rw [decide_eq_false hmt, if_neg (by decide)]
  change (if (el l i).f1 < 4096 then _ else _) = _
  by_cases hsi : (el l i).f1 < 4096
  ·rw [if_pos hsi]
   change (if (el l j).f1 < 4096 then _ else _) = _
   by_cases hsj : (el l j).f1 < 4096
   ·rw [if_pos hsj]
    change (if (el l i).f1 = (el l j).f1 then _ else _) = _
    by_cases heq : (el l i).f1 = (el l j).f1
    ·rw [if_pos heq, hif (fun h => by rcases hc.1 h with h | h; exact hmt h; exact h.2.2.1 heq)]
    ·rw [if_neg heq]
     by_cases hpg : pageOf base (el l i) = pageOf base (el l j)
     ·rw [if_pos hpg, hbad (hc.2 (Or.inr ⟨hsi, hsj, heq, hpg⟩))]
     ·rw [if_neg hpg, hif (fun h => by rcases hc.1 h with h | h; exact hmt h; exact hpg h.2.2.2)]
   ·rw [if_neg hsj, hif (fun h => by rcases hc.1 h with h | h; exact hmt h; exact hsj h.2.1)]
  ·rw [if_neg hsi, hif (fun h => by rcases hc.1 h with h | h; exact hmt h; exact hsi h.1)]
theorem ref_l0 {base limit order n : Int} {l : List S49} (hm : mayB base limit order = true) (h0 : 0 ≤ n) (hn : n ≤ limit) (hb : 0 ≤ base) (hw : Wd49 l) (hl : l.length ≤ 8796093021952) (d : Nat) :
  ∀ (i : Nat), i + d = l.length → (∀ m, m < i → okB base order n (el l m) = true) → ∀ k, d * (l.length + 2) < k → croftref11_Sound.l0 k n l (i : Int) base limit order = some (refScan base order n (cv (l.take i)) (cv (l.drop i)) (i : Int)) := by
 induction d with
 | zero =>
  intro i hi hok k hk
  obtain ⟨k, rfl⟩ : ∃ m, k = m + 1 := ⟨k - 1, by omega⟩
  obtain rfl : i = l.length := hi
  rw [croftref11_Sound.l0, if_neg (by omega), List.drop_length]
  rfl
 | succ d ih =>
  intro i hi hok k hk
  obtain ⟨k, rfl⟩ : ∃ m, k = m + 1 := ⟨k - 1, by omega⟩
  have hil : i < l.length := by omega
  rw [Nat.succ_mul] at hk
  rw [croftref11_Sound.l0, if_pos (by omega), if_pos (by omega)]
  have hof := of_f hm h0 hn hb (el_wd hw hil).1 (el_wd hw hil).2
  change croftref11_Of.f base limit order n (rd_T49 l (i : Int)).f0 (rd_T49 l (i : Int)).f1 = some (okB base order n (el l i)) at hof
  rw [hof, Option.bind_some, cv_drop hil]
  simp only [refScan]
  by_cases hok1 : okB base order n (el l i) = true
  ·have hok' : ∀ m, m ≤ i → okB base order n (el l m) = true := fun m hm => by
    by_cases e : m = i
    ·rw [e]; exact hok1
    ·exact hok m (by omega)
   rw [if_pos hok1]
   have hz := ref_l1 hm h0 hn hb hw hl hil hok' (fun k hk => ih (i + 1) (by omega) (fun m hm => hok' m (by omega)) k hk) i k 0 (by omega) (K := d * (l.length + 2) + 1) (by omega)
   rw [show ((0 : Nat) : Int) = 0 from rfl] at hz
   rw [hz, cv_snoc hil]
   by_cases hall : ∀ m, m < i → 0 ≤ m → ¬ conf base (el l i) (el l m)
   ·rw [if_pos hall, if_pos ⟨hok1, fun a ha => by obtain ⟨m, hm, rfl⟩ := (el_take (by omega)).1 ha; exact hall m hm (Nat.zero_le _)⟩]
    rfl
   ·rw [if_neg hall, if_neg]
    rintro ⟨-, h⟩
    exact hall fun m hm _ => h _ ((el_take (by omega)).2 ⟨m, hm, rfl⟩)
  ·rw [if_neg hok1, if_neg (fun h => hok1 h.1)]
/-- The reference's Sound. -/
theorem refSound_f {base limit order n : Int} {l : List S49} (hb0 : 0 ≤ base) (hb : base < 18446744073709551616) (hw : Wd49 l) (hl : l.length ≤ 8796093021952) {k : Nat} (hk : l.length * (l.length + 2) + 2 < k) :
  croftref11_Sound.f k base limit order n l = some (OC.soundI base limit order n (cv l)) := by
 obtain ⟨k, rfl⟩ : ∃ m, k = m + 1 := ⟨k - 1, by omega⟩
 rw [sound_ref (cv_wd hw)]
 have hbad : croftref11_Sound.j0 (k + 1) n l true base limit order = some 0 := by rw [croftref11_Sound.j0, if_pos rfl]
 unfold croftref11_Sound.f refSoundI
 rw [sMay_f k hb0 hb, Option.bind_some]
 by_cases hm : mayB base limit order = true
 ·rw [if_pos hm]
  by_cases h0 : n < 0
  ·rw [if_pos h0, hbad, if_neg (fun h => by omega)]
  ·rw [if_neg h0]
   by_cases hn : n > limit
   ·rw [decide_eq_true hn, hbad, if_neg (fun h => by omega)]
   ·rw [decide_eq_false hn, croftref11_Sound.j0, if_neg (by decide), if_pos ⟨hm, by omega, by omega⟩]
    have := ref_l0 (n := n) hm (by omega) (by omega) hb0 hw hl l.length 0 (by omega) (fun m h => by omega) k (by omega)
    exact this
 ·rw [if_neg hm, hbad, if_neg (fun h => hm h.1)]
end Go.Proofs.Ytihfblnjgaalcaa.OX
