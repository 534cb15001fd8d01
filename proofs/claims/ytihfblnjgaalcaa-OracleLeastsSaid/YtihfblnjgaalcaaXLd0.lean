/- Laying a block down: what it does to free stretches and free cells. -/
import Derived.Test.YtihfblnjgaalcaaXPg0
namespace Go.Proofs.Ytihfblnjgaalcaa.OL
open Go Go.RowKit Go.Proofs.Ytihfblnjgaalcaa.R Go.Proofs.Ytihfblnjgaalcaa.OM Go.Proofs.Ytihfblnjgaalcaa.OP Go.Proofs.Ytihfblnjgaalcaa.OB Go.Proofs.Ytihfblnjgaalcaa.OV Go.Proofs.Ytihfblnjgaalcaa.OS Go.Proofs.Ytihfblnjgaalcaa.OW Go.Proofs.Ytihfblnjgaalcaa.OF Go.Proofs.Ytihfblnjgaalcaa.ON Go.Proofs.Ytihfblnjgaalcaa.OC Go.Proofs.Ytihfblnjgaalcaa.OX
set_option linter.unusedVariables false
set_option linter.unusedSimpArgs false
/-- Blocks that lie soundly, and their pages. -/
structure St (base limit order n : Int) (lv : List S49) (m : PM) : Prop where
 may : mayB base limit order = true
 n0 : 0 ≤ n
 nl : n ≤ limit
 b0 : 0 ≤ base
 wd : Wd49 lv
 run : run base order n PM.none (cv lv) = some m
theorem run_snoc {base order n : Int} : ∀ (l : List S55) (m m1 m2 : PM) (b : S55), OV.run base order n m l = some m1 → OP.step base order n m1 b = some m2 → OV.run base order n m (l ++ [b]) = some m2
 | [], m, m1, m2, b, h1, h2 => by
  obtain rfl : m = m1 := Option.some.inj h1
  exact run_cons.2 ⟨m2, h2, rfl⟩
 | c :: l, m, m1, m2, b, h1, h2 => by
  obtain ⟨m3, h3, h4⟩ := run_cons.1 h1
  exact run_cons.2 ⟨m3, h3, run_snoc l m3 m1 m2 b h4 h2⟩
section
variable {base limit order n : Int} {lv : List S49} {m : PM}
theorem St.sound (h : St base limit order n lv m) : soundI base limit order n (cv lv) = -1 := sound_iff.2 ⟨⟨h.may, h.n0, h.nl⟩, by rw [h.run]; rfl⟩
theorem St.says (h : St base limit order n lv m) : Tells base (cv lv) m ∧ Fine order n m (cv lv).length ∧ ∀ b ∈ cv lv, okB base order n b = true ∧ Plc base b := by
 obtain ⟨-, -, -, m2, -, hrun, ht, hf, hall⟩ := sound_says (cv_wd h.wd) h.sound
 obtain rfl : m = m2 := Option.some.inj (h.run.symm.trans hrun)
 exact ⟨ht, hf, hall⟩
theorem total16 (hm : mayB base limit order = true) : ∀ {l : List S55}, (∀ b ∈ l, okB base order n b = true) → 16 * (l.length : Int) ≤ total l
 | [], _ => Int.le_refl _
 | b :: l, h => by
  have h1 := total16 hm (l := l) (fun c hc => h c (List.mem_cons_of_mem _ hc))
  have h2 := (sizeB_iff.1 (okB_iff.1 (h b (List.mem_cons_self ..))).1).2.1
  have h3 : total (b :: l) = b.f1 + total l := rfl
  rw [h3, List.length_cons]; omega
theorem St.len (h : St base limit order n lv m) : lv.length ≤ 262144 := by
 obtain ⟨ht, hf, hall⟩ := h.says
 have h1 := run_bytes h.may h.n0 h.nl (cv lv) PM.none m (cv_wd h.wd) h.run
 rw [bytes_none] at h1
 have h2 := sumR_le (f := byteAt m) (B := 4096) (by omega) 1024 (fun x _ => (byte_bd ht x).2)
 have h3 := total16 (n := n) h.may (fun b hb => (hall b hb).1)
 rw [cv_length] at h3
 omega
theorem St.add (h : St base limit order n lv m) {b : S49} (hb : (0 ≤ b.f0 ∧ b.f0 < 18446744073709551616) ∧ (0 ≤ b.f1 ∧ b.f1 < 18446744073709551616)) {m2 : PM} (hs : OP.step base order n m (cv1 b) = some m2) : St base limit order n (lv ++ [b]) m2 := by
 refine ⟨h.may, h.n0, h.nl, h.b0, fun c hc => ?_, ?_⟩
 ·rcases List.mem_append.1 hc with hc | hc
  ·exact h.wd c hc
  ·rw [List.mem_singleton.1 hc]; exact hb
 ·have : cv (lv ++ [b]) = cv lv ++ [cv1 b] := by unfold cv; rw [List.map_append]; rfl
  rw [this]
  exact run_snoc _ _ _ _ _ h.run hs
/-- The bytes of n regions. -/
theorem St.tot (h : St base limit order n lv m) : n * RR order = 4096 * (totP order n : Int) ∧ totP order n ≤ 1024 ∧ base + 4096 * (totP order n : Int) ≤ 9223372036854775808 ∧ base % 4096 = 0 ∧ ∃ N : Nat, totP order n = N * 2 ^ order.toNat := by
 have hmm := mayB_iff.1 h.may
 have hT := tot_eq h.may h.n0 h.nl
 have hT2 : n * RR order = 4096 * (totP order n : Int) := by
  unfold RR
  rw [← hT.1, ← Int.mul_assoc, Int.mul_comm n 4096, Int.mul_assoc]
 have hle : n * RR order ≤ limit * RR order := Int.mul_le_mul_of_nonneg_right h.nl (by have := RR_bd hmm.1 hmm.2.1; omega)
 refine ⟨hT2, hT.2, by omega, ?_, n.toNat, ?_⟩
 ·refine Int.emod_eq_zero_of_dvd (Int.dvd_trans ?_ (Int.dvd_of_emod_eq_zero hmm.2.2.2.2.2.2.1))
  exact ⟨2 ^ order.toNat, rfl⟩
 ·have h1 : (totP order n : Int) = (n.toNat : Int) * ((2 ^ order.toNat : Nat) : Int) := by rw [← hT.1, Int.toNat_of_nonneg h.n0, pow_nat]
  rw [← Int.natCast_mul] at h1
  omega
theorem St.dom (h : St base limit order n lv m) {x : Int} (hx : (m x).isSome = true) : 0 ≤ x ∧ x < (totP order n : Int) := by
 have := h.says.2.1.1 x hx
 have := h.tot.1
 omega
/-! ### free stretches -/
def freeN (m : PM) (T c : Nat) : Nat := (List.range (T / c)).countP (fun i => !occ m T c i)
theorem countP_both (p : Nat → Bool) : ∀ n, (List.range n).countP p + (List.range n).countP (fun i => !p i) = n
 | 0 => rfl
 | n + 1 => by
  have := countP_both p n
  rw [List.range_succ, List.countP_append, List.countP_append, List.countP_singleton, List.countP_singleton]
  cases p n <;> simp <;> omega
theorem free_eq {T c u : Nat} (hc : 0 < c) (hT : T = c * u) (hu : u ≤ 1024) : freeN m T c + occN m T c = u := by
 have hs : ∀ j, occ m T c j = true → j < u := by
  intro j hj
  obtain ⟨x, h1, h2, -⟩ := occ_iff.1 hj
  rw [← h2]
  exact Nat.div_lt_of_lt_mul (by omega)
 have e : occN m T c = (List.range u).countP (occ m T c) := by
  have := countP_short hs (1024 - u)
  rw [show u + (1024 - u) = 1024 by omega] at this
  exact this
 unfold freeN
 rw [e, show T / c = u by rw [hT]; exact Nat.mul_div_cancel_left u hc]
 have := countP_both (occ m T c) u
 omega
theorem countP_span (a w : Nat) : ∀ n, (List.range n).countP (fun i => decide (a ≤ i ∧ i < a + w)) = min n (a + w) - min n a
 | 0 => by simp
 | n + 1 => by
  rw [List.range_succ, List.countP_append, countP_span a w n, List.countP_singleton]
  by_cases h : a ≤ n ∧ n < a + w
  ·rw [if_pos (by simpa using h)]; omega
  ·rw [if_neg (by simpa using h)]; omega
theorem countP_part {p p' q : Nat → Bool} (h : ∀ i, p i = (p' i || q i)) (hd : ∀ i, q i = true → p' i = false) : ∀ n, (List.range n).countP p = (List.range n).countP p' + (List.range n).countP q
 | 0 => rfl
 | n + 1 => by
  rw [List.range_succ, List.countP_append, List.countP_append, List.countP_append, countP_part h hd n, List.countP_singleton, List.countP_singleton, List.countP_singleton]
  have h1 := h n
  have h2 := hd n
  cases hq : q n with
  | false => rw [hq, Bool.or_false] at h1; rw [h1]; simp; omega
  | true => rw [hq, Bool.or_true] at h1; rw [h1, h2 hq]; simp; omega
/-- A great block laid down. -/
theorem great_on {j i : Nat} (x : Int) : onP base (⟨base + ((4096 * 2 ^ j * i : Nat) : Int), ((4096 * 2 ^ j : Nat) : Int)⟩ : S55) x ↔ ((2 ^ j * i : Nat) : Int) ≤ x ∧ x < ((2 ^ j * i + 2 ^ j : Nat) : Int) := by
 have hp := Nat.two_pow_pos j
 have e : 4096 * 2 ^ j * i = 4096 * (2 ^ j * i) := Nat.mul_assoc ..
 have hpg : pageOf base (⟨base + ((4096 * 2 ^ j * i : Nat) : Int), ((4096 * 2 ^ j : Nat) : Int)⟩ : S55) = ((2 ^ j * i : Nat) : Int) := by
  show (base + ((4096 * 2 ^ j * i : Nat) : Int) - base) / 4096 = _
  rw [e]; omega
 have hz : ((4096 * 2 ^ j : Nat) : Int) / 4096 = ((2 ^ j : Nat) : Int) := by omega
 unfold onP
 rw [hpg]
 show _ ∧ (if ((4096 * 2 ^ j : Nat) : Int) < 4096 then _ else x < ((2 ^ j * i : Nat) : Int) + ((4096 * 2 ^ j : Nat) : Int) / 4096) ↔ _
 rw [if_neg (by omega), hz]
 omega
theorem great_ok (h : St base limit order n lv m) {j i u : Nat} (hj : j ≤ order.toNat) (hT : totP order n = 2 ^ j * u) (hi : i < u) : okB base order n (⟨base + ((4096 * 2 ^ j * i : Nat) : Int), ((4096 * 2 ^ j : Nat) : Int)⟩ : S55) = true := by
 have hmm := mayB_iff.1 h.may
 obtain ⟨t1, t2, t3, t4, -⟩ := h.tot
 have hp := Nat.two_pow_pos j
 have hju : 2 ^ j * (i + 1) ≤ 2 ^ j * u := Nat.mul_le_mul_left _ (by omega)
 rw [Nat.mul_succ] at hju
 have e : 4096 * 2 ^ j * i = 4096 * (2 ^ j * i) := Nat.mul_assoc ..
 have hsz : sizeB order ((4096 * 2 ^ j : Nat) : Int) = true := by
  have h2 : 2 ^ j ≤ 2 ^ 8 := Nat.pow_le_pow_right (by decide) (by omega)
  refine (sizeB_exp hmm.1 (by omega) (by omega)).2 ⟨12 + j, by omega, by omega, ?_⟩
  rw [Nat.pow_add]
 refine okB_iff.2 ⟨hsz, ?_, ?_, ?_⟩
 ·have hd : ((4096 * 2 ^ j : Nat) : Int) ∣ base := by
   refine Int.dvd_trans ?_ (Int.dvd_of_emod_eq_zero hmm.2.2.2.2.2.2.1)
   refine ⟨((2 ^ (order.toNat - j) : Nat) : Int), ?_⟩
   unfold RR
   rw [pow_nat, ← Int.natCast_mul, show (4096 : Int) * ((2 ^ order.toNat : Nat) : Int) = ((4096 * 2 ^ order.toNat : Nat) : Int) by omega]
   rw [Nat.mul_assoc, ← Nat.pow_add, show j + (order.toNat - j) = order.toNat by omega]
  show (base + ((4096 * 2 ^ j * i : Nat) : Int)) % ((4096 * 2 ^ j : Nat) : Int) = 0
  refine Int.emod_eq_zero_of_dvd (Int.dvd_add hd ?_)
  exact ⟨(i : Int), Int.natCast_mul _ _⟩
 ·show base ≤ base + ((4096 * 2 ^ j * i : Nat) : Int)
  omega
 ·show base + ((4096 * 2 ^ j * i : Nat) : Int) - base < n * RR order
  rw [t1, e]; omega
theorem great_step (h : St base limit order n lv m) {j i u : Nat} (hj : j ≤ order.toNat) (hT : totP order n = 2 ^ j * u) (hi : i < u) : (∃ m2, OP.step base order n m (⟨base + ((4096 * 2 ^ j * i : Nat) : Int), ((4096 * 2 ^ j : Nat) : Int)⟩ : S55) = some m2) ↔ occ m (totP order n) (2 ^ j) i = false := by
 have hok := great_ok h hj hT hi
 have hp := Nat.two_pow_pos j
 have hju : 2 ^ j * (i + 1) ≤ 2 ^ j * u := Nat.mul_le_mul_left _ (by omega)
 rw [Nat.mul_succ] at hju
 have hz0 : (0 : Int) ≤ ((4096 * 2 ^ j : Nat) : Int) := Int.natCast_nonneg _
 have hn4 : ¬ ((4096 * 2 ^ j : Nat) : Int) < 4096 := by omega
 constructor
 ·rintro ⟨m2, hs⟩
  obtain ⟨-, h2, -⟩ := (step_iff (b := ⟨base + ((4096 * 2 ^ j * i : Nat) : Int), ((4096 * 2 ^ j : Nat) : Int)⟩) hz0).1 hs
  cases e : occ m (totP order n) (2 ^ j) i with
  | false => rfl
  | true =>
   obtain ⟨x, hx, hd, hsm⟩ := occ_iff.1 e
   have hd := (div_iff hp).1 hd
   have h3 := h2 (x : Int) ((great_on _).2 (by omega))
   obtain ⟨lt, hlt⟩ := Option.isSome_iff_exists.1 hsm
   rw [hlt] at h3
   cases lt with
   | great s => simp [addL] at h3
   | small s cs q =>
    simp only [addL] at h3
    rw [if_neg (fun hc => hn4 hc.1)] at h3
    cases h3
 ·intro e
  refine ⟨_, (step_iff (b := ⟨base + ((4096 * 2 ^ j * i : Nat) : Int), ((4096 * 2 ^ j : Nat) : Int)⟩) hz0).2 ⟨hok, fun x hx => ?_, rfl⟩⟩
  have hx := (great_on x).1 hx
  have : m x = none := by
   cases hm : m x with
   | none => rfl
   | some lt =>
    obtain ⟨y, rfl⟩ := Int.eq_ofNat_of_zero_le (show 0 ≤ x by omega)
    have h3 : occ m (totP order n) (2 ^ j) i = true := occ_iff.2 ⟨y, by omega, (div_iff hp).2 (by omega), by rw [hm]; rfl⟩
    rw [e] at h3; cases h3
  rw [this]
  simp only [addL]
  rw [if_neg hn4]; rfl
/-- What laying a great block down leaves. -/
theorem great_free {j k i u : Nat} (hk : k ≤ j) {T : Nat} (hT : T = 2 ^ j * u) (hi : i < u) (he : occ m T (2 ^ j) i = false) {m2 : PM} (hm2 : ∀ x : Nat, (m2 (x : Int)).isSome = ((m (x : Int)).isSome || decide (2 ^ j * i ≤ x ∧ x < 2 ^ j * i + 2 ^ j))) : freeN m2 T (2 ^ k) + 2 ^ (j - k) = freeN m T (2 ^ k) := by
 have hpk := Nat.two_pow_pos k
 have hw : 2 ^ j = 2 ^ k * 2 ^ (j - k) := by rw [← Nat.pow_add]; congr 1; omega
 generalize hww : 2 ^ (j - k) = w at *
 have hpw : 0 < w := by rw [← hww]; exact Nat.two_pow_pos _
 generalize hd : 2 ^ k = d at *
 have hU : T / d = w * u := by rw [hT, hw, Nat.mul_assoc, Nat.mul_div_cancel_left _ hpk]
 have hiu : w * (i + 1) ≤ w * u := Nat.mul_le_mul_left _ (by omega)
 rw [Nat.mul_succ] at hiu
 have hci : 2 ^ j * i = d * (w * i) := by rw [hw, Nat.mul_assoc]
 have hcw : 2 ^ j = d * w := hw
 have hTd : T = d * (w * u) := by rw [hT, hw, Nat.mul_assoc]
 unfold freeN
 rw [hU]
 have hocc : ∀ q, occ m2 T d q = (occ m T d q || decide (w * i ≤ q ∧ q < w * i + w)) := by
  intro q
  rw [Bool.eq_iff_iff, Bool.or_eq_true, decide_eq_true_eq, occ_iff, occ_iff]
  constructor
  ·rintro ⟨x, h1, h2, h3⟩
   rw [hm2, Bool.or_eq_true, decide_eq_true_eq] at h3
   rcases h3 with h3 | h3
   ·exact Or.inl ⟨x, h1, h2, h3⟩
   ·right
    have h2 := (div_iff hpk).1 h2
    rw [hci, hcw, ← Nat.mul_add] at h3
    constructor
    ·apply Nat.le_of_lt_succ
     apply Nat.lt_of_mul_lt_mul_left (a := d)
     rw [Nat.mul_succ]; omega
    ·apply Nat.lt_of_mul_lt_mul_left (a := d)
     omega
  ·rintro (⟨x, h1, h2, h3⟩ | h)
   ·exact ⟨x, h1, h2, by rw [hm2, h3]; rfl⟩
   ·have h4 : d * (w * i) ≤ d * q := Nat.mul_le_mul_left d h.1
    have h5 : d * (q + 1) ≤ d * (w * i + w) := Nat.mul_le_mul_left d (by omega)
    have h6 : d * (q + 1) ≤ d * (w * u) := Nat.mul_le_mul_left d (by omega)
    rw [Nat.mul_succ] at h5 h6
    refine ⟨d * q, by omega, Nat.mul_div_cancel_left q hpk, ?_⟩
    rw [hm2, hci, hcw, ← Nat.mul_add, decide_eq_true (show d * (w * i) ≤ d * q ∧ d * q < d * (w * i + w) by omega), Bool.or_true]
 have hno : ∀ q, w * i ≤ q ∧ q < w * i + w → occ m T d q = false := by
  intro q hq
  cases e : occ m T d q with
  | false => rfl
  | true =>
   obtain ⟨x, h1, h2, h3⟩ := occ_iff.1 e
   have h2 := (div_iff hpk).1 h2
   have h4 : d * (w * i) ≤ d * q := Nat.mul_le_mul_left d hq.1
   have h5 : d * (q + 1) ≤ d * (w * i + w) := Nat.mul_le_mul_left d (by omega)
   rw [Nat.mul_succ, Nat.mul_add] at h5
   have : occ m T (2 ^ j) i = true := occ_iff.2 ⟨x, h1, (div_iff (Nat.two_pow_pos j)).2 (by rw [hci, hcw]; omega), h3⟩
   rw [he] at this; cases this
 have hpart := countP_part (p := fun q => !occ m T d q) (p' := fun q => !occ m2 T d q) (q := fun q => decide (w * i ≤ q ∧ q < w * i + w)) (fun q => by
  show (!occ m T d q) = (!occ m2 T d q || _)
  rw [hocc]
  by_cases hq : w * i ≤ q ∧ q < w * i + w
  ·rw [hno q hq, decide_eq_true hq]; rfl
  ·rw [decide_eq_false hq]; simp) (fun q hq => by
  show (!occ m2 T d q) = false
  rw [hocc, hq]; simp) (w * u)
 rw [hpart, countP_span]
 omega
theorem great_room {b : S55} (hb : ¬ b.f1 < 4096) (s : Int) (hfree : ∀ x, onP base b x → m x = none) : roomAll (addAll base b m) s = roomAll m s := by
 unfold roomAll
 refine sumR_congr 1024 (fun x _ => ?_)
 unfold roomAt addAll
 by_cases hx : onP base b (x : Int)
 ·rw [if_pos hx, hfree _ hx]
  simp only [addL]
  rw [if_neg hb]
 ·rw [if_neg hx]
end
end Go.Proofs.Ytihfblnjgaalcaa.OL
