/- The reference's Least answers as the oracle's. -/
import Derived.Test.YtihfblnjgaalcaaRE4
import Derived.Test.YtihfblnjgaalcaaXLd5
namespace Go.Proofs.Ytihfblnjgaalcaa.OL
open Go Go.RowKit Go.Proofs.YtihfblnjgaalcaaW.PrintWords Go.Proofs.YtihfblnjgaalcaaW.PrintLast Go.Proofs.YtihfblnjgaalcaaW.PrintMore Go.Proofs.Ytihfblnjgaalcaa.R Go.Proofs.Ytihfblnjgaalcaa.OM Go.Proofs.Ytihfblnjgaalcaa.OP Go.Proofs.Ytihfblnjgaalcaa.OB Go.Proofs.Ytihfblnjgaalcaa.OV Go.Proofs.Ytihfblnjgaalcaa.OS Go.Proofs.Ytihfblnjgaalcaa.OW Go.Proofs.Ytihfblnjgaalcaa.OF Go.Proofs.Ytihfblnjgaalcaa.ON Go.Proofs.Ytihfblnjgaalcaa.OC Go.Proofs.Ytihfblnjgaalcaa.OX
set_option linter.unusedVariables false
set_option linter.unusedSimpArgs false
theorem pfor_nonneg (x : Int) {k : Nat} (hk : k < 8) : 0 ≤ pagesFor x (sz8 k) := by
 obtain ⟨a, b, c, d⟩ := sz8_cells hk
 unfold pagesFor
 exact Int.ediv_nonneg (by omega) (by omega)
theorem sSm_iff (z : List Int) (room : Nat → Int) : ∀ (k : Nat) (f : Int), k ≤ 8 → (0 ≤ f ∨ 0 < k) → (sSm z room k f = true ↔ sumR (fun k => pagesFor ((cnt z (sz8 k) : Int) - room k) (sz8 k)) k ≤ f)
 | 0, f, _, h => by
  rw [sSm, sumR]
  simp
  omega
 | k + 1, f, hk, h => by
  have hg := pfor_nonneg ((cnt z (sz8 k) : Int) - room k) (k := k) (by omega)
  have hs := sumR_nonneg (f := fun k => pagesFor ((cnt z (sz8 k) : Int) - room k) (sz8 k)) k (fun x hx => pfor_nonneg _ (by omega))
  rw [sSm, sumR]
  by_cases hle : pagesFor ((cnt z (sz8 k) : Int) - room k) (sz8 k) ≤ f
  ·rw [if_pos hle, sSm_iff z room k _ (by omega) (Or.inl (by omega))]
   omega
  ·rw [if_neg hle]
   constructor
   ·intro h; cases h
   ·intro h; omega
theorem takes_next {order : Int} {z : List Int} {i j : Nat} (hi : i ≤ j) (hj : j < order.toNat + 1) : takes (bigs order z) i (j + 1 - i) i = takes (bigs order z) i (j - i) i + cnt z (4096 * 2 ^ j) * 2 ^ (j - i) := by
 rw [show j + 1 - i = j - i + 1 by omega, takes_snoc, show i + (j - i) = j by omega, bigs_at hj]
theorem sBig_iff {order : Int} (z : List Int) (room : Nat → Int) : ∀ (j : Nat) (F : Nat → Int), j ≤ order.toNat + 1 → (sBig z room j F = true ↔ (∀ i, i < j → (takes (bigs order z) i (j - i) i : Int) ≤ F i) ∧ (takes (bigs order z) 0 j 0 : Int) + sumR (fun k => pagesFor ((cnt z (sz8 k) : Int) - room k) (sz8 k)) 8 ≤ F 0)
 | 0, F, _ => by
  rw [sBig, sSm_iff z room 8 (F 0) (Nat.le_refl 8) (Or.inr (by decide))]
  constructor
  ·intro h
   refine ⟨fun i hi => by omega, ?_⟩
   show ((0 : Nat) : Int) + _ ≤ _
   omega
  ·rintro ⟨-, h⟩
   have h : ((0 : Nat) : Int) + sumR (fun k => pagesFor ((cnt z (sz8 k) : Int) - room k) (sz8 k)) 8 ≤ F 0 := h
   omega
 | j + 1, F, hj => by
  have ih := sBig_iff (order := order) z room j (fun k => F k - (cnt z (4096 * 2 ^ j) : Int) * ((2 ^ (j - k) : Nat) : Int)) (by omega)
  have hn : ∀ i, i ≤ j → (takes (bigs order z) i (j + 1 - i) i : Int) = (takes (bigs order z) i (j - i) i : Int) + (cnt z (4096 * 2 ^ j) : Int) * ((2 ^ (j - i) : Nat) : Int) := fun i hi => by rw [takes_next hi (by omega), Int.natCast_add, Int.natCast_mul]
  have h0 := hn 0 (Nat.zero_le _)
  rw [Nat.sub_zero, Nat.sub_zero] at h0
  rw [sBig]
  have hjj := hn j (Nat.le_refl j)
  rw [Nat.sub_self, Nat.pow_zero] at hjj
  have e0 : takes (bigs order z) j 0 j = 0 := rfl
  rw [e0] at hjj
  by_cases hle : (cnt z (4096 * 2 ^ j) : Int) ≤ F j
  ·rw [if_pos hle, ih]
   constructor
   ·rintro ⟨h1, h2⟩
    have h2 : (takes (bigs order z) 0 j 0 : Int) + sumR (fun k => pagesFor ((cnt z (sz8 k) : Int) - room k) (sz8 k)) 8 ≤ F 0 - (cnt z (4096 * 2 ^ j) : Int) * ((2 ^ (j - 0) : Nat) : Int) := h2
    rw [Nat.sub_zero] at h2
    refine ⟨fun i hi => ?_, by omega⟩
    by_cases e : i = j
    ·subst e; rw [hjj]; simpa using hle
    ·have h3 : (takes (bigs order z) i (j - i) i : Int) ≤ F i - (cnt z (4096 * 2 ^ j) : Int) * ((2 ^ (j - i) : Nat) : Int) := h1 i (by omega)
     rw [hn i (by omega)]; omega
   ·rintro ⟨h1, h2⟩
    refine ⟨fun i hi => ?_, ?_⟩
    ·have h3 := h1 i (by omega)
     rw [hn i (by omega)] at h3
     show (takes (bigs order z) i (j - i) i : Int) ≤ F i - (cnt z (4096 * 2 ^ j) : Int) * ((2 ^ (j - i) : Nat) : Int)
     omega
    ·show (takes (bigs order z) 0 j 0 : Int) + sumR (fun k => pagesFor ((cnt z (sz8 k) : Int) - room k) (sz8 k)) 8 ≤ F 0 - (cnt z (4096 * 2 ^ j) : Int) * ((2 ^ (j - 0) : Nat) : Int)
     rw [Nat.sub_zero]; omega
  ·rw [if_neg hle]
   constructor
   ·intro h; cases h
   ·rintro ⟨h1, -⟩
    have := h1 j (by omega)
    rw [hjj] at this
    simp at this
    exact absurd this hle
theorem takes_congr {a b : List Nat} (k : Nat) : ∀ d j, (∀ q, j ≤ q → a.getD q 0 = b.getD q 0) → takes a k d j = takes b k d j
 | 0, _, _ => rfl
 | d + 1, j, h => by rw [takes, takes, h j (Nat.le_refl j), takes_congr k d (j + 1) (fun q hq => h q (by omega))]
/-- What the oracle counts. -/
theorem fits_iff {m : PM} {order : Int} {z : List Int} {T N : Nat} (hT : T = N * 2 ^ order.toNat) (hT2 : T ≤ 1024) : fitsB m T (needOf m order z) = true ↔ (∀ i, i < order.toNat + 1 → (takes (bigs order z) i (order.toNat + 1 - i) i : Int) ≤ (freeN m T (2 ^ i) : Int)) ∧ (takes (bigs order z) 0 (order.toNat + 1) 0 : Int) + extra (fun s => (cnt z s : Int) - roomAll m s) ≤ (freeN m T (2 ^ 0) : Int) := by
 have hE := extra_nonneg (fun s => (cnt z s : Int) - roomAll m s)
 have hl := need_length m order z
 have hbl := OX.bigs_length order z
 have hge : ∀ q, 1 ≤ q → (needOf m order z).getD q 0 = (bigs order z).getD q 0 := by
  intro q hq
  unfold needOf
  rw [set_at (by omega), if_neg (by omega)]
 have h0 : (takesAll (needOf m order z) 0 : Int) = (takes (bigs order z) 0 (order.toNat + 1) 0 : Int) + extra (fun s => (cnt z s : Int) - roomAll m s) := by
  unfold takesAll
  have hcg : takes (needOf m order z) 0 order.toNat (0 + 1) = takes (bigs order z) 0 order.toNat (0 + 1) := takes_congr 0 _ _ (fun q hq => hge q (by omega))
  rw [hl, Nat.sub_zero, takes, takes, hcg]
  have e1 : (needOf m order z).getD 0 0 = cnt z 4096 + (extra (fun s => (cnt z s : Int) - roomAll m s)).toNat := by
   unfold needOf
   rw [set_at (by omega), if_pos rfl]
  have e2 : (bigs order z).getD 0 0 = cnt z 4096 := by rw [bigs_at (by omega)]; rfl
  rw [e1, e2, Nat.sub_zero, Nat.pow_zero, Nat.mul_one, Nat.mul_one]
  omega
 have hi : ∀ i, 1 ≤ i → i < order.toNat + 1 → takesAll (needOf m order z) i = takes (bigs order z) i (order.toNat + 1 - i) i := by
  intro i h1 h2
  unfold takesAll
  rw [hl]
  exact takes_congr i _ i (fun q hq => hge q (by omega))
 have hK : ∀ i, i < order.toNat + 1 → (fitK m T (needOf m order z) i = true ↔ (takesAll (needOf m order z) i : Int) ≤ (freeN m T (2 ^ i) : Int)) := by
  intro i hio
  have hp := Nat.two_pow_pos i
  have hTu : T = 2 ^ i * (N * 2 ^ (order.toNat - i)) := by
   rw [hT, show 2 ^ order.toNat = 2 ^ i * 2 ^ (order.toNat - i) by rw [← Nat.pow_add]; congr 1; omega, Nat.mul_left_comm]
  have hu : N * 2 ^ (order.toNat - i) ≤ 1024 := by
   have : N * 2 ^ (order.toNat - i) ≤ 2 ^ i * (N * 2 ^ (order.toNat - i)) := Nat.le_mul_of_pos_left _ hp
   omega
  have hfe := free_eq (m := m) hp hTu hu
  have hd : T / 2 ^ i = N * 2 ^ (order.toNat - i) := by rw [hTu]; exact Nat.mul_div_cancel_left _ hp
  unfold fitK
  rw [decide_eq_true_eq, hd]
  omega
 unfold fitsB
 rw [all_from, List.all_eq_true]
 constructor
 ·intro h
  have hz := (hK 0 (by omega)).1 (by have := h 0 (List.mem_range.2 (by omega)); rw [Nat.zero_add] at this; exact this)
  rw [h0] at hz
  refine ⟨fun i hio => ?_, hz⟩
  by_cases e : i = 0
  ·subst e
   rw [Nat.sub_zero]; omega
  ·rw [← hi i (by omega) hio]
   have := h i (List.mem_range.2 (by omega))
   rw [Nat.zero_add] at this
   exact (hK i hio).1 this
 ·rintro ⟨h1, h2⟩ i hio
  have hio := List.mem_range.1 hio
  rw [Nat.zero_add]
  refine (hK i (by omega)).2 ?_
  by_cases e : i = 0
  ·subst e
   rw [h0]; exact h2
  ·rw [hi i (by omega) (by omega)]
   exact h1 i (by omega)
/-- The two agree. -/
theorem lay_fit {m : PM} {order : Int} {z : List Int} {T N : Nat} (hT : T = N * 2 ^ order.toNat) (hT2 : T ≤ 1024) : sBig z (fun k => roomAll m (sz8 k)) (order.toNat + 1) (fun k => (freeN m T (2 ^ k) : Int)) = fitsB m T (needOf m order z) := by
 rw [Bool.eq_iff_iff, fits_iff hT hT2, sBig_iff (order := order) z _ _ _ (Nat.le_refl _)]
 exact Iff.rfl
theorem run_fewer {base order n limit : Int} : ∀ (l : List S55) (m m2 : PM), (∀ b ∈ l, 0 ≤ b.f1) → (∀ b ∈ l, okB base order n b = true) → OV.run base order limit m l = some m2 → OV.run base order n m l = some m2
 | [], m, m2, _, _, h => h
 | b :: l, m, m2, hw, hok, h => by
  obtain ⟨m1, h1, h2⟩ := run_cons.1 h
  have hz := hw b (List.mem_cons_self ..)
  obtain ⟨-, h3, h4⟩ := (step_iff hz).1 h1
  exact run_cons.2 ⟨m1, (step_iff hz).2 ⟨hok b (List.mem_cons_self ..), h3, h4⟩, run_fewer l m1 m2 (fun c hc => hw c (List.mem_cons_of_mem _ hc)) (fun c hc => hok c (List.mem_cons_of_mem _ hc)) h2⟩
section
variable {base limit order : Int} {lv : List S49} {m : PM} {z : List Int}
/-- The regions that the blocks reach. -/
theorem top_iff (h : St base limit order limit lv m) {N : Nat} (hN : (N : Int) ≤ limit) : (∀ b ∈ cv lv, okB base order (N : Int) b = true) ↔ topI m order.toNat ≤ N := by
 have hmm := mayB_iff.1 h.may
 obtain ⟨ht, hf, hall⟩ := h.says
 have hp := Nat.two_pow_pos order.toNat
 have hRR : RR order = 4096 * ((2 ^ order.toNat : Nat) : Int) := by unfold RR; rw [pow_nat]
 constructor
 ·intro hok
  have hN' : St base limit order (N : Int) lv m := ⟨h.may, by omega, hN, h.b0, h.wd, run_fewer _ _ _ (fun b hb => (cv_wd h.wd b hb).2.1) hok h.run⟩
  refine top_le m order.toNat 1024 (fun x hx hs => ?_)
  have hd := (hN'.dom hs).2
  have hT : totP order (N : Int) = N * 2 ^ order.toNat := by
   unfold totP
   rw [pow_nat, ← Int.natCast_mul, Int.toNat_natCast]
  rw [hT] at hd
  have : x / 2 ^ order.toNat < N := (Nat.div_lt_iff_lt_mul hp).2 (by omega)
  omega
 ·intro htop b hb
  obtain ⟨hok, hplc⟩ := hall b hb
  obtain ⟨a1, a2, a3, a4⟩ := okB_iff.1 hok
  refine okB_iff.2 ⟨a1, a2, a3, ?_⟩
  have hpg : 0 ≤ pageOf base b := by unfold pageOf; omega
  obtain ⟨x, hx⟩ := Int.eq_ofNat_of_zero_le hpg
  have hon : onP base b (x : Int) := by
   have hsz := (sizeB_iff.1 a1).2.1
   unfold onP
   rw [hx]
   refine ⟨Int.le_refl _, ?_⟩
   split
   ·rfl
   ·have := great_in hplc (by assumption); omega
  have hs := (told_iff ht (x : Int)).2 ⟨b, hb, hon⟩
  have hd := h.dom hs
  have hT := h.tot.2.1
  have hge := top_ge m order.toNat 1024 x (by omega) hs
  have hlt : x / 2 ^ order.toNat < N := by
   have : topR m order.toNat 1024 = topI m order.toNat := rfl
   omega
  have hxlt := (Nat.div_lt_iff_lt_mul hp).1 hlt
  unfold pageOf at hx
  rw [hRR, Int.mul_left_comm, ← Int.natCast_mul]
  omega
/-- Blocks that stay are handed on. -/
theorem laid_l0 {n : Int} (hm : mayB base limit order = true) (h0 : 0 ≤ n) (hn : n ≤ limit) (hb : 0 ≤ base) (hw : Wd49 lv) (hl : lv.length ≤ 8796093021952) {K : Nat} {V : Bool}
  (hV : (∀ i, i < lv.length → okB base order n (el lv i) = true) → ∀ k, K ≤ k → croftref11_laid.l1 k z lv (IntKind.u64.wrap (n * RR order)) (RR order) base limit order = some V) (d : Nat) :
  ∀ (k i : Nat), i + d = lv.length → K + d < k → (∀ m, m < i → okB base order n (el lv m) = true) → croftref11_laid.l0 k n lv z (lv.take i) (i : Int) base limit order = some (if ∀ i, i < lv.length → okB base order n (el lv i) = true then V else false) := by
 obtain ⟨o0, o8, l1, l64, -⟩ := mayB_iff.1 hm
 induction d with
 | zero =>
  intro k i hi hk hok
  obtain ⟨k, rfl⟩ : ∃ q, k = q + 1 := ⟨k - 1, by omega⟩
  obtain rfl : i = lv.length := hi
  rw [croftref11_laid.l0, if_neg (by omega), sR_f base limit o0 o8, Option.bind_some, Option.bind_some, List.take_length, u64_in (x := n) h0 (by omega), if_pos hok]
  exact hV hok k (by omega)
 | succ d ih =>
  intro k i hi hk hok
  obtain ⟨k, rfl⟩ : ∃ q, k = q + 1 := ⟨k - 1, by omega⟩
  have hil : i < lv.length := by omega
  have hof := of_f hm h0 hn hb (el_wd hw hil).1 (el_wd hw hil).2
  change croftref11_Of.f base limit order n (rd_T49 lv (i : Int)).f0 (rd_T49 lv (i : Int)).f1 = some (okB base order n (el lv i)) at hof
  have hsn : lv.take i ++ [(⟨(rd_T49 lv (i : Int)).f0, (rd_T49 lv (i : Int)).f1⟩ : S49)] = lv.take (i + 1) := by
   rw [rd49 hil, List.take_succ_eq_append_getElem hil]
  rw [croftref11_laid.l0, if_pos (by omega), if_pos (by omega), hof, Option.bind_some]
  by_cases ho : okB base order n (el lv i) = true
  ·rw [if_pos ho, if_pos (by rw [List.length_take]; omega), hsn, inc64 (by omega)]
   refine ih k (i + 1) (by omega) (by omega) (fun m hm => ?_)
   by_cases e : m = i
   ·rw [e]; exact ho
   ·exact hok m (by omega)
  ·rw [if_neg ho, if_neg (fun h => ho (h i hil))]
theorem all_el {n : Int} : (∀ i, i < lv.length → okB base order n (el lv i) = true) ↔ ∀ b ∈ cv lv, okB base order n b = true := by
 constructor
 ·intro h b hb
  have hb2 : b ∈ cv (lv.take lv.length) := by rw [List.take_length]; exact hb
  obtain ⟨i, hi, rfl⟩ := (el_take (Nat.le_refl _)).1 hb2
  exact h i hi
 ·intro h i hi
  refine h _ ?_
  have := (el_take (l := lv) (i := lv.length) (Nat.le_refl _) (a := el lv i)).2 ⟨i, hi, rfl⟩
  rwa [List.take_length] at this
/-- Can it be laid in N regions? -/
theorem laid_f (h : St base limit order limit lv m) (hb : base < 18446744073709551616) (hz : z.length ≤ 17592186043904) {N : Nat} (hN : (N : Int) ≤ limit) {L k : Nat} (hL : z.length + 1800000 ≤ L) (hk : 17 * L + 300000 < k) :
  croftref11_laid.f k base limit order (N : Int) lv z = some (decide (topI m order.toNat ≤ N) && fitAt m order.toNat (needOf m order z) N) := by
 have hmm := mayB_iff.1 h.may
 have hlen := h.len
 have hp := Nat.two_pow_pos order.toNat
 have hT : totP order (N : Int) = N * 2 ^ order.toNat := by
  unfold totP
  rw [pow_nat, ← Int.natCast_mul, Int.toNat_natCast]
 have hRR : RR order = ((2048 * 2 ^ (order.toNat + 1) : Nat) : Int) := by unfold RR; rw [pow_nat, Nat.pow_succ]; omega
 have htop := top_iff h hN
 have hfit : (∀ i, i < lv.length → okB base order (N : Int) (el lv i) = true) → St base limit order (N : Int) lv m := fun hall => ⟨h.may, by omega, hN, h.b0, h.wd, run_fewer _ _ _ (fun b hb => (cv_wd h.wd b hb).2.1) (all_el.1 hall) h.run⟩
 have hl0 := laid_l0 (z := z) (n := (N : Int)) h.may (by omega) hN h.b0 h.wd (by omega) (K := 17 * L + 2) (V := fitAt m order.toNat (needOf m order z) N) (fun hall k hk => by
  have hst := hfit hall
  have htt := hst.tot
  have hbig := laid_big (base := base) (limit := limit) (order := order) (n := (N : Int)) (T := totP order (N : Int)) rfl hz hL (fun k => roomAll m (sz8 k)) (order.toNat + 1) (Nat.le_refl _) lv m (fun k => (freeN m (totP order (N : Int)) (2 ^ k) : Int)) hst (fun i hi => rfl) (fun k _ => Or.inl rfl) k (by
   have h1 : (order.toNat + 1 + 8) * L ≤ 17 * L := Nat.mul_le_mul_right L (by omega)
   omega)
  rw [lay_fit hT htt.2.1] at hbig
  rw [u64_in (x := (N : Int) * RR order) (by omega) (by omega), htt.1, hRR, show 4096 * (totP order (N : Int) : Int) = ((4096 * totP order (N : Int) : Nat) : Int) by omega, hbig]
  unfold fitAt
  rw [hT]) lv.length k 0 (by omega) (by omega) (fun m hm => by omega)
 rw [List.take_zero] at hl0
 unfold croftref11_laid.f
 rw [if_pos (by decide)]
 show croftref11_laid.l0 k (N : Int) lv z [] 0 base limit order = _
 rw [show ((0 : Nat) : Int) = 0 from rfl] at hl0
 rw [hl0]
 by_cases hok : ∀ i, i < lv.length → okB base order (N : Int) (el lv i) = true
 ·rw [if_pos hok, decide_eq_true (htop.1 (all_el.1 hok)), Bool.true_and]
 ·rw [if_neg hok, decide_eq_false (fun h2 => hok (all_el.2 (htop.2 h2))), Bool.false_and]
theorem find_skip {p q : Nat → Bool} {t : Nat} (hlo : ∀ k, k < t → p k = false) (hhi : ∀ k, t ≤ k → p k = q k) : ∀ d s, s ≤ t → t ≤ s + d → findF p d s = findF q (s + d - t) t
 | 0, s, h1, h2 => by rw [show s + 0 - t = 0 by omega]; rfl
 | d + 1, s, h1, h2 => by
  by_cases e : s = t
  ·subst e
   rw [show s + (d + 1) - s = d + 1 by omega]
   exact find_same hhi (d + 1) s (Nat.le_refl s)
  ·rw [findF, hlo s (by omega), if_neg (by decide), find_skip hlo hhi d (s + 1) (by omega) (by omega), show s + 1 + d = s + (d + 1) by omega]
where
 find_same {p q : Nat → Bool} {t : Nat} (hhi : ∀ k, t ≤ k → p k = q k) : ∀ d s, t ≤ s → findF p d s = findF q d s
  | 0, s, _ => rfl
  | d + 1, s, h => by rw [findF, findF, hhi s h, find_same hhi d (s + 1) (by omega)]
theorem least_l1 (h : St base limit order limit lv m) (hb : base < 18446744073709551616) (hz : z.length ≤ 17592186043904) {L : Nat} (hL : z.length + 1800000 ≤ L) (d : Nat) :
  ∀ (k i : Nat), i + d = limit.toNat + 1 → 17 * L + 300001 + d < k → croftref11_Least.l1 k lv z (i : Int) base limit order = some (outOf (findF (fun N => decide (topI m order.toNat ≤ N) && fitAt m order.toNat (needOf m order z) N) d i)) := by
 have hmm := mayB_iff.1 h.may
 induction d with
 | zero =>
  intro k i hi hk
  obtain ⟨k, rfl⟩ : ∃ q, k = q + 1 := ⟨k - 1, by omega⟩
  rw [croftref11_Least.l1, if_neg (by omega)]
  rfl
 | succ d ih =>
  intro k i hi hk
  obtain ⟨k, rfl⟩ : ∃ q, k = q + 1 := ⟨k - 1, by omega⟩
  rw [croftref11_Least.l1, if_pos (by omega), laid_f h hb hz (N := i) (by omega) hL (by omega), Option.bind_some, inc64 (by omega), ih k (i + 1) (by omega) (by omega), findF]
  by_cases hp : (decide (topI m order.toNat ≤ i) && fitAt m order.toNat (needOf m order z) i) = true
  ·rw [if_pos hp, if_pos hp]; rfl
  ·rw [if_neg hp, if_neg hp]
theorem least_l0 (hm : mayB base limit order = true) (hz : z.length ≤ 17592186043904) {K : Nat} {V : Int × Bool} (hV : (∀ i, i < z.length → sizeB order (rd z (i : Int)) = true) → ∀ k, K ≤ k → croftref11_Least.l1 k lv z 0 base limit order = some V) (d : Nat) :
  ∀ (k i : Nat), i + d = z.length → K + d < k → (∀ q, q < i → sizeB order (rd z (q : Int)) = true) → croftref11_Least.l0 k lv z (i : Int) base limit order = some (if ∀ i, i < z.length → sizeB order (rd z (i : Int)) = true then V else (0, false)) := by
 have hmm := mayB_iff.1 hm
 induction d with
 | zero =>
  intro k i hi hk hok
  obtain ⟨k, rfl⟩ : ∃ q, k = q + 1 := ⟨k - 1, by omega⟩
  obtain rfl : i = z.length := hi
  rw [croftref11_Least.l0, if_neg (by omega), if_pos hok]
  exact hV hok k (by omega)
 | succ d ih =>
  intro k i hi hk hok
  obtain ⟨k, rfl⟩ : ∃ q, k = q + 1 := ⟨k - 1, by omega⟩
  have hil : i < z.length := by omega
  have hno : sizeB order (rd z (i : Int)) = false → (if ∀ i, i < z.length → sizeB order (rd z (i : Int)) = true then V else ((0 : Int), false)) = (0, false) := fun hf => if_neg fun h => by have := h i hil; rw [hf] at this; cases this
  rw [croftref11_Least.l0, if_pos (by omega), if_pos (by omega), sPower_f, Option.bind_some, sR_f base limit hmm.1 hmm.2.1, Option.bind_some]
  by_cases hpw : powB (rd z (i : Int)) = true
  ·rw [if_pos hpw]
   by_cases h16 : rd z (i : Int) < 16
   ·rw [if_pos h16, hno]
    unfold sizeB
    rw [decide_eq_false (show ¬ 16 ≤ rd z (i : Int) by omega)]; simp
   ·rw [if_neg h16]
    by_cases hR : rd z (i : Int) > RR order
    ·rw [if_pos hR, hno]
     unfold sizeB
     rw [decide_eq_false (show ¬ rd z (i : Int) ≤ RR order by omega)]; simp
    ·rw [if_neg hR, inc64 (by omega)]
     refine ih k (i + 1) (by omega) (by omega) (fun q hq => ?_)
     by_cases e : q = i
     ·rw [e]; exact sizeB_iff.2 ⟨hpw, by omega, by omega⟩
     ·exact hok q (by omega)
  ·rw [if_neg hpw, hno]
   unfold sizeB
   rw [show powB (rd z (i : Int)) = false by simpa using hpw]; rfl
theorem all_rd : (∀ i, i < z.length → sizeB order (rd z (i : Int)) = true) ↔ z.all (sizeB order) = true := by
 rw [List.all_eq_true]
 constructor
 ·intro h x hx
  obtain ⟨i, hi, rfl⟩ := List.getElem_of_mem hx
  have := h i hi
  rwa [rdI hi] at this
 ·intro h i hi
  rw [rdI hi]; exact h _ (List.getElem_mem hi)
/-- Enough rounds for Least. -/
def leastRounds (a b : Nat) : Nat := a * (a + 2) + 17 * (b + 1800000) + b + 400000
/-- The reference's Least. -/
theorem refLeast_f (hb0 : 0 ≤ base) (hb : base < 18446744073709551616) (hw : Wd49 lv) (hl : lv.length ≤ 8796093021952) (hz : z.length ≤ 17592186043904) {k : Nat} (hk : leastRounds lv.length z.length < k) :
  croftref11_Least.f k base limit order lv z = some (leastI base limit order (cv lv) z) := by
 unfold leastRounds at hk
 obtain ⟨L, hLe⟩ : ∃ L, z.length + 1800000 = L := ⟨_, rfl⟩
 rw [hLe] at hk
 have hLe := Nat.le_of_eq hLe
 obtain ⟨k, rfl⟩ : ∃ q, k = q + 1 := ⟨k - 1, by omega⟩
 have hbad : croftref11_Least.j0 (k + 1) lv z true base limit order = some (0, false) := by rw [croftref11_Least.j0, if_pos rfl]
 have hwd := cv_wd hw
 unfold croftref11_Least.f
 rw [sMay_f k hb0 hb, Option.bind_some]
 by_cases hm : mayB base limit order = true
 case neg => rw [if_neg hm, hbad, least_1 (fun h => hm (sound_says hwd h).1)]
 rw [if_pos hm, refSound_f hb0 hb hw hl (by omega), Option.bind_some]
 by_cases hs : soundI base limit order limit (cv lv) = -1
 case neg =>
  rw [show (soundI base limit order limit (cv lv) != -1) = true from bne_iff_ne.2 hs, hbad, least_1 hs]
 rw [hs, show ((-1 : Int) != -1) = false from rfl, croftref11_Least.j0, if_neg (by decide)]
 obtain ⟨-, h0, hn, m, hsc, hrun, -⟩ := sound_says hwd hs
 have hmm := mayB_iff.1 hm
 have h : St base limit order limit lv m := ⟨hm, h0, Int.le_refl _, hb0, hw, hrun⟩
 have hl1 := least_l1 (z := z) h hb hz (L := L) hLe (limit.toNat + 1)
 have hl0 := least_l0 (lv := lv) (z := z) hm hz (K := 17 * L + 300100) (V := outOf (findF (fun N => decide (topI m order.toNat ≤ N) && fitAt m order.toNat (needOf m order z) N) (limit.toNat + 1) 0)) (fun _ k hk => hl1 k 0 (by omega) (by omega)) z.length k 0 (by omega) (by omega) (fun q hq => by omega)
 rw [show ((0 : Nat) : Int) = 0 from rfl] at hl0
 rw [hl0]
 by_cases hall : ∀ i, i < z.length → sizeB order (rd z (i : Int)) = true
 ·rw [if_pos hall, least_3 hs (all_rd.1 hall) hsc]
  have htop : topI m order.toNat ≤ limit.toNat := (top_iff h (N := limit.toNat) (by omega)).1 (by
   rw [Int.toNat_of_nonneg h0]
   exact fun b hb => (h.says.2.2 b hb).1)
  have hsk := find_skip (p := fun N => decide (topI m order.toNat ≤ N) && fitAt m order.toNat (needOf m order z) N) (q := fitAt m order.toNat (needOf m order z)) (t := topI m order.toNat) (fun k hk => by rw [decide_eq_false (by omega)]; rfl) (fun k hk => by rw [decide_eq_true hk]; rfl) (limit.toNat + 1) 0 (Nat.zero_le _) (by omega)
  rw [hsk, Nat.zero_add]
 ·rw [if_neg hall, least_2]
  cases e : z.all (sizeB order) with
  | false => rfl
  | true => exact absurd (all_rd.2 e) hall
end
end Go.Proofs.Ytihfblnjgaalcaa.OL
