/- OracleRises, plain. -/
import Derived.Test.YtihfblnjgaalcaaRRi2
import Derived.Test.YtihfblnjgaalcaaXFit0
namespace Go.Proofs.Ytihfblnjgaalcaa.OX
open Go Go.RowKit Go.Proofs.Ytihfblnjgaalcaa.R Go.Proofs.Ytihfblnjgaalcaa.OP Go.Proofs.Ytihfblnjgaalcaa.OB Go.Proofs.Ytihfblnjgaalcaa.OV Go.Proofs.Ytihfblnjgaalcaa.OS Go.Proofs.Ytihfblnjgaalcaa.OW Go.Proofs.Ytihfblnjgaalcaa.ON Go.Proofs.Ytihfblnjgaalcaa.OC
set_option linter.unusedVariables false
set_option linter.unusedSimpArgs false
theorem dec64 {i : Nat} (h : i < 9223372036854775807) : wrap64 (((i + 1 : Nat) : Int) - 1 - 1) = (i : Int) - 1 := by unfold wrap64; omega
theorem rev_drop {α : Type} (l : List α) {i : Nat} (h : i < l.length) : (l.drop (i + 1)).reverse ++ [l[i]] = (l.drop i).reverse := by
  rw [List.drop_eq_getElem_cons h, List.reverse_cons]
theorem turned_l0 (l : List S49) (hl : l.length ≤ 8796093021952) : ∀ (i k : Nat), i ≤ l.length → i < k → croftlaw11_turned.l0 k l (l.drop i).reverse ((i : Int) - 1) = some l.reverse
  | 0, k, hi, hk => by
    obtain ⟨k, rfl⟩ : ∃ m, k = m + 1 := ⟨k - 1, by omega⟩
    rw [croftlaw11_turned.l0, if_neg (by omega)]
    rfl
  | i + 1, k, hi, hk => by
    obtain ⟨k, rfl⟩ : ∃ m, k = m + 1 := ⟨k - 1, by omega⟩
    have hlen : (l.drop (i + 1)).reverse.length < 8796093022208 := by rw [List.length_reverse, List.length_drop]; omega
    rw [croftlaw11_turned.l0, if_pos (by omega), if_pos (by omega), if_pos (by omega), if_pos hlen, dec64 (by omega)]
    have e : ((i + 1 : Nat) : Int) - 1 = (i : Int) := by omega
    rw [e, rd49 (show i < l.length by omega)]
    have e2 : (l.drop (i + 1)).reverse ++ [(⟨(l[i]'(by omega)).f0, (l[i]'(by omega)).f1⟩ : S49)] = (l.drop i).reverse := rev_drop l (by omega)
    rw [e2]
    exact turned_l0 l hl i k (by omega) (by omega)
theorem turned_f {l : List S49} (hl : l.length ≤ 8796093021952) {k : Nat} (hk : l.length < k) : croftlaw11_turned.f k l = some l.reverse := by
  unfold croftlaw11_turned.f
  have e : wrap64 ((l.length : Int) - 1) = (l.length : Int) - 1 := by unfold wrap64; omega
  have h := turned_l0 l hl l.length k (Nat.le_refl _) hk
  rw [List.drop_length] at h
  rw [e]
  exact h
/-- NoFit for whole pages, by stretches. -/
theorem nofit_big {base limit order n r : Int} {l : List S55} {m : PM} (hw : OP.Wd l) (hr : 0 ≤ r ∧ r < 18446744073709551616) (hs : soundI base limit order n l = -1) (hz : sizeB order r = true) (hr4 : ¬ r < 4096) (hsc : scan base order n PM.none l 0 = (some m, -1)) (ht : Tells base l m) {u : Nat}
    (hTu : totP order n = pgs r * u) (hpg : 1 ≤ pgs r) (hu : u ≤ 1024) : nofitB base limit order n l r = true ↔ ∀ j, j < u → occ m (totP order n) (pgs r) j = true := by
  rw [nofit_3 hs hz hsc, part_big ht hr4, Bool.not_false, Bool.and_true, decide_eq_true_eq]
  exact occ_all (by omega) hTu hu
theorem unit_le {order n : Int} {pg u : Nat} (hT : totP order n ≤ 1024) (hTu : totP order n = pg * u) (hpg : 1 ≤ pg) : u ≤ 1024 := by
  have : u ≤ pg * u := Nat.le_mul_of_pos_left u (by omega)
  omega
theorem occ_coarse {m : PM} {T a c u j : Nat} (ha : 1 ≤ a) (hc : 1 ≤ c) (h : occ m T a (c * j) = true) : occ m T (a * c) j = true := by
  rw [occ_iff] at h ⊢
  obtain ⟨x, h1, h2, h3⟩ := h
  have h2 := (div_iff (show 0 < a by omega)).1 h2
  refine ⟨x, h1, (div_iff (Nat.mul_pos (by omega) (by omega))).2 ?_, h3⟩
  have e1 : a * c * j = a * (c * j) := Nat.mul_assoc ..
  have e2 : a ≤ a * c := Nat.le_mul_of_pos_right a (by omega)
  omega
/-- A greater size fits no more than a smaller one. -/
theorem rise {base limit order n r : Int} {l : List S55} {c : Nat} (hw : OP.Wd l) (hr : 16 ≤ r) (hc : 1 ≤ c) (hz2 : sizeB order (r * (c : Int)) = true) (h4 : ¬ r * (c : Int) < 4096) (hr2 : r * (c : Int) < 18446744073709551616) (hr3 : r < 18446744073709551616) (h : nofitB base limit order n l r = true)
    (hcut : pgs (r * (c : Int)) = pgs r ∨ ∃ d, 1 ≤ d ∧ pgs (r * (c : Int)) = pgs r * d) : nofitB base limit order n l (r * (c : Int)) = true := by
  obtain ⟨hm, h0, hn, hz, m, hrun, ht, hocc, -⟩ := nofit_says hw ⟨by omega, hr3⟩ h
  have hs : soundI base limit order n l = -1 := by
    apply Decidable.byContradiction
    intro h2
    rw [nofit_1 h2] at h; cases h
  obtain ⟨-, -, -, m2, hsc, hrun2, ht2, -, -⟩ := sound_says hw hs
  obtain rfl : m = m2 := Option.some.inj (hrun.symm.trans hrun2)
  have hmm := mayB_iff.1 hm
  have hT := tot_eq hm h0 hn
  obtain ⟨-, u, hu, hp⟩ := pgs_cut hmm.1 hmm.2.1 h0 ⟨by omega, hr3⟩ hz (n := n)
  obtain ⟨-, v, hv, hq⟩ := pgs_cut hmm.1 hmm.2.1 h0 ⟨by omega, hr2⟩ hz2 (n := n)
  rw [nofit_big hw ⟨by omega, hr2⟩ hs hz2 h4 hsc ht hv hq (unit_le hT.2 hv hq)]
  have hall := (occ_all (m := m) (by omega) hu (unit_le hT.2 hu hp)).1 hocc
  intro j hj
  have hd : ∃ d, 1 ≤ d ∧ pgs (r * (c : Int)) = pgs r * d := by
    rcases hcut with h | h
    · exact ⟨1, Nat.le_refl 1, by omega⟩
    · exact h
  obtain ⟨d, hd1, hd2⟩ := hd
  rw [hd2]
  have huv : u = d * v := by
    have e : pgs r * u = pgs r * (d * v) := by rw [← hu, hv, hd2, Nat.mul_assoc]
    exact Nat.eq_of_mul_eq_mul_left (by omega) e
  refine occ_coarse (u := u) hp hd1 (hall _ ?_)
  rw [huv]
  exact (Nat.mul_lt_mul_left (by omega)).2 hj
theorem pgs_pow {e : Nat} : pgs ((2 ^ e : Nat) : Int) = 2 ^ (e - 12) := by
  unfold pgs
  by_cases h : e ≤ 12
  · have h2 : 2 ^ e ≤ 2 ^ 12 := Nat.pow_le_pow_right (by decide) h
    rw [Int.max_eq_right (by omega), show e - 12 = 0 by omega]; rfl
  · have h2 : 2 ^ e = 4096 * 2 ^ (e - 12) := by rw [show (4096 : Nat) = 2 ^ 12 from rfl, ← Nat.pow_add]; congr 1; omega
    have h3 : 1 ≤ 2 ^ (e - 12) := Nat.one_le_two_pow
    rw [Int.max_eq_left (by omega)]; omega
theorem rises_at {base limit order n : Int} {l : List S55} {e f : Nat} (hw : OP.Wd l) (he : 4 ≤ e) (hef : e ≤ f) (hf12 : 12 ≤ f) (hz2 : sizeB order ((2 ^ f : Nat) : Int) = true) (hf : f ≤ 20) (h : nofitB base limit order n l ((2 ^ e : Nat) : Int) = true) : nofitB base limit order n l ((2 ^ f : Nat) : Int) = true := by
  have h1 : ((2 ^ f : Nat) : Int) = ((2 ^ e : Nat) : Int) * ((2 ^ (f - e) : Nat) : Int) := by rw [← Int.natCast_mul, ← Nat.pow_add]; congr 2; omega
  have h2 : 2 ^ f ≤ 2 ^ 20 := Nat.pow_le_pow_right (by decide) hf
  have h3 : 2 ^ e ≤ 2 ^ 20 := Nat.pow_le_pow_right (by decide) (by omega)
  have h4 : 2 ^ 12 ≤ 2 ^ f := Nat.pow_le_pow_right (by decide) hf12
  have h5 : 2 ^ 4 ≤ 2 ^ e := Nat.pow_le_pow_right (by decide) he
  rw [h1] at hz2 ⊢
  refine rise hw (by omega) Nat.one_le_two_pow hz2 (by rw [← h1]; omega) (by rw [← h1]; omega) (by omega) h (Or.inr ⟨2 ^ (f - 12 - (e - 12)), Nat.one_le_two_pow, ?_⟩)
  rw [← h1, pgs_pow, pgs_pow, ← Nat.pow_add]
  congr 1; omega
theorem total_ge {base limit order n : Int} (hm : mayB base limit order = true) : ∀ {l : List S55}, (∀ b ∈ l, okB base order n b = true) → 16 * (l.length : Int) ≤ total l
  | [], _ => Int.le_refl _
  | b :: l, h => by
    have h1 := total_ge (n := n) hm (l := l) (fun c hc => h c (List.mem_cons_of_mem _ hc))
    have h2 := (sizeB_iff.1 (okB_iff.1 (h b (List.mem_cons_self ..))).1).2.1
    have h3 : total (b :: l) = b.f1 + total l := rfl
    rw [h3, List.length_cons]; omega
theorem sound_len {base limit order n : Int} {l : List S55} (hw : OP.Wd l) (h : soundI base limit order n l = -1) : l.length ≤ 262144 := by
  obtain ⟨hm, h0, hn, m, hsc, hrun, ht, hf, hall⟩ := sound_says hw h
  have h1 := run_bytes hm h0 hn l PM.none m hw hrun
  rw [bytes_none] at h1
  have h2 := sumR_le (f := byteAt m) (B := 4096) (by omega) 1024 (fun x _ => (byte_bd ht x).2)
  have h3 := total_ge (n := n) hm (fun b hb => (hall b hb).1)
  omega
/-- One block more leaves what does not fit. -/
theorem more_nofit {base limit order n r : Int} {l : List S55} {b : S55} (hw : OP.Wd l) (hwb : OP.Wd (l.reverse ++ [b])) (hr : 0 ≤ r ∧ r < 18446744073709551616) (h4 : ¬ r < 4096) (h : nofitB base limit order n l r = true) (hs : soundI base limit order n (l.reverse ++ [b]) = -1) : nofitB base limit order n (l.reverse ++ [b]) r = true := by
  have h' : nofitB base limit order n l.reverse r = true := by rw [← nofit_perm (List.reverse_perm l).symm (fun b hb => (hw b hb).2.1)]; exact h
  obtain ⟨hm, h0, hn, hz, m, hrun, ht, hocc, -⟩ := nofit_says (l := l.reverse) (fun b hb => hw b (List.mem_reverse.1 hb)) hr h'
  obtain ⟨-, -, -, m2, hsc2, hrun2, ht2, -, -⟩ := sound_says hwb hs
  have hmm := mayB_iff.1 hm
  have hT := tot_eq hm h0 hn
  obtain ⟨-, u, hu, hp⟩ := pgs_cut hmm.1 hmm.2.1 h0 hr hz (n := n)
  rw [nofit_big hwb hr hs hz h4 hsc2 ht2 hu hp (unit_le hT.2 hu hp)]
  have hall := (occ_all (m := m) (by omega) hu (unit_le hT.2 hu hp)).1 hocc
  intro j hj
  obtain ⟨x, a, c, d⟩ := occ_iff.1 (hall j hj)
  refine occ_iff.2 ⟨x, a, c, ?_⟩
  obtain ⟨e, he, ho⟩ := (told_iff ht _).1 d
  exact (told_iff ht2 _).2 ⟨e, List.mem_append_left _ he, ho⟩
theorem exp_bd {order : Int} {f : Nat} (h0 : 0 ≤ order) (h8 : order ≤ 8) : ((2 ^ f : Nat) : Int) ≤ RR order ↔ f ≤ 12 + order.toNat := by
  rw [RR_exp h0, Int.ofNat_le, Nat.pow_le_pow_iff_right (by decide)]
theorem size_exp {order : Int} {f : Nat} (h0 : 0 ≤ order) (h8 : order ≤ 8) (h4 : 4 ≤ f) (hf : f ≤ 12 + order.toNat) : sizeB order ((2 ^ f : Nat) : Int) = true := by
  have h2 : 2 ^ f ≤ 2 ^ 20 := Nat.pow_le_pow_right (by decide) (by omega)
  have hnn : (0 : Int) ≤ ((2 ^ f : Nat) : Int) := Int.natCast_nonneg _
  exact (sizeB_exp h0 (by omega) (by omega)).2 ⟨f, h4, hf, rfl⟩
/-- What comes behind the loop. -/
theorem rises_end {base limit order n r bp bs : Int} {l : List S49} (hb0 : 0 ≤ base) (hb : base < 18446744073709551616) (hw : Wd49 l) (hl : l.length ≤ 8796093021952) (hr0 : 0 ≤ r) (hr : r < 18446744073709551616) (hp : 0 ≤ bp ∧ bp < 18446744073709551616) (hs : 0 ≤ bs ∧ bs < 18446744073709551616)
    (h : nofitB base limit order n (cv l) r = true) {k : Nat} (hk : (l.length + 1) * (l.length + 1 + 2) + l.length + 20 < k) :
    ((croftlaw11_turned.f k l).bind fun t214 => ((some (([(⟨bp, bs⟩ : S49)] : List (S49)) : List (S49))).bind fun y217 => (if t214.length + y217.length < 8796093022208 then ((some (t214 ++ y217 : List (S49))).bind fun y220 => ((croftlaw11_blocks.f k y220).bind fun t223 => ((croftref11_Sound.f k base limit order n y220).bind fun t226 => (if t226 = (-1) then (if r < 4096 then (some true) else (if 0 ≤ (y220.length : Int) then (if (y220.length : Int) ≤ (t223.length : Int) then ((oracle_NoFit.f base limit order n (t223.take ((y220.length : Int) : Int).toNat) r).bind fun t231 => (some t231)) else (none)) else (none))) else (some true))))) else (none)))) = some true := by
  have hs1 : soundI base limit order n (cv l) = -1 := by
    apply Decidable.byContradiction
    intro h2
    rw [nofit_1 h2] at h; cases h
  have hlen := sound_len (cv_wd hw) hs1
  rw [cv_length] at hlen
  have hw2 : Wd49 (l.reverse ++ [(⟨bp, bs⟩ : S49)]) := by
    intro c hc
    rcases List.mem_append.1 hc with hc | hc
    · exact hw c (List.mem_reverse.1 hc)
    · rw [List.mem_singleton.1 hc]; exact ⟨hp, hs⟩
  have hl2 : (l.reverse ++ [(⟨bp, bs⟩ : S49)]).length = l.length + 1 := by rw [List.length_append, List.length_reverse]; rfl
  rw [turned_f hl (by omega), Option.bind_some, Option.bind_some, if_pos (by rw [List.length_reverse]; show l.length + 1 < _; omega), Option.bind_some, blocks_f (by omega) (by rw [hl2]; omega), Option.bind_some, refSound_f hb0 hb hw2 (by omega) (by rw [hl2]; omega), Option.bind_some]
  by_cases hs2 : soundI base limit order n (cv (l.reverse ++ [(⟨bp, bs⟩ : S49)])) = -1
  · rw [if_pos hs2]
    by_cases h4 : r < 4096
    · rw [if_pos h4]
    · rw [if_neg h4, if_pos (by omega), if_pos (by rw [marks_length]; omega), take_cv _ _ rfl, nofit_fr hb0 hb hw2 (by omega) hr0 hr, Option.bind_some]
      have e : cv (l.reverse ++ [(⟨bp, bs⟩ : S49)]) = (cv l).reverse ++ [(⟨bp, bs⟩ : S55)] := by
        unfold cv
        rw [List.map_append, List.map_reverse]; rfl
      have hwd := cv_wd hw2
      rw [e] at hs2 hwd ⊢
      rw [more_nofit (cv_wd hw) hwd ⟨hr0, hr⟩ h4 h hs2]
  · rw [if_neg hs2]
theorem rises_l0 {base limit order n bp bs : Int} {dn : Bool} {l : List S49} {e : Nat} (hm : mayB base limit order = true) (hb0 : 0 ≤ base) (hb : base < 18446744073709551616) (hw : Wd49 l) (hl : l.length ≤ 8796093021952) (hp : 0 ≤ bp ∧ bp < 18446744073709551616) (hs : 0 ≤ bs ∧ bs < 18446744073709551616)
    (he : 4 ≤ e) (he2 : e ≤ 12 + order.toNat) (h : nofitB base limit order n (cv l) ((2 ^ e : Nat) : Int) = true) (d : Nat) :
    ∀ (k f : Nat), f + d = 13 + order.toNat → e ≤ f → (l.length + 1) * (l.length + 1 + 2) + l.length + 21 + d < k → croftlaw11_OracleRises.l0 k (cv l ++ marks) ((2 ^ f : Nat) : Int) base limit order n l ((2 ^ e : Nat) : Int) dn bp bs base limit order = some true := by
  have hmm := mayB_iff.1 hm
  have h0 := hmm.1
  have h8 := hmm.2.1
  have hep : 2 ^ e ≤ 2 ^ 20 := Nat.pow_le_pow_right (by decide) (by omega)
  have hen : (0 : Int) ≤ ((2 ^ e : Nat) : Int) := Int.natCast_nonneg _
  have hend : ∀ k, (l.length + 1) * (l.length + 1 + 2) + l.length + 20 < k → _ := fun k hk => rises_end (limit := limit) (order := order) (n := n) (r := ((2 ^ e : Nat) : Int)) hb0 hb hw hl (by omega) (by omega) hp hs h hk
  induction d with
  | zero =>
    intro k f hf hef hk
    obtain ⟨k, rfl⟩ : ∃ m, k = m + 1 := ⟨k - 1, by omega⟩
    rw [croftlaw11_OracleRises.l0, sR_f base limit h0 h8, Option.bind_some, if_neg (by rw [exp_bd h0 h8]; omega)]
    exact hend k (by omega)
  | succ d ih =>
    intro k f hf hef hk
    obtain ⟨k, rfl⟩ : ∃ m, k = m + 1 := ⟨k - 1, by omega⟩
    have hfp : 2 ^ f ≤ 2 ^ 20 := Nat.pow_le_pow_right (by decide) (by omega)
    have hfn : (0 : Int) ≤ ((2 ^ f : Nat) : Int) := Int.natCast_nonneg _
    have hdbl : IntKind.u64.wrap (((2 ^ f : Nat) : Int) * 2) = ((2 ^ (f + 1) : Nat) : Int) := by
      rw [u64_in (by omega) (by omega), Nat.pow_succ]; omega
    have hnext := ih k (f + 1) (by omega) (by omega) (by omega)
    rw [croftlaw11_OracleRises.l0, sR_f base limit h0 h8, Option.bind_some, if_pos ((exp_bd h0 h8).2 (by omega)), hdbl, hnext]
    by_cases h4 : ((2 ^ f : Nat) : Int) ≥ 4096
    · have h12 : 12 ≤ f := by
        apply Decidable.byContradiction
        intro hc
        have : 2 ^ f ≤ 2 ^ 11 := Nat.pow_le_pow_right (by decide) (by omega)
        omega
      rw [if_pos h4, if_pos (by omega), if_pos (by rw [marks_length]; omega), take_cv l l.length rfl, nofit_fr hb0 hb hw hl (by omega) (by omega), Option.bind_some, rises_at (cv_wd hw) he hef h12 (size_exp h0 h8 (by omega) (by omega)) (by omega) h, if_pos rfl]
    · rw [if_neg h4]
theorem rises_f {base limit order n r bp bs : Int} {dn : Bool} {l : List S49} (hb0 : 0 ≤ base) (hb : base < 18446744073709551616) (hw : Wd49 l) (hl : l.length ≤ 8796093021952) (hr0 : 0 ≤ r) (hr : r < 18446744073709551616) (hp : 0 ≤ bp ∧ bp < 18446744073709551616) (hs : 0 ≤ bs ∧ bs < 18446744073709551616) :
    croftlaw11_OracleRises.f ((l.length + 1) * (l.length + 1 + 2) + l.length + 100) base limit order n l r dn bp bs = some true := by
  unfold croftlaw11_OracleRises.f
  rw [awake_ge (by omega), Option.bind_some, if_pos rfl, blocks_f hl (by omega), Option.bind_some]
  unfold croftlaw11_config.f
  rw [Option.bind_some, if_pos (by omega), if_pos (by rw [marks_length]; omega), take_cv l l.length rfl, nofit_fr hb0 hb hw hl hr0 hr, Option.bind_some]
  by_cases h : nofitB base limit order n (cv l) r = true
  · rw [if_pos h]
    obtain ⟨hm, -, -, hz, -⟩ := nofit_says (cv_wd hw) ⟨hr0, hr⟩ h
    have hmm := mayB_iff.1 hm
    obtain ⟨e, he, he2, rfl⟩ := (sizeB_exp hmm.1 hr0 hr).1 hz
    exact rises_l0 hm hb0 hb hw hl hp hs he he2 h (13 + order.toNat - e) _ e (by omega) (Nat.le_refl _) (by have := hmm.2.1; omega)
  · rw [if_neg h]
end Go.Proofs.Ytihfblnjgaalcaa.OX
