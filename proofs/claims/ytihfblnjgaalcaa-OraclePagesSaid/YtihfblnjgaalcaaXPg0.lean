/- Least with no blocks that stay: the pages of sizes; the pages of a sound list. -/
import Derived.Test.YtihfblnjgaalcaaXFit0
namespace Go.Proofs.Ytihfblnjgaalcaa.OX
open Go Go.RowKit Go.Proofs.Ytihfblnjgaalcaa.R Go.Proofs.Ytihfblnjgaalcaa.OP Go.Proofs.Ytihfblnjgaalcaa.OB Go.Proofs.Ytihfblnjgaalcaa.OV Go.Proofs.Ytihfblnjgaalcaa.OS Go.Proofs.Ytihfblnjgaalcaa.OW Go.Proofs.Ytihfblnjgaalcaa.OF Go.Proofs.Ytihfblnjgaalcaa.ON Go.Proofs.Ytihfblnjgaalcaa.OC
set_option linter.unusedVariables false
set_option linter.unusedSimpArgs false
/-- Pages of great blocks; of all. -/
def bigP : List Int → Int
  | [] => 0
  | s :: z => (if s < 4096 then 0 else s / 4096) + bigP z
def smallP (z : List Int) : Int := extra (fun s => (cnt z s : Int))
def pagesP (z : List Int) : Int := smallP z + bigP z
def bigF (z : List Int) : Nat → Nat
  | 0 => 0
  | d + 1 => bigF z d + cnt z (4096 * 2 ^ d) * 2 ^ d
theorem cnt_cons (s x : Int) (z : List Int) : cnt (s :: z) x = cnt z x + if s = x then 1 else 0 := by
  unfold cnt
  rw [List.countP_cons]
  by_cases h : s = x <;> simp [h]
theorem pow4_inj {a b : Nat} (h : (4096 : Int) * 2 ^ a = 4096 * 2 ^ b) : a = b := by
  have h2 : (2 : Int) ^ a = 2 ^ b := by omega
  rw [pow_nat, pow_nat] at h2
  exact (Nat.pow_right_inj (a := 2) (by decide)).1 (by omega)
theorem bigF_small {s : Int} (hs : s < 4096) (z : List Int) : ∀ d, bigF (s :: z) d = bigF z d
  | 0 => rfl
  | d + 1 => by
    have hp : (0 : Int) < 2 ^ d := Int.pow_pos (by decide)
    rw [bigF, bigF, bigF_small hs z d, cnt_cons, if_neg (by omega), Nat.add_zero]
theorem bigF_big {j : Nat} (z : List Int) : ∀ d, bigF ((4096 * 2 ^ j) :: z) d = bigF z d + if j < d then 2 ^ j else 0
  | 0 => by simp [bigF]
  | d + 1 => by
    rw [bigF, bigF, bigF_big z d, cnt_cons]
    by_cases e : j = d
    · subst e
      rw [if_pos rfl, if_neg (by omega), if_pos (by omega), Nat.add_mul, Nat.one_mul]; omega
    · rw [if_neg (fun h => e (pow4_inj h)), Nat.add_zero]
      by_cases h : j < d
      · rw [if_pos h, if_pos (by omega)]; omega
      · rw [if_neg h, if_neg (by omega)]; omega
theorem bigF_eq {order : Int} (h0 : 0 ≤ order) (h8 : order ≤ 8) : ∀ {z : List Int}, (∀ s ∈ z, 0 ≤ s ∧ s < 18446744073709551616 ∧ sizeB order s = true) → (bigF z (order.toNat + 1) : Int) = bigP z
  | [], _ => by
    have : ∀ d, bigF [] d = 0 := fun d => by
      induction d with
      | zero => rfl
      | succ d ih => rw [bigF, ih]; simp [cnt]
    rw [this]; rfl
  | s :: z, h => by
    have ih := bigF_eq h0 h8 (z := z) (fun x hx => h x (List.mem_cons_of_mem _ hx))
    obtain ⟨a, b, c⟩ := h s (List.mem_cons_self ..)
    by_cases hs : s < 4096
    · rw [bigF_small hs, ih, bigP, if_pos hs, Int.zero_add]
    · obtain ⟨j, hj, rfl⟩ := size_big h0 a b c hs
      have e : (((4096 * 2 ^ j : Nat) : Int)) = 4096 * 2 ^ j := by rw [Int.natCast_mul, pow_nat]; rfl
      rw [bigP, if_neg hs, ← ih]
      rw [show (((4096 * 2 ^ j : Nat) : Int) :: z) = ((4096 * 2 ^ j : Int) :: z) from by rw [e]] at *
      rw [bigF_big, if_pos (by omega)]
      omega
theorem takes_add (need : List Nat) (k : Nat) : ∀ d e j, takes need k (d + e) j = takes need k d j + takes need k e (j + d)
  | 0, e, j => by rw [takes, Nat.zero_add, Nat.zero_add]; rfl
  | d + 1, e, j => by
    rw [show d + 1 + e = d + e + 1 by omega, takes, takes_add need k d e (j + 1), takes, show j + 1 + d = j + (d + 1) by omega]; omega
theorem takes_scale (need : List Nat) (k : Nat) : ∀ d j, k ≤ j → takes need k d j * 2 ^ k = takes need 0 d j
  | 0, j, _ => by rw [takes, takes, Nat.zero_mul]
  | d + 1, j, h => by
    rw [takes, takes, Nat.add_mul, takes_scale need k d (j + 1) (by omega), Nat.mul_assoc, ← Nat.pow_add, show j - k + k = j - 0 by omega]
theorem takesAll_le (need : List Nat) (k : Nat) (h : k ≤ need.length) : takesAll need k * 2 ^ k ≤ takesAll need 0 := by
  unfold takesAll
  rw [takes_scale need k _ k (Nat.le_refl _)]
  have := takes_add need 0 k (need.length - k) 0
  rw [show k + (need.length - k) = need.length - 0 by omega, Nat.zero_add] at this
  omega
theorem bigs_length (order : Int) (z : List Int) : (bigs order z).length = order.toNat + 1 := by unfold bigs; rw [List.length_map, List.length_range]
theorem need_length (m : PM) (order : Int) (z : List Int) : (needOf m order z).length = order.toNat + 1 := by unfold needOf; rw [List.length_set, bigs_length]
theorem bigs_at {order : Int} {z : List Int} {j : Nat} (h : j < order.toNat + 1) : (bigs order z).getD j 0 = cnt z (4096 * 2 ^ j) := by
  unfold bigs
  rw [List.getD_eq_getElem?_getD, List.getElem?_map, List.getElem?_range h]; rfl
theorem set_at {need : List Nat} {v j : Nat} (h : 0 < need.length) : (need.set 0 v).getD j 0 = if j = 0 then v else need.getD j 0 := by
  rw [List.getD_eq_getElem?_getD, List.getElem?_set]
  by_cases e : j = 0
  · subst e; rw [if_pos rfl, if_pos rfl, if_pos h]; rfl
  · rw [if_neg (by omega), if_neg e, List.getD_eq_getElem?_getD]
/-- All that is wanted, in pages. -/
theorem takes_need (m : PM) {order : Int} {z : List Int} : ∀ d, d ≤ order.toNat → takes (needOf m order z) 0 (d + 1) 0 = (extra (fun s => (cnt z s : Int) - roomAll m s)).toNat + bigF z (d + 1)
  | 0, _ => by
    have hb := bigs_length order z
    rw [takes, takes]
    unfold needOf
    rw [set_at (by omega), if_pos rfl]
    show _ = _ + (0 + cnt z (4096 * 2 ^ 0) * 2 ^ 0)
    rw [show (4096 : Int) * 2 ^ 0 = 4096 from rfl]
    omega
  | d + 1, h => by
    have hb := bigs_length order z
    rw [takes_snoc, takes_need m d (by omega), show bigF z (d + 1 + 1) = bigF z (d + 1) + cnt z (4096 * 2 ^ (d + 1)) * 2 ^ (d + 1) from rfl, Nat.zero_add]
    unfold needOf
    rw [set_at (by omega), if_neg (by omega), bigs_at (by omega)]
    show _ + cnt z (4096 * 2 ^ (d + 1)) * 2 ^ (d + 1) = _
    omega
theorem extra_nonneg (g : Int → Int) : 0 ≤ extra g := by
  unfold extra
  refine sumR_nonneg 8 (fun k hk => ?_)
  obtain ⟨a, b, c, d⟩ := sz8_cells hk
  unfold pagesFor
  exact Int.ediv_nonneg (by omega) (by omega)
theorem all_need (m : PM) {order : Int} {z : List Int} (h0 : 0 ≤ order) (h8 : order ≤ 8) (hz : ∀ s ∈ z, 0 ≤ s ∧ s < 18446744073709551616 ∧ sizeB order s = true) : (takesAll (needOf m order z) 0 : Int) = extra (fun s => (cnt z s : Int) - roomAll m s) + bigP z := by
  unfold takesAll
  rw [need_length, Nat.sub_zero, takes_need m _ (Nat.le_refl _), Int.natCast_add, Int.toNat_of_nonneg (extra_nonneg _), bigF_eq h0 h8 hz]
theorem room_none (s : Int) : roomAll PM.none s = 0 := by
  unfold roomAll
  have : ∀ n, sumR (roomAt PM.none s) n = 0 := fun n => by
    induction n with
    | zero => rfl
    | succ n ih => rw [sumR, ih]; rfl
  exact this _
theorem all_none {order : Int} {z : List Int} (h0 : 0 ≤ order) (h8 : order ≤ 8) (hz : ∀ s ∈ z, 0 ≤ s ∧ s < 18446744073709551616 ∧ sizeB order s = true) : (takesAll (needOf PM.none order z) 0 : Int) = pagesP z := by
  rw [all_need PM.none h0 h8 hz]
  unfold pagesP smallP
  have : (fun s => (cnt z s : Int) - roomAll PM.none s) = fun s => (cnt z s : Int) := funext fun s => by rw [room_none]; omega
  rw [this]
theorem occ_none (T k : Nat) : occN PM.none T k = 0 := by
  unfold occN
  rw [List.countP_eq_zero]
  intro j _ h
  obtain ⟨x, -, -, h3⟩ := occ_iff.1 h
  cases h3
theorem fit_none {need : List Nat} (hn : 0 < need.length) (T : Nat) : fitsB PM.none T need = true ↔ takesAll need 0 ≤ T := by
  unfold fitsB
  rw [all_from, List.all_eq_true]
  constructor
  · intro h
    have := h 0 (List.mem_range.2 hn)
    unfold fitK at this
    rw [occ_none] at this
    have := of_decide_eq_true this
    simp at this
    omega
  · intro h i hi
    have hi := List.mem_range.1 hi
    unfold fitK
    rw [occ_none, Nat.zero_add]
    apply decide_eq_true
    have h1 := takesAll_le need i (by omega)
    have h2 : takesAll need i ≤ T / 2 ^ i := (Nat.le_div_iff_mul_le (Nat.two_pow_pos i)).2 (by omega)
    omega
theorem find_at {p : Nat → Bool} {n : Nat} (hp : ∀ k, p k = true ↔ n ≤ k) : ∀ d s, s ≤ n → findF p d s = if n < s + d then some n else none
  | 0, s, h => by rw [findF, if_neg (by omega)]
  | d + 1, s, h => by
    rw [findF]
    by_cases e : s = n
    · subst e; rw [if_pos ((hp s).2 (Nat.le_refl _)), if_pos (by omega)]
    · rw [if_neg (fun h2 => by have := (hp s).1 h2; omega), find_at hp d (s + 1) (by omega), show s + 1 + d = s + (d + 1) by omega]
theorem top_none (o : Nat) : topI PM.none o = 0 := by
  unfold topI
  have : ∀ n, topR PM.none o n = 0 := fun n => by
    induction n with
    | zero => rfl
    | succ n ih => rw [topR, ih]; rfl
  exact this _
/-- Regions for so many pages. -/
def regsOf (P : Int) (o : Nat) : Int := (P + 2 ^ o - 1) / 2 ^ o
theorem pages_nonneg (z : List Int) (h : ∀ s ∈ z, 0 ≤ s) : 0 ≤ bigP z ∧ 0 ≤ smallP z := by
  constructor
  · induction z with
    | nil => exact Int.le_refl 0
    | cons s z ih =>
      have h1 := ih (fun x hx => h x (List.mem_cons_of_mem _ hx))
      have h2 := h s (List.mem_cons_self ..)
      rw [bigP]
      split <;> omega
  · exact extra_nonneg _
/-- Least with no blocks that stay. -/
theorem least_none {base limit order : Int} {z : List Int} (hm : mayB base limit order = true) (hz : ∀ s ∈ z, 0 ≤ s ∧ s < 18446744073709551616 ∧ sizeB order s = true) :
    leastI base limit order [] z = if regsOf (pagesP z) order.toNat ≤ limit then (regsOf (pagesP z) order.toNat, true) else (0, false) := by
  obtain ⟨o0, o8, l1, l64, -⟩ := mayB_iff.1 hm
  have hs : soundI base limit order limit [] = -1 := by
    unfold soundI
    rw [hm, decide_eq_true (show 0 ≤ limit by omega), decide_eq_true (Int.le_refl limit)]; rfl
  have hall : z.all (sizeB order) = true := List.all_eq_true.2 (fun s hsm => (hz s hsm).2.2)
  rw [least_3 hs hall rfl, top_none]
  have hA := all_none o0 o8 hz
  have hnn := pages_nonneg z (fun s h => (hz s h).1)
  have hP : 0 ≤ pagesP z := by unfold pagesP; omega
  obtain ⟨P, hPe⟩ := Int.eq_ofNat_of_zero_le hP
  rw [hPe] at hA
  have hT : takesAll (needOf PM.none order z) 0 = P := by omega
  have hp2 : 0 < 2 ^ order.toNat := Nat.two_pow_pos _
  have hr : regsOf (pagesP z) order.toNat = (((P + 2 ^ order.toNat - 1) / 2 ^ order.toNat : Nat) : Int) := by
    unfold regsOf
    rw [hPe, pow_nat]
    rw [show (P : Int) + ((2 ^ order.toNat : Nat) : Int) - 1 = ((P + 2 ^ order.toNat - 1 : Nat) : Int) by omega]
    rfl
  generalize hq : (P + 2 ^ order.toNat - 1) / 2 ^ order.toNat = q at hr
  have hiff : ∀ k, fitAt PM.none order.toNat (needOf PM.none order z) k = true ↔ q ≤ k := by
    intro k
    unfold fitAt
    rw [fit_none (by rw [need_length]; omega), hT, ← hq]
    have h1 : P ≤ k * 2 ^ order.toNat ↔ (P + 2 ^ order.toNat - 1) / 2 ^ order.toNat < k + 1 := by
      rw [Nat.div_lt_iff_lt_mul hp2, Nat.add_mul, Nat.one_mul]; omega
    rw [h1]; omega
  rw [find_at hiff _ 0 (Nat.zero_le _), hr, Nat.sub_zero, Nat.zero_add]
  by_cases h : q < limit.toNat + 1
  · rw [if_pos h, if_pos (by omega)]; rfl
  · rw [if_neg h, if_neg (by omega)]; rfl
theorem least_bad {base limit order : Int} {l : List S55} {z : List Int} (h : ¬ (mayB base limit order = true ∧ ∀ s ∈ z, sizeB order s = true)) : (leastI base limit order l z).2 = false := by
  by_cases hm : mayB base limit order = true
  · rw [least_2]
    cases e : z.all (sizeB order) with
    | false => rfl
    | true => exact absurd ⟨hm, fun s hs => List.all_eq_true.1 e s hs⟩ h
  · rw [least_1]
    intro hs
    unfold soundI at hs
    have : mayB base limit order = false := by simpa using hm
    rw [this] at hs
    simp at hs
/-! ### the pages of a sound list -/
def byteQ (p : Int → Bool) (m : PM) (x : Nat) : Int := match m (x : Int) with
  | some (.great s) => if p s = true then 4096 else 0
  | some (.small z _ q) => if p z = true then (q : Int) * z else 0
  | none => 0
def totalQ (p : Int → Bool) : List S55 → Int
  | [] => 0
  | b :: l => (if p b.f1 = true then b.f1 else 0) + totalQ p l
theorem byteQ_add {p : Int → Bool} {b : S55} {o : Option Lot} {m m' : PM} {x : Nat} (h : m' (x : Int) = addL b (m (x : Int))) (hs : (addL b (m (x : Int))).isSome = true) : byteQ p m' x = byteQ p m x + (if p b.f1 = true then (if b.f1 < 4096 then b.f1 else 4096) else 0) := by
  unfold byteQ
  rw [h]
  cases hm : m (x : Int) with
  | none =>
    simp only [addL]
    by_cases hz : b.f1 < 4096
    · rw [if_pos hz, if_pos hz]; simp
    · rw [if_neg hz, if_neg hz]; simp
  | some lt =>
    cases lt with
    | great s => rw [hm] at hs; simp [addL] at hs
    | small z cs q =>
      rw [hm] at hs
      simp only [addL] at hs ⊢
      by_cases hc : b.f1 < 4096 ∧ z = b.f1 ∧ (cs b.f0).isSome = false
      · rw [if_pos hc, if_pos hc.1]
        simp only
        rw [← hc.2.1, show ((q + 1 : Nat) : Int) = (q : Int) + 1 by omega, Int.add_mul, Int.one_mul]
        by_cases hp : p z = true
        · rw [if_pos hp, if_pos hp, if_pos hp]
        · rw [if_neg hp, if_neg hp, if_neg hp]; rfl
      · rw [if_neg hc] at hs; cases hs
theorem step_byteQ (p : Int → Bool) {base limit order n : Int} {m m' : PM} {b : S55} (hm : mayB base limit order = true) (h0 : 0 ≤ n) (hn : n ≤ limit) (hw : 0 ≤ b.f1 ∧ b.f1 < 18446744073709551616) (hs : OP.step base order n m b = some m') : sumR (byteQ p m') 1024 = sumR (byteQ p m) 1024 + (if p b.f1 = true then b.f1 else 0) := by
  obtain ⟨hok, hp, rfl⟩ := (step_iff hw.1).1 hs
  by_cases hpb : p b.f1 = true
  · rw [if_pos hpb, ← plus_sum hm h0 hn hw hok, ← sumR_add]
    refine sumR_congr 1024 (fun x _ => ?_)
    unfold plusAt
    by_cases hx : onP base b (x : Int)
    · rw [if_pos hx]
      have := byteQ_add (p := p) (o := none) (m := m) (m' := addAll base b m) (x := x) (by unfold addAll; rw [if_pos hx]) (hp _ hx)
      rw [if_pos hpb] at this
      exact this
    · rw [if_neg hx]
      unfold byteQ addAll
      rw [if_neg hx]; omega
  · rw [if_neg hpb, Int.add_zero]
    refine sumR_congr 1024 (fun x _ => ?_)
    by_cases hx : onP base b (x : Int)
    · have := byteQ_add (p := p) (o := none) (m := m) (m' := addAll base b m) (x := x) (by unfold addAll; rw [if_pos hx]) (hp _ hx)
      rw [if_neg hpb, Int.add_zero] at this
      exact this
    · unfold byteQ addAll
      rw [if_neg hx]
theorem run_byteQ (p : Int → Bool) {base limit order n : Int} (hm : mayB base limit order = true) (h0 : 0 ≤ n) (hn : n ≤ limit) : ∀ (l : List S55) (m m' : PM), OP.Wd l → run base order n m l = some m' → sumR (byteQ p m') 1024 = sumR (byteQ p m) 1024 + totalQ p l
  | [], m, m', _, hr => by
    have e : m = m' := Option.some.inj hr
    rw [← e, show totalQ p [] = 0 from rfl, Int.add_zero]
  | b :: l, m, m', hw, hr => by
    obtain ⟨m1, h1, h2⟩ := run_cons.1 hr
    rw [run_byteQ p hm h0 hn l m1 m' (fun c hc => hw c (List.mem_cons_of_mem _ hc)) h2, step_byteQ p hm h0 hn (hw b (List.mem_cons_self ..)).2 h1]
    simp only [totalQ]; omega
theorem byteQ_none (p : Int → Bool) : ∀ n, sumR (byteQ p PM.none) n = 0
  | 0 => rfl
  | n + 1 => by rw [sumR, byteQ_none p n]; rfl
/-- Is a page one of small blocks of size z, or a great block's? -/
def isSm (m : PM) (z : Int) (x : Nat) : Int := match m (x : Int) with
  | some (.small y _ _) => if y = z then 1 else 0
  | _ => 0
def isGr (m : PM) (x : Nat) : Int := match m (x : Int) with
  | some (.great _) => 1
  | _ => 0
def sizesOf (l : List S55) : List Int := l.map (fun b => b.f1)
theorem totalQ_eq (z : Int) : ∀ l : List S55, totalQ (fun s => decide (s = z)) l = z * (cnt (sizesOf l) z : Int)
  | [] => by simp [totalQ, sizesOf, cnt]
  | b :: l => by
    have e : sizesOf (b :: l) = b.f1 :: sizesOf l := rfl
    rw [totalQ, totalQ_eq z l, e, cnt_cons]
    by_cases h : b.f1 = z
    · rw [if_pos (by simpa using h), if_pos h, Int.natCast_add, Int.mul_add, h]; omega
    · rw [if_neg (by simpa using h), if_neg h]; simp
theorem totalQ_big : ∀ {l : List S55}, (∀ b ∈ l, ¬ b.f1 < 4096 → b.f1 % 4096 = 0) → totalQ (fun s => decide (¬ s < 4096)) l = 4096 * bigP (sizesOf l)
  | [], _ => rfl
  | b :: l, h => by
    have e : sizesOf (b :: l) = b.f1 :: sizesOf l := rfl
    rw [totalQ, totalQ_big (fun c hc => h c (List.mem_cons_of_mem _ hc)), e, bigP]
    have h1 := h b (List.mem_cons_self ..)
    by_cases hs : b.f1 < 4096
    · rw [if_neg (by simpa using hs), if_pos hs]; omega
    · have := h1 hs
      rw [if_pos (by simpa using hs), if_neg hs]; omega
theorem small_pages {base z : Int} {l : List S55} {m : PM} (ht : Tells base l m) (hz : S8 z) (htot : sumR (byteQ (fun s => decide (s = z)) m) 1024 = totalQ (fun s => decide (s = z)) l) : pagesFor (cnt (sizesOf l) z : Int) z ≤ sumR (isSm m z) 1024 := by
  rw [totalQ_eq] at htot
  have h1 : sumR (byteQ (fun s => decide (s = z)) m) 1024 ≤ sumR (fun x => 4096 * isSm m z x) 1024 := by
    refine sumR_mono 1024 (fun x _ => ?_)
    have hb := byte_bd ht x
    have hx := ht (x : Int)
    unfold byteQ isSm
    unfold byteAt at hb
    cases hm : m (x : Int) with
    | none => simp
    | some lt =>
      rw [hm] at hb hx
      cases lt with
      | great s =>
        obtain ⟨b, hb2, ho, hg, hs, -⟩ := hx
        have := hz.pos
        have hne : ¬ s = z := by omega
        simp [hne]
      | small y cs q =>
        simp only at hb ⊢
        by_cases e : y = z
        · rw [if_pos (by simpa using e), if_pos e]; omega
        · rw [if_neg (by simpa using e), if_neg e]; omega
  rw [sumR_scale, htot] at h1
  have hN : 0 ≤ sumR (isSm m z) 1024 := sumR_nonneg 1024 (fun x _ => by unfold isSm; split <;> (try split) <;> omega)
  have hc0 : 0 ≤ (cnt (sizesOf l) z : Int) := Int.natCast_nonneg _
  generalize sumR (isSm m z) 1024 = N at *
  generalize (cnt (sizesOf l) z : Int) = c at *
  unfold pagesFor
  rcases hz with rfl | rfl | rfl | rfl | rfl | rfl | rfl | rfl <;> omega
theorem great_pages {base : Int} {l : List S55} {m : PM} (ht : Tells base l m) (hl : ∀ b ∈ l, ¬ b.f1 < 4096 → b.f1 % 4096 = 0) (htot : sumR (byteQ (fun s => decide (¬ s < 4096)) m) 1024 = totalQ (fun s => decide (¬ s < 4096)) l) : bigP (sizesOf l) = sumR (isGr m) 1024 := by
  rw [totalQ_big hl] at htot
  have h1 : sumR (byteQ (fun s => decide (¬ s < 4096)) m) 1024 = sumR (fun x => 4096 * isGr m x) 1024 := by
    refine sumR_congr 1024 (fun x _ => ?_)
    have hx := ht (x : Int)
    unfold byteQ isGr
    cases hm : m (x : Int) with
    | none => simp
    | some lt =>
      rw [hm] at hx
      cases lt with
      | great s =>
        obtain ⟨b, hb2, ho, hg, hs, -⟩ := hx
        have : ¬ s < 4096 := by omega
        simp only
        rw [if_pos (by simpa using this)]; rfl
      | small y cs q =>
        have := hx.1.pos
        have h2 : y < 4096 := by omega
        simp only
        rw [if_neg (by simpa using h2)]; rfl
  rw [sumR_scale, htot] at h1
  omega
theorem sz8_S8 (k : Nat) (hk : k < 8) : S8 (sz8 k) := sz8_cases ⟨k, hk, rfl⟩
theorem sumR_const (c : Int) : ∀ n, sumR (fun _ => c) n = c * n
  | 0 => by simp [sumR]
  | n + 1 => by rw [sumR, sumR_const c n, show ((n + 1 : Nat) : Int) = (n : Int) + 1 by omega, Int.mul_add, Int.mul_one]
theorem sumR_below (T : Nat) : ∀ n, sumR (fun x => if x < T then 1 else 0) n ≤ (T : Int) ∧ sumR (fun x => if x < T then 1 else 0) n ≤ (n : Int)
  | 0 => ⟨by simp [sumR], by simp [sumR]⟩
  | n + 1 => by
    have h := sumR_below T n
    rw [sumR]
    split <;> omega
/-- A sound list's sizes take no more pages than its regions have. -/
theorem sound_pages {base limit order n : Int} {l : List S55} (hw : OP.Wd l) (h : soundI base limit order n l = -1) : pagesP (sizesOf l) ≤ (totP order n : Int) := by
  obtain ⟨hm, h0, hn, m, hsc, hrun, ht, hf, hall⟩ := sound_says hw h
  have hmm := mayB_iff.1 hm
  have hQ : ∀ p, sumR (byteQ p m) 1024 = totalQ p l := by
    intro p
    rw [run_byteQ p hm h0 hn l PM.none m hw hrun, byteQ_none, Int.zero_add]
  have hT2 : n * RR order = 4096 * (totP order n : Int) := by
    unfold RR
    rw [← (tot_eq hm h0 hn).1, ← Int.mul_assoc, Int.mul_comm n 4096, Int.mul_assoc]
  have hg := great_pages ht (fun b hb hs => ((hall b hb).2.gr hs).1) (hQ _)
  have hs : ∀ k, k < 8 → pagesFor (cnt (sizesOf l) (sz8 k) : Int) (sz8 k) ≤ sumR (isSm m (sz8 k)) 1024 := fun k hk => small_pages ht (sz8_S8 k hk) (hQ _)
  have h8 : smallP (sizesOf l) ≤ sumR (fun k => sumR (isSm m (sz8 k)) 1024) 8 := by
    unfold smallP extra
    exact sumR_mono 8 hs
  have hsum : sumR (fun k => sumR (isSm m (sz8 k)) 1024) 8 + sumR (isGr m) 1024 = sumR (fun x => (((((((0 + isSm m 16 x) + isSm m 32 x) + isSm m 64 x) + isSm m 128 x) + isSm m 256 x) + isSm m 512 x) + isSm m 1024 x) + isSm m 2048 x + isGr m x) 1024 := by
    simp only [sumR_add, sumR_zero]
    rfl
  have hle : sumR (fun x => (((((((0 + isSm m 16 x) + isSm m 32 x) + isSm m 64 x) + isSm m 128 x) + isSm m 256 x) + isSm m 512 x) + isSm m 1024 x) + isSm m 2048 x + isGr m x) 1024 ≤ sumR (fun x => if x < totP order n then 1 else 0) 1024 := by
    refine sumR_mono 1024 (fun x _ => ?_)
    have hfx := hf.1 (x : Int)
    unfold isSm isGr
    cases hmx : m (x : Int) with
    | none => simp only; split <;> omega
    | some lt =>
      rw [hmx] at hfx
      have := hfx rfl
      rw [if_pos (by omega)]
      cases lt with
      | great s => simp
      | small z cs q =>
        simp only
        repeat' split
        all_goals omega
  have hb := (sumR_below (totP order n) 1024).1
  unfold pagesP
  omega
end Go.Proofs.Ytihfblnjgaalcaa.OX
