/- The bytes of blocks, by pages; what NoFit says of them. -/
import Derived.Test.YtihfblnjgaalcaaXInv
namespace Go.Proofs.Ytihfblnjgaalcaa.OV
open Go Go.RowKit Go.Proofs.Ytihfblnjgaalcaa.R Go.Proofs.Ytihfblnjgaalcaa.OM Go.Proofs.Ytihfblnjgaalcaa.OP Go.Proofs.Ytihfblnjgaalcaa.OB Go.Proofs.Ytihfblnjgaalcaa.OS Go.Proofs.Ytihfblnjgaalcaa.OW Go.Proofs.Ytihfblnjgaalcaa.ON Go.Proofs.Ytihfblnjgaalcaa.OC
set_option linter.unusedVariables false
set_option linter.unusedSimpArgs false
theorem sumR_add {f g : Nat → Int} : ∀ n, sumR (fun x => f x + g x) n = sumR f n + sumR g n
  | 0 => rfl
  | n + 1 => by rw [sumR, sumR, sumR, sumR_add n]; omega
theorem sumR_zero : ∀ n, sumR (fun _ => 0) n = 0
  | 0 => rfl
  | n + 1 => by rw [sumR, sumR_zero n]; rfl
theorem sumR_span (q k : Nat) : ∀ n, sumR (fun x => if q ≤ x ∧ x < q + k then 4096 else 0) n = 4096 * ((min n (q + k) - q : Nat) : Int)
  | 0 => by simp [sumR]
  | n + 1 => by
    rw [sumR, sumR_span q k n]
    split <;> omega
/-- What a block adds to a page's bytes. -/
def plusAt (base : Int) (b : S55) (x : Nat) : Int := if onP base b (x : Int) then (if b.f1 < 4096 then b.f1 else 4096) else 0
theorem plus_sum {base limit order n : Int} {b : S55} (hm : mayB base limit order = true) (h0 : 0 ≤ n) (hn : n ≤ limit) (hw : 0 ≤ b.f1 ∧ b.f1 < 18446744073709551616) (h : okB base order n b = true) : sumR (plusAt base b) 1024 = b.f1 := by
  have hp := page_bd hm h0 hn h
  obtain ⟨q, hq⟩ := Int.eq_ofNat_of_zero_le hp.1
  have hq1 : q < 1024 := by omega
  by_cases hs : b.f1 < 4096
  · have he : ∀ x : Nat, plusAt base b x = if x = q then b.f1 else 0 := by
      intro x
      have hon : onP base b (x : Int) ↔ x = q := by unfold onP; rw [if_pos hs, hq]; omega
      unfold plusAt
      rw [if_pos hs]
      by_cases e : x = q
      · rw [if_pos (hon.2 e), if_pos e]
      · rw [if_neg (fun h2 => e (hon.1 h2)), if_neg e]
    rw [sumR_upd (f := fun _ => 0) (y := q) 1024 hq1 (fun x hx hne => by rw [he x, if_neg hne]), sumR_zero, he q, if_pos rfl]
    omega
  · obtain ⟨p1, p2, p3, ex, e1, e2, e3⟩ := ok_place hm h0 hn hw h
    have h4 : 2 ^ 12 ≤ 2 ^ ex := by omega
    have h5 : 12 ≤ ex := (Nat.pow_le_pow_iff_right (a := 2) (by decide)).1 h4
    have h6 : b.f1 % 4096 = 0 := by
      rw [e3, show ex = 12 + (ex - 12) by omega, Nat.pow_add, Int.natCast_mul]
      exact Int.mul_emod_right _ _
    have hb := may_bytes hm h0 hn
    obtain ⟨k, hk⟩ := Int.eq_ofNat_of_zero_le (show 0 ≤ b.f1 / 4096 by omega)
    have he : ∀ x : Nat, plusAt base b x = if q ≤ x ∧ x < q + k then 4096 else 0 := by
      intro x
      have hon : onP base b (x : Int) ↔ q ≤ x ∧ x < q + k := by unfold onP; rw [if_neg hs, hq, hk]; omega
      unfold plusAt
      rw [if_neg hs]
      by_cases e : q ≤ x ∧ x < q + k
      · rw [if_pos (hon.2 e), if_pos e]
      · rw [if_neg (fun h2 => e (hon.1 h2)), if_neg e]
    rw [show plusAt base b = (fun x => if q ≤ x ∧ x < q + k then (4096 : Int) else 0) from funext he, sumR_span]
    unfold pageOf at hq
    omega
theorem byte_add {b : S55} {o : Option Lot} {m m' : PM} {x : Nat} (h : m' (x : Int) = addL b (m (x : Int))) (hs : (addL b (m (x : Int))).isSome = true) : byteAt m' x = byteAt m x + (if b.f1 < 4096 then b.f1 else 4096) := by
  unfold byteAt
  rw [h]
  cases hm : m (x : Int) with
  | none =>
    simp only [addL]
    by_cases hz : b.f1 < 4096
    · rw [if_pos hz, if_pos hz]; simp
    · rw [if_neg hz, if_neg hz]; simp
  | some lt =>
    cases lt with
    | great s => rw [hm] at hs; simp [addL] at hs
    | small z cs q =>
      rw [hm] at hs
      simp only [addL] at hs ⊢
      by_cases hc : b.f1 < 4096 ∧ z = b.f1 ∧ (cs b.f0).isSome = false
      · rw [if_pos hc, if_pos hc.1]
        simp only
        rw [← hc.2.1, show ((q + 1 : Nat) : Int) = (q : Int) + 1 by omega, Int.add_mul, Int.one_mul]
      · rw [if_neg hc] at hs; cases hs
theorem step_bytes {base limit order n : Int} {m m' : PM} {b : S55} (hm : mayB base limit order = true) (h0 : 0 ≤ n) (hn : n ≤ limit) (hw : 0 ≤ b.f1 ∧ b.f1 < 18446744073709551616) (hs : OP.step base order n m b = some m') : sumR (byteAt m') 1024 = sumR (byteAt m) 1024 + b.f1 := by
  obtain ⟨hok, hp, rfl⟩ := (step_iff hw.1).1 hs
  rw [← plus_sum hm h0 hn hw hok, ← sumR_add]
  refine sumR_congr 1024 (fun x _ => ?_)
  unfold plusAt
  by_cases hx : onP base b (x : Int)
  · rw [if_pos hx]
    exact byte_add (o := none) (by unfold addAll; rw [if_pos hx]) (hp _ hx)
  · rw [if_neg hx]
    unfold byteAt addAll
    rw [if_neg hx]; omega
theorem run_bytes {base limit order n : Int} (hm : mayB base limit order = true) (h0 : 0 ≤ n) (hn : n ≤ limit) : ∀ (l : List S55) (m m' : PM), OP.Wd l → run base order n m l = some m' → sumR (byteAt m') 1024 = sumR (byteAt m) 1024 + total l
  | [], m, m', _, hr => by
    have e : m = m' := Option.some.inj hr
    rw [← e, show total [] = 0 from rfl, Int.add_zero]
  | b :: l, m, m', hw, hr => by
    obtain ⟨m1, h1, h2⟩ := run_cons.1 hr
    rw [run_bytes hm h0 hn l m1 m' (fun c hc => hw c (List.mem_cons_of_mem _ hc)) h2, step_bytes hm h0 hn (hw b (List.mem_cons_self ..)).2 h1]
    simp only [total]; omega
theorem bytes_none : ∀ n, sumR (byteAt PM.none) n = 0
  | 0 => rfl
  | n + 1 => by rw [sumR, bytes_none n]; rfl
theorem byte_bd {base : Int} {l : List S55} {m : PM} (h : Tells base l m) (x : Nat) : 0 ≤ byteAt m x ∧ byteAt m x ≤ 4096 := by
  have hx := h (x : Int)
  unfold byteAt
  cases hm : m (x : Int) with
  | none => simp
  | some lt =>
    cases lt with
    | great s => simp
    | small z cs q =>
      rw [hm] at hx
      obtain ⟨h8, h1, h2, h3, h4, h5⟩ := hx
      have hc := cells_le base (x : Int) z cs
      simp only
      rw [h5]
      rcases h8 with rfl | rfl | rfl | rfl | rfl | rfl | rfl | rfl <;> simp at hc ⊢ <;> omega
theorem countP_or {p q : Nat → Bool} : ∀ l : List Nat, l.countP (fun j => p j || q j) ≤ l.countP p + l.countP q
  | [] => Nat.le_refl _
  | a :: l => by
    have := countP_or (p := p) (q := q) l
    rw [List.countP_cons, List.countP_cons, List.countP_cons]
    cases p a <;> cases q a <;> simp <;> omega
theorem countP_one (a : Nat) : ∀ n, (List.range n).countP (fun j => decide (a = j)) ≤ 1 ∧ (n ≤ a → (List.range n).countP (fun j => decide (a = j)) = 0)
  | 0 => by simp
  | n + 1 => by
    have h := countP_one a n
    rw [List.range_succ, List.countP_append, List.countP_singleton]
    by_cases e : a = n
    · have := h.2 (by omega)
      rw [if_pos (by simpa using e)]
      exact ⟨by omega, fun h2 => by omega⟩
    · rw [if_neg (by simpa using e)]
      exact ⟨by omega, fun h2 => by have := h.2 (by omega); omega⟩
theorem occ_sum (m : PM) (k : Nat) : ∀ T, (occN m T k : Int) ≤ sumR (fun x => if (m (x : Int)).isSome = true then 1 else 0) T
  | 0 => by
    have : occN m 0 k = 0 := by unfold occN; rw [List.countP_eq_zero]; intro j _; simp [occ]
    rw [this]; exact Int.le_refl _
  | T + 1 => by
    have h := occ_sum m k T
    have e : occ m (T + 1) k = fun j => occ m T k j || (decide (T / k = j) && (m (T : Int)).isSome) := by
      funext j
      unfold occ
      rw [List.range_succ, List.any_append]
      simp
    have h2 : occN m (T + 1) k ≤ occN m T k + (List.range 1024).countP (fun j => decide (T / k = j) && (m (T : Int)).isSome) := by
      unfold occN; rw [e]; exact countP_or _
    have h3 : (List.range 1024).countP (fun j => decide (T / k = j) && (m (T : Int)).isSome) ≤ if (m (T : Int)).isSome = true then 1 else 0 := by
      cases hs : (m (T : Int)).isSome with
      | true =>
        have := (countP_one (T / k) 1024).1
        simpa using this
      | false => simp
    rw [sumR]
    split at h3
    · rename_i hs; rw [if_pos hs]; omega
    · rename_i hs; rw [if_neg hs]; omega
theorem sumR_mono {f g : Nat → Int} : ∀ n, (∀ x, x < n → f x ≤ g x) → sumR f n ≤ sumR g n
  | 0, _ => Int.le_refl _
  | n + 1, h => by
    have h1 := sumR_mono n (fun x hx => h x (by omega))
    have h2 := h n (by omega)
    rw [sumR, sumR]; omega
theorem sumR_longer {f : Nat → Int} (h : ∀ x, 0 ≤ f x) (T : Nat) : ∀ d, sumR f T ≤ sumR f (T + d)
  | 0 => Int.le_refl _
  | d + 1 => by
    have h1 := sumR_longer h T d
    have h2 := h (T + d)
    rw [← Nat.add_assoc, sumR]; omega
theorem sumR_scale (c : Int) (f : Nat → Int) : ∀ n, sumR (fun x => c * f x) n = c * sumR f n
  | 0 => by simp [sumR]
  | n + 1 => by rw [sumR, sumR, sumR_scale c f n, Int.mul_add]
/-- Stretches that hold blocks of at least c bytes each. -/
theorem occ_bytes {base : Int} {l : List S55} {m : PM} (h : Tells base l m) {c : Int} {T k : Nat} (hc0 : 0 ≤ c) (hT : T ≤ 1024) (hc : ∀ x : Nat, x < T → (m (x : Int)).isSome = true → c ≤ byteAt m x) : c * (occN m T k : Int) ≤ sumR (byteAt m) 1024 := by
  have h1 : c * (occN m T k : Int) ≤ c * sumR (fun x => if (m (x : Int)).isSome = true then 1 else 0) T := Int.mul_le_mul_of_nonneg_left (occ_sum m k T) hc0
  have h2 : c * sumR (fun x => if (m (x : Int)).isSome = true then 1 else 0) T ≤ sumR (byteAt m) T := by
    rw [← sumR_scale]
    refine sumR_mono T (fun x hx => ?_)
    split
    · rename_i hs; have := hc x hx hs; omega
    · have := (byte_bd h x).1; omega
  have h3 := sumR_longer (f := byteAt m) (fun x => (byte_bd h x).1) T (1024 - T)
  rw [show T + (1024 - T) = 1024 by omega] at h3
  omega
/-- What NoFit says. -/
theorem nofit_says {base limit order n r : Int} {l : List S55} (hw : OP.Wd l) (hr : 0 ≤ r ∧ r < 18446744073709551616) (h : nofitB base limit order n l r = true) :
    mayB base limit order = true ∧ 0 ≤ n ∧ n ≤ limit ∧ sizeB order r = true ∧ ∃ m, run base order n PM.none l = some m ∧ Tells base l m ∧ totP order n / pgs r ≤ occN m (totP order n) (pgs r) ∧ partAny m r = false := by
  have hs : soundI base limit order n l = -1 := by
    apply Decidable.byContradiction
    intro h2
    rw [nofit_1 h2] at h; cases h
  obtain ⟨⟨hm, h0, hn⟩, hi⟩ := sound_iff.1 hs
  obtain ⟨m, hrun⟩ := Option.isSome_iff_exists.1 hi
  have hz : sizeB order r = true := by
    cases hz : sizeB order r with
    | true => rfl
    | false => rw [nofit_2 hz] at h; cases h
  have hsc : scan base order n PM.none l 0 = (some m, -1) := by
    have h1 := scan_run (base := base) (order := order) (n := n) l PM.none 0
    have h2 := (scan_snd (base := base) (order := order) (n := n) l PM.none 0 (Int.le_refl 0)).1.2 (by rw [h1, hrun]; rfl)
    exact Prod.ext (by rw [h1, hrun]) h2
  rw [nofit_3 hs hz hsc] at h
  simp only [Bool.and_eq_true, decide_eq_true_eq, Bool.not_eq_true'] at h
  have ht := run_tells hm h0 hn l [] PM.none m hw (tells_none base) hrun
  rw [List.nil_append] at ht
  exact ⟨hm, h0, hn, hz, m, hrun, ht, h.1, h.2⟩
theorem pgs_cut {order n r : Int} (h0 : 0 ≤ order) (h8 : order ≤ 8) (hn : 0 ≤ n) (hr : 0 ≤ r ∧ r < 18446744073709551616) (h : sizeB order r = true) : max r 4096 = 4096 * (pgs r : Int) ∧ ∃ u : Nat, totP order n = pgs r * u ∧ 1 ≤ pgs r := by
  obtain ⟨e, e1, e2, e3⟩ := (sizeB_exp h0 hr.1 hr.2).1 h
  obtain ⟨N, rfl⟩ := Int.eq_ofNat_of_zero_le hn
  have hT : totP order (N : Int) = N * 2 ^ order.toNat := by
    unfold totP
    rw [show (2 : Int) ^ order.toNat = ((2 ^ order.toNat : Nat) : Int) by simp, ← Int.natCast_mul, Int.toNat_natCast]
  by_cases hl : e ≤ 12
  · have h2 : 2 ^ e ≤ 2 ^ 12 := Nat.pow_le_pow_right (by decide) hl
    have hk : pgs r = 1 := by unfold pgs; rw [Int.max_eq_right (by omega)]; rfl
    rw [hk]
    exact ⟨by omega, totP order (N : Int), by omega, Nat.le_refl _⟩
  · have h2 : 2 ^ e = 4096 * 2 ^ (e - 12) := by rw [show e = 12 + (e - 12) by omega, Nat.pow_add, Nat.add_sub_cancel_left]
    have h3 : 1 ≤ 2 ^ (e - 12) := Nat.one_le_two_pow
    have hk : pgs r = 2 ^ (e - 12) := by
      unfold pgs
      rw [Int.max_eq_left (by omega), e3, h2]
      omega
    rw [hk, hT]
    refine ⟨by omega, N * 2 ^ (order.toNat - (e - 12)), ?_, h3⟩
    rw [show 2 ^ order.toNat = 2 ^ (e - 12) * 2 ^ (order.toNat - (e - 12)) by rw [← Nat.pow_add]; congr 1; omega]
    rw [Nat.mul_left_comm]
/-- The bound: where NoFit holds and each page with blocks has at least c bytes of them. -/
theorem bound_at {base limit order n r c : Int} {l : List S55} (hw : OP.Wd l) (hr : 0 ≤ r ∧ r < 18446744073709551616) (h : nofitB base limit order n l r = true) (hc0 : 0 ≤ c)
    (hc : ∀ m, Tells base l m → partAny m r = false → ∀ x : Nat, x < 1024 → (m (x : Int)).isSome = true → c ≤ byteAt m x) : 0 ≤ total l ∧ total l ≤ 4194304 ∧ 0 ≤ n * RR order ∧ n * RR order ≤ 4194304 ∧ max r 4096 ≤ 1048576 ∧ c * (n * RR order) ≤ max r 4096 * total l := by
  obtain ⟨hm, h0, hn, hz, m, hrun, ht, hocc, hpart⟩ := nofit_says hw hr h
  have ho := mayB_iff.1 hm
  have hb := may_bytes hm h0 hn
  have hby := run_bytes hm h0 hn l PM.none m hw hrun
  rw [bytes_none] at hby
  have hup := sumR_le (f := byteAt m) (B := 4096) (by omega) 1024 (fun x _ => (byte_bd ht x).2)
  have hdn := sumR_nonneg (f := byteAt m) 1024 (fun x _ => (byte_bd ht x).1)
  obtain ⟨hk, u, hu, hk1⟩ := pgs_cut ho.1 ho.2.1 h0 hr hz (n := n)
  have hT := tot_eq hm h0 hn
  have hT2 : n * RR order = 4096 * (totP order n : Int) := by
    unfold RR
    rw [← hT.1, ← Int.mul_assoc, Int.mul_comm n 4096, Int.mul_assoc]
  have hob := occ_bytes ht (c := c) (T := totP order n) (k := pgs r) hc0 hT.2 (fun x hx hs => hc m ht hpart x (by omega) hs)
  have hRR := (RR_bd ho.1 ho.2.1).2
  have hrR := (sizeB_iff.1 hz).2.2
  refine ⟨by omega, by omega, hb.1, hb.2, by omega, ?_⟩
  rw [hu, Nat.mul_div_cancel_left u (by omega)] at hocc
  have h1 : c * (u : Int) ≤ c * (occN m (pgs r * u) (pgs r) : Int) := Int.mul_le_mul_of_nonneg_left (by omega) hc0
  rw [hu] at hob
  have h2 : c * (u : Int) ≤ total l := by omega
  have h3 : (4096 * (pgs r : Int)) * (c * (u : Int)) ≤ (4096 * (pgs r : Int)) * total l := Int.mul_le_mul_of_nonneg_left h2 (by omega)
  rw [hT2, hk, hu, Int.natCast_mul]
  have h4 : c * (4096 * ((pgs r : Int) * (u : Int))) = 4096 * (pgs r : Int) * (c * (u : Int)) := by
    rw [Int.mul_left_comm, ← Int.mul_assoc c, Int.mul_comm c, Int.mul_assoc, Int.mul_assoc]
  rw [h4]
  exact h3
theorem part_at {m : PM} {r z : Int} {cs : Int → Option Int} {q x : Nat} (h : partAny m r = false) (hx : x < 1024) (hm : m (x : Int) = some (.small z cs q)) (hz : z = r) : 4096 / r ≤ (q : Int) := by
  unfold partAny at h
  rw [List.any_eq_false] at h
  have := h x (List.mem_range.2 hx)
  unfold partB at this
  rw [hm] at this
  simp only [Bool.and_eq_true, decide_eq_true_eq, not_and] at this
  have := this hz
  omega
/-- Each page with blocks has at least 16 bytes of them; 32 where no cell of 16 is left. -/
theorem least16 {base : Int} {l : List S55} {m : PM} {r : Int} (h : Tells base l m) (hp : partAny m r = false) {x : Nat} (hx : x < 1024) (hs : (m (x : Int)).isSome = true) : 16 ≤ byteAt m x ∧ (r = 16 → 32 ≤ byteAt m x) := by
  have ht := h (x : Int)
  unfold byteAt
  cases hm : m (x : Int) with
  | none => rw [hm] at hs; cases hs
  | some lt =>
    cases lt with
    | great s => simp
    | small z cs q =>
      rw [hm] at ht
      obtain ⟨h8, h1, h2, h3, h4, h5⟩ := ht
      simp only
      by_cases hz : z = r
      · have hq := part_at hp hx hm hz
        subst hz
        rcases h8 with rfl | rfl | rfl | rfl | rfl | rfl | rfl | rfl <;> omega
      · rcases h8 with rfl | rfl | rfl | rfl | rfl | rfl | rfl | rfl <;> omega
theorem least4096 {base : Int} {l : List S55} {m : PM} (h : Tells base l m) (hl : ∀ b ∈ l, ¬ b.f1 < 4096) {x : Nat} (hs : (m (x : Int)).isSome = true) : 4096 ≤ byteAt m x := by
  have ht := h (x : Int)
  unfold byteAt
  cases hm : m (x : Int) with
  | none => rw [hm] at hs; cases hs
  | some lt =>
    cases lt with
    | great s => simp
    | small z cs q =>
      rw [hm] at ht
      obtain ⟨h8, h1, h2, h3, h4, h5⟩ := ht
      have : l.countP (fun b => decide (onP base b (x : Int))) ≠ 0 := by omega
      obtain ⟨b, hb, hon⟩ := List.countP_pos_iff.1 (Nat.pos_of_ne_zero this)
      exact absurd (h1 b hb (by simpa using hon)).1 (hl b hb)
end Go.Proofs.Ytihfblnjgaalcaa.OV
