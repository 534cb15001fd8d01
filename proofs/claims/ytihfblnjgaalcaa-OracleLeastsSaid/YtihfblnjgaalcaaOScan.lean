/- What a list's pages are, plain. -/
import Derived.Test.YtihfblnjgaalcaaOWantW
namespace Go.Proofs.Ytihfblnjgaalcaa.OC
open Go Go.RowKit Go.Proofs.YtihfblnjgaalcaaW.PrintWords Go.Proofs.YtihfblnjgaalcaaW.PrintLast Go.Proofs.YtihfblnjgaalcaaW.PrintMore Go.Proofs.Ytihfblnjgaalcaa.R Go.Proofs.Ytihfblnjgaalcaa.OM Go.Proofs.Ytihfblnjgaalcaa.OP Go.Proofs.Ytihfblnjgaalcaa.OS Go.Proofs.Ytihfblnjgaalcaa.OB Go.Proofs.Ytihfblnjgaalcaa.OF Go.Proofs.Ytihfblnjgaalcaa.OW Go.Proofs.Ytihfblnjgaalcaa.ON
set_option linter.unusedVariables false
set_option linter.unusedSimpArgs false
/-- What holds of the pages after i blocks. -/
def Fine (order n : Int) (m : PM) (i : Nat) : Prop := (∀ x, (m x).isSome = true → 0 ≤ x ∧ (x + 1) * 4096 ≤ n * RR order) ∧ ∀ x z cs q, m x = some (.small z cs q) → (∃ k, k < 8 ∧ z = sz8 k) ∧ q ≤ i
theorem fine_none (order n : Int) : Fine order n PM.none 0 := ⟨fun x h => (by cases h), fun x z cs q h => (by cases h)⟩
theorem Fine.mono {order n : Int} {m : PM} {i j : Nat} (h : Fine order n m i) (hij : i ≤ j) : Fine order n m j := ⟨h.1, fun x z cs q hx => ⟨(h.2 x z cs q hx).1, Nat.le_trans (h.2 x z cs q hx).2 hij⟩⟩
theorem Fine.set {order n : Int} {m : PM} {i : Nat} (h : Fine order n m i) {x : Int} {l : Lot} (hx : 0 ≤ x ∧ (x + 1) * 4096 ≤ n * RR order) (hl : ∀ z cs q, l = .small z cs q → (∃ k, k < 8 ∧ z = sz8 k) ∧ q ≤ i) : Fine order n (pmSet m x l) i := by
 refine ⟨fun y hy => ?_, fun y z cs q hy => ?_⟩
 ·by_cases e : y = x
  ·subst e; exact hx
  ·rw [pmSet_other m l e] at hy; exact h.1 y hy
 ·by_cases e : y = x
  ·subst e; rw [pmSet_same] at hy; injection hy with hy; exact hl z cs q hy
  ·rw [pmSet_other m l e] at hy; exact h.2 y z cs q hy
theorem fill_fine {order n z : Int} {i : Nat} : ∀ (k : Nat) (q : Int) (m m' : PM), Fine order n m i → 0 ≤ q → (q + k) * 4096 ≤ n * RR order → fill z k q m = some m' → Fine order n m' i
 | 0, q, m, m', h, _, _, hf => by simp only [fill] at hf; injection hf with hf; exact hf ▸ h
 | k + 1, q, m, m', h, h0, h1, hf => by
  cases hm : m q with
  | some l => simp only [fill, hm] at hf; cases hf
  | none =>
   simp only [fill, hm] at hf
   exact fill_fine k (q + 1) _ m' (h.set (l := .great z) ⟨h0, by omega⟩ (fun z cs q e => by cases e)) (by omega) (by omega) hf
theorem dvd_end {a b z : Int} (hz : 0 < z) (ha : a % z = 0) (hb : b % z = 0) (h : a < b) : a + z ≤ b := by
 obtain ⟨x, rfl⟩ := Int.dvd_of_emod_eq_zero ha
 obtain ⟨y, rfl⟩ := Int.dvd_of_emod_eq_zero hb
 have h1 : x < y := Int.lt_of_mul_lt_mul_left h (Int.le_of_lt hz)
 have h2 : z * (x + 1) ≤ z * y := Int.mul_le_mul_of_nonneg_left h1 (Int.le_of_lt hz)
 rw [Int.mul_add, Int.mul_one] at h2
 exact h2
/-- A block's place, in its numbers. -/
theorem ok_place {base limit order n : Int} {b : S55} (hm : mayB base limit order = true) (h0 : 0 ≤ n) (hn : n ≤ limit) (hw : 0 ≤ b.f1 ∧ b.f1 < 18446744073709551616) (h : okB base order n b = true) :
  (b.f0 - base) % b.f1 = 0 ∧ b.f0 - base + b.f1 ≤ n * RR order ∧ 0 ≤ b.f0 - base ∧ (∃ e : Nat, 4 ≤ e ∧ e ≤ 12 + order.toNat ∧ b.f1 = ((2 ^ e : Nat) : Int)) := by
 obtain ⟨a, c, d, e, f, g, i, j⟩ := mayB_iff.1 hm
 obtain ⟨h1, h2, h3, h4⟩ := okB_iff.1 h
 obtain ⟨ex, e1, e2, e3⟩ := (sizeB_exp a hw.1 hw.2).1 h1
 have hpos : 0 < b.f1 := by have := (sizeB_iff.1 h1).2.1; omega
 have hR : RR order % b.f1 = 0 := by
  rw [RR_exp a, e3]
  have : 2 ^ (12 + order.toNat) = 2 ^ ex * 2 ^ (12 + order.toNat - ex) := by rw [← Nat.pow_add]; congr 1; omega
  rw [this, Int.natCast_mul]
  exact Int.mul_emod_right _ _
 have hbm : base % b.f1 = 0 := Int.emod_eq_zero_of_dvd (Int.dvd_trans (Int.dvd_of_emod_eq_zero hR) (Int.dvd_of_emod_eq_zero i))
 have hpm : (b.f0 - base) % b.f1 = 0 := by rw [Int.sub_emod, h2, hbm]; simp
 have hnm : (n * RR order) % b.f1 = 0 := by rw [Int.mul_emod, hR]; simp
 exact ⟨hpm, dvd_end hpos hpm hnm h4, by omega, ex, e1, e2, e3⟩
theorem step_fine {base limit order n : Int} {m m' : PM} {b : S55} {i : Nat} (hm : mayB base limit order = true) (h0 : 0 ≤ n) (hn : n ≤ limit) (hw : 0 ≤ b.f1 ∧ b.f1 < 18446744073709551616) (h : Fine order n m i) (hs : OP.step base order n m b = some m') : Fine order n m' (i + 1) := by
 simp only [OP.step] at hs
 by_cases hok : okB base order n b = true
 ·rw [if_pos hok] at hs
  obtain ⟨p1, p2, p3, ex, e1, e2, e3⟩ := ok_place hm h0 hn hw hok
  have hord := (mayB_iff.1 hm).1
  have hnR : (n * RR order) % 4096 = 0 := by unfold RR; rw [Int.mul_emod, Int.mul_emod_right]; simp
  have hpg : 0 ≤ pageOf base b := Int.ediv_nonneg p3 (by decide)
  have hlt : b.f0 - base < n * RR order := (okB_iff.1 hok).2.2.2
  have hpe : (pageOf base b + 1) * 4096 ≤ n * RR order := by unfold pageOf; omega
  by_cases hz : b.f1 < 4096
  ·rw [if_pos hz] at hs
   have hsm := size_small hord hw.1 hw.2 (okB_iff.1 hok).1 hz
   have hput : ∀ (m1 : PM) (lt : Lot), Fine order n m1 i → m1 (pageOf base b) = some lt → put1 (pageOf base b) b m1 lt = some m' → Fine order n m' (i + 1) := by
    intro m1 lt hf hat hp
    cases lt with
    | great s => simp only [put1] at hp; cases hp
    | small s cs q =>
     simp only [put1] at hp
     split at hp
     ·cases hp
     ·injection hp with hp
      subst hp
      have h2 := hf.2 _ _ _ _ hat
      exact (hf.mono (Nat.le_succ i)).set ⟨hpg, hpe⟩ (fun z cs q e => by injection e with e1 e2 e3; subst e1 e3; exact ⟨h2.1, by omega⟩)
   cases hmq : m (pageOf base b) with
   | none =>
    rw [hmq] at hs
    exact hput _ _ (h.set ⟨hpg, hpe⟩ (fun z cs q e => by injection e with e1 e2 e3; subst e1 e3; exact ⟨hsm, Nat.zero_le _⟩)) (pmSet_same _ _ _) hs
   | some lt =>
    rw [hmq] at hs
    exact hput m lt h hmq hs
  ·rw [if_neg hz] at hs
   refine (fill_fine _ _ _ _ h hpg ?_ hs).mono (Nat.le_succ i)
   have h4 : 2 ^ 12 ≤ 2 ^ ex := by omega
   have h5 : 12 ≤ ex := (Nat.pow_le_pow_iff_right (a := 2) (by decide)).1 h4
   have h6 : b.f1 % 4096 = 0 := by
    rw [e3, show ex = 12 + (ex - 12) by omega, Nat.pow_add, Int.natCast_mul]
    exact Int.mul_emod_right _ _
   have h7 : (b.f0 - base) % 4096 = 0 := Int.emod_eq_zero_of_dvd (Int.dvd_trans (Int.dvd_of_emod_eq_zero h6) (Int.dvd_of_emod_eq_zero p1))
   unfold pageOf
   omega
 ·rw [if_neg hok] at hs; cases hs
theorem scan_fine {base limit order n : Int} (hm : mayB base limit order = true) (h0 : 0 ≤ n) (hn : n ≤ limit) : ∀ (l : List S55) (m m' : PM) (i : Nat) (j r : Int), OP.Wd l → Fine order n m i → scan base order n m l j = (some m', r) → Fine order n m' (i + l.length) ∧ r = -1
 | [], m, m', i, j, r, _, h, hs => by
  simp only [scan, Prod.mk.injEq] at hs
  obtain ⟨h1, h2⟩ := hs
  injection h1 with h1
  subst h1
  exact ⟨h, h2.symm⟩
 | b :: l, m, m', i, j, r, hw, h, hs => by
  cases hst : OP.step base order n m b with
  | none => rw [scan_cons_none hst] at hs; cases hs
  | some m1 =>
   rw [scan_cons_some hst] at hs
   have h2 := scan_fine hm h0 hn l m1 m' (i + 1) (j + 1) r (fun c hc => hw c (List.mem_cons_of_mem _ hc)) (step_fine hm h0 hn (hw b (List.mem_cons_self ..)).2 h hst) hs
   rw [List.length_cons]
   exact ⟨by rw [show i + (l.length + 1) = i + 1 + l.length by omega]; exact h2.1, h2.2⟩
/-- Sound, its answer. -/
def soundI (base limit order n : Int) (l : List S55) : Int := if mayB base limit order && (decide (0 ≤ n) && decide (n ≤ limit)) then (scan base order n PM.none l 0).2 else 0
theorem scan_snd {base order n : Int} : ∀ (l : List S55) (m : PM) (j : Int), 0 ≤ j → ((scan base order n m l j).2 = -1 ↔ (scan base order n m l j).1.isSome = true) ∧ ((scan base order n m l j).2 = -1 ∨ 0 ≤ (scan base order n m l j).2)
 | [], m, j, _ => by simp [scan]
 | b :: l, m, j, hj => by
  cases hst : OP.step base order n m b with
  | none => rw [scan_cons_none hst]; simp; omega
  | some m1 => rw [scan_cons_some hst]; exact scan_snd l m1 (j + 1) (by omega)
/-- What Sound's -1 says. -/
theorem sound_ok {base limit order n : Int} {l : List S55} (hw : OP.Wd l) (h : soundI base limit order n l = -1) : mayB base limit order = true ∧ 0 ≤ n ∧ n ≤ limit ∧ ∃ m, scan base order n PM.none l 0 = (some m, -1) ∧ Fine order n m l.length := by
 unfold soundI at h
 by_cases hc : (mayB base limit order && (decide (0 ≤ n) && decide (n ≤ limit))) = true
 ·rw [if_pos hc] at h
  simp only [Bool.and_eq_true, decide_eq_true_eq] at hc
  obtain ⟨h1, h2, h3⟩ := hc
  have h4 := (scan_snd l PM.none 0 (Int.le_refl 0)).1.1 h
  obtain ⟨m, hm⟩ := Option.isSome_iff_exists.1 h4
  have h5 : scan base order n PM.none l 0 = (some m, -1) := Prod.ext hm h
  have h6 := (scan_fine h1 h2 h3 l PM.none m 0 0 (-1) hw (fine_none order n) h5).1
  rw [Nat.zero_add] at h6
  exact ⟨h1, h2, h3, m, h5, h6⟩
 ·rw [if_neg hc] at h; cases h
theorem Fine.dom {base limit order n : Int} {m : PM} {i : Nat} (h : Fine order n m i) (hm : mayB base limit order = true) (h0 : 0 ≤ n) (hn : n ≤ limit) : ∀ x, (m x).isSome = true → 0 ≤ x ∧ x < 1024 := by
 intro x hx
 have h1 := h.1 x hx
 have h2 := may_bytes hm h0 hn
 omega
end Go.Proofs.Ytihfblnjgaalcaa.OC
