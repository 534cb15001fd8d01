/- What pages tell of the blocks. -/
import Derived.Test.YtihfblnjgaalcaaXStep
namespace Go.Proofs.Ytihfblnjgaalcaa.OV
open Go Go.RowKit Go.Proofs.Ytihfblnjgaalcaa.R Go.Proofs.Ytihfblnjgaalcaa.OM Go.Proofs.Ytihfblnjgaalcaa.OP Go.Proofs.Ytihfblnjgaalcaa.OB Go.Proofs.Ytihfblnjgaalcaa.OW Go.Proofs.Ytihfblnjgaalcaa.ON Go.Proofs.Ytihfblnjgaalcaa.OC
set_option linter.unusedVariables false
set_option linter.unusedSimpArgs false
/-- How many of a page's cells of size z are told. -/
def cellsN (base x z : Int) (cs : Int → Option Int) : Int := sumR (fun i => if (cs (base + 4096 * x + (i : Int) * z)).isSome = true then 1 else 0) (4096 / z).toNat
def S8 (z : Int) : Prop := z = 16 ∨ z = 32 ∨ z = 64 ∨ z = 128 ∨ z = 256 ∨ z = 512 ∨ z = 1024 ∨ z = 2048
theorem cell_ix {base x z : Int} {b : S55} (hz : S8 z) (hp : pageOf base b = x) (ha : (b.f0 - base) % z = 0) : ∃ i : Nat, i < (4096 / z).toNat ∧ b.f0 = base + 4096 * x + (i : Int) * z := by
 unfold pageOf at hp
 rcases hz with rfl | rfl | rfl | rfl | rfl | rfl | rfl | rfl
 ·exact ⟨((b.f0 - base - 4096 * x) / 16).toNat, by omega, by omega⟩
 ·exact ⟨((b.f0 - base - 4096 * x) / 32).toNat, by omega, by omega⟩
 ·exact ⟨((b.f0 - base - 4096 * x) / 64).toNat, by omega, by omega⟩
 ·exact ⟨((b.f0 - base - 4096 * x) / 128).toNat, by omega, by omega⟩
 ·exact ⟨((b.f0 - base - 4096 * x) / 256).toNat, by omega, by omega⟩
 ·exact ⟨((b.f0 - base - 4096 * x) / 512).toNat, by omega, by omega⟩
 ·exact ⟨((b.f0 - base - 4096 * x) / 1024).toNat, by omega, by omega⟩
 ·exact ⟨((b.f0 - base - 4096 * x) / 2048).toNat, by omega, by omega⟩
theorem S8.pos {z : Int} (h : S8 z) : 16 ≤ z ∧ z ≤ 2048 := by rcases h with rfl | rfl | rfl | rfl | rfl | rfl | rfl | rfl <;> omega
theorem cells_upd {base x z a c : Int} {cs : Int → Option Int} {i : Nat} (hz : 0 < z) (hi : i < (4096 / z).toNat) (ha : a = base + 4096 * x + (i : Int) * z) (hn : (cs a).isSome = false) : cellsN base x z (upd cs a c) = cellsN base x z cs + 1 := by
 unfold cellsN
 rw [sumR_upd (f := fun i => if (cs (base + 4096 * x + (i : Int) * z)).isSome = true then 1 else 0) (y := i) _ hi (fun j hj hne => ?_)]
 ·rw [← ha, hn]
  have e : (upd cs a c a).isSome = true := by simp [upd]
  rw [e]
  simp
 ·have hne2 : base + 4096 * x + (j : Int) * z ≠ a := by
   rw [ha]
   intro e
   have e2 : (j : Int) * z = (i : Int) * z := by omega
   have e3 := Int.eq_of_mul_eq_mul_right (by omega : z ≠ 0) e2
   omega
  have e : upd cs a c (base + 4096 * x + (j : Int) * z) = cs (base + 4096 * x + (j : Int) * z) := by simp [upd, hne2]
  rw [e]
theorem cells_none (base x z : Int) : cellsN base x z noCells = 0 := by
 unfold cellsN
 have : ∀ n, sumR (fun i => if (noCells (base + 4096 * x + (i : Int) * z)).isSome = true then 1 else 0) n = 0 := by
  intro n
  induction n with
  | zero => rfl
  | succ n ih => rw [sumR, ih]; rfl
 exact this _
theorem cells_le (base x z : Int) (cs : Int → Option Int) : 0 ≤ cellsN base x z cs ∧ cellsN base x z cs ≤ ((4096 / z).toNat : Int) := by
 unfold cellsN
 constructor
 ·exact sumR_nonneg _ (fun i _ => by split <;> omega)
 ·have := sumR_le (f := fun i => if (cs (base + 4096 * x + (i : Int) * z)).isSome = true then 1 else 0) (B := 1) (by omega) (4096 / z).toNat (fun i _ => by split <;> omega)
  omega
/-- What a page tells of a list of blocks. -/
def Is (base : Int) (l : List S55) (x : Int) : Option Lot → Prop
 | none => ∀ b ∈ l, ¬ onP base b x
 | some (.great s) => ∃ b ∈ l, onP base b x ∧ ¬ b.f1 < 4096 ∧ b.f1 = s ∧ ∀ c ∈ l, onP base c x → c = b
 | some (.small z cs q) => S8 z ∧ (∀ b ∈ l, onP base b x → b.f1 < 4096 ∧ b.f1 = z) ∧ (∀ a, (cs a).isSome = true ↔ ∃ b ∈ l, onP base b x ∧ b.f0 = a) ∧ 1 ≤ q ∧ q = l.countP (fun b => decide (onP base b x)) ∧ (q : Int) = cellsN base x z cs
theorem is_skip {base x : Int} {l : List S55} {b : S55} {o : Option Lot} (h : Is base l x o) (hb : ¬ onP base b x) : Is base (l ++ [b]) x o := by
 cases o with
 | none =>
  intro c hc
  rcases List.mem_append.1 hc with hc | hc
  ·exact h c hc
  ·rw [List.mem_singleton.1 hc]; exact hb
 | some lt =>
  cases lt with
  | great s =>
   obtain ⟨c, hc, h1, h2, h3, h4⟩ := h
   refine ⟨c, List.mem_append_left _ hc, h1, h2, h3, fun d hd hx => ?_⟩
   rcases List.mem_append.1 hd with hd | hd
   ·exact h4 d hd hx
   ·rw [List.mem_singleton.1 hd] at hx; exact absurd hx hb
  | small z cs q =>
   obtain ⟨h0, h1, h2, h3, h4, h5⟩ := h
   refine ⟨h0, fun d hd hx => ?_, fun a => ?_, h3, ?_, h5⟩
   ·rcases List.mem_append.1 hd with hd | hd
    ·exact h1 d hd hx
    ·rw [List.mem_singleton.1 hd] at hx; exact absurd hx hb
   ·rw [h2 a]
    constructor
    ·rintro ⟨d, hd, hx, e⟩; exact ⟨d, List.mem_append_left _ hd, hx, e⟩
    ·rintro ⟨d, hd, hx, e⟩
     rcases List.mem_append.1 hd with hd | hd
     ·exact ⟨d, hd, hx, e⟩
     ·rw [List.mem_singleton.1 hd] at hx; exact absurd hx hb
   ·rw [List.countP_append, List.countP_singleton, if_neg (by simpa using hb), ← h4]; omega
theorem onP_small {base x : Int} {b : S55} (h : onP base b x) (hs : b.f1 < 4096) : pageOf base b = x := by
 unfold onP at h; rw [if_pos hs] at h; exact h.2.symm
theorem is_add {base x : Int} {l : List S55} {b : S55} {o : Option Lot} {lt : Lot} (h : Is base l x o) (hb : onP base b x) (hg : b.f1 < 4096 → S8 b.f1 ∧ (b.f0 - base) % b.f1 = 0) (ha : addL b o = some lt) : Is base (l ++ [b]) x (some lt) := by
 cases o with
 | none =>
  simp only [addL] at ha
  by_cases hs : b.f1 < 4096
  ·rw [if_pos hs] at ha
   injection ha with ha
   subst ha
   obtain ⟨h8, hal⟩ := hg hs
   obtain ⟨i, hi, he⟩ := cell_ix h8 (onP_small hb hs) hal
   refine ⟨h8, fun d hd hx => ?_, fun a => ?_, Nat.le_refl _, ?_, ?_⟩
   ·rcases List.mem_append.1 hd with hd | hd
    ·exact absurd hx (h d hd)
    ·rw [List.mem_singleton.1 hd]; exact ⟨hs, rfl⟩
   ·constructor
    ·intro e
     refine ⟨b, List.mem_append_right _ (List.mem_singleton.2 rfl), hb, ?_⟩
     by_cases e2 : a = b.f0
     ·exact e2.symm
     ·simp [upd, e2, noCells] at e
    ·rintro ⟨d, hd, hx, rfl⟩
     rcases List.mem_append.1 hd with hd | hd
     ·exact absurd hx (h d hd)
     ·rw [List.mem_singleton.1 hd]; simp [upd]
   ·have h0 : l.countP (fun b => decide (onP base b x)) = 0 := List.countP_eq_zero.2 (fun c hc => by simpa using h c hc)
    rw [List.countP_append, List.countP_singleton, if_pos (by simpa using hb), h0]
   ·rw [cells_upd (by have := h8.pos; omega) hi he rfl, cells_none]; rfl
  ·rw [if_neg hs] at ha
   injection ha with ha
   subst ha
   refine ⟨b, List.mem_append_right _ (List.mem_singleton.2 rfl), hb, hs, rfl, fun c hc hx => ?_⟩
   rcases List.mem_append.1 hc with hc | hc
   ·exact absurd hx (h c hc)
   ·exact List.mem_singleton.1 hc
 | some lt0 =>
  cases lt0 with
  | great s => simp only [addL] at ha; cases ha
  | small z cs q =>
   simp only [addL] at ha
   split at ha
   ·rename_i hc
    obtain ⟨hs, hz, hn⟩ := hc
    injection ha with ha
    subst ha
    obtain ⟨h0, h1, h2, h3, h4, h5⟩ := h
    obtain ⟨h8, hal⟩ := hg hs
    obtain ⟨i, hi, he⟩ := cell_ix h8 (onP_small hb hs) hal
    rw [← hz] at hi he
    refine ⟨h0, fun d hd hx => ?_, fun a => ?_, by omega, ?_, ?_⟩
    ·rcases List.mem_append.1 hd with hd | hd
     ·exact h1 d hd hx
     ·rw [List.mem_singleton.1 hd]; exact ⟨hs, hz.symm⟩
    ·by_cases e2 : a = b.f0
     ·subst e2
      constructor
      ·intro _; exact ⟨b, List.mem_append_right _ (List.mem_singleton.2 rfl), hb, rfl⟩
      ·intro _; simp [upd]
     ·have e3 : upd cs b.f0 b.f1 a = cs a := by simp [upd, e2]
      rw [e3, h2 a]
      constructor
      ·rintro ⟨d, hd, hx, e⟩; exact ⟨d, List.mem_append_left _ hd, hx, e⟩
      ·rintro ⟨d, hd, hx, e⟩
       rcases List.mem_append.1 hd with hd | hd
       ·exact ⟨d, hd, hx, e⟩
       ·rw [List.mem_singleton.1 hd] at e; exact absurd e.symm e2
    ·rw [List.countP_append, List.countP_singleton, if_pos (by simpa using hb), ← h4]
    ·rw [cells_upd (by have := h0.pos; omega) hi he hn, ← h5]; omega
   ·cases ha
/-- .. of all pages. -/
def Tells (base : Int) (l : List S55) (m : PM) : Prop := ∀ x, Is base l x (m x)
theorem tells_none (base : Int) : Tells base [] PM.none := fun x b hb => by cases hb
/-- A block's numbers, for a Config that may be. -/
theorem ok_small {base limit order n : Int} {b : S55} (hm : mayB base limit order = true) (h0 : 0 ≤ n) (hn : n ≤ limit) (hw : 0 ≤ b.f1 ∧ b.f1 < 18446744073709551616) (h : okB base order n b = true) (hs : b.f1 < 4096) : S8 b.f1 ∧ (b.f0 - base) % b.f1 = 0 := by
 refine ⟨sz8_cases (size_small (mayB_iff.1 hm).1 hw.1 hw.2 (okB_iff.1 h).1 hs), (ok_place hm h0 hn hw h).1⟩
theorem step_tells {base limit order n : Int} {m m' : PM} {l : List S55} {b : S55} (hm : mayB base limit order = true) (h0 : 0 ≤ n) (hn : n ≤ limit) (hw : 0 ≤ b.f1 ∧ b.f1 < 18446744073709551616) (h : Tells base l m) (hs : OP.step base order n m b = some m') : Tells base (l ++ [b]) m' := by
 obtain ⟨hok, hp, rfl⟩ := (step_iff hw.1).1 hs
 intro x
 unfold addAll
 by_cases hx : onP base b x
 ·rw [if_pos hx]
  obtain ⟨lt, hlt⟩ := Option.isSome_iff_exists.1 (hp x hx)
  rw [hlt]
  exact is_add (h x) hx (fun hs => ok_small hm h0 hn hw hok hs) hlt
 ·rw [if_neg hx]; exact is_skip (h x) hx
theorem run_tells {base limit order n : Int} (hm : mayB base limit order = true) (h0 : 0 ≤ n) (hn : n ≤ limit) : ∀ (l acc : List S55) (m m' : PM), OP.Wd l → Tells base acc m → run base order n m l = some m' → Tells base (acc ++ l) m'
 | [], acc, m, m', _, h, hr => by
  simp only [run] at hr
  injection hr with hr
  subst hr
  rw [List.append_nil]; exact h
 | b :: l, acc, m, m', hw, h, hr => by
  obtain ⟨m1, h1, h2⟩ := run_cons.1 hr
  have h3 := run_tells hm h0 hn l (acc ++ [b]) m1 m' (fun c hc => hw c (List.mem_cons_of_mem _ hc)) (step_tells hm h0 hn (hw b (List.mem_cons_self ..)).2 h h1) h2
  rwa [List.append_assoc] at h3
/-- The bytes of a page's blocks. -/
def byteAt (m : PM) (x : Nat) : Int := match m (x : Int) with
 | some (.great _) => 4096
 | some (.small z _ q) => (q : Int) * z
 | none => 0
def total : List S55 → Int
 | [] => 0
 | b :: l => b.f1 + total l
end Go.Proofs.Ytihfblnjgaalcaa.OV
