/- Sound, by pairs: the oracle's answer is the first block that cannot be, or that conflicts with an elder one. -/
import Derived.Test.YtihfblnjgaalcaaXInv
namespace Go.Proofs.Ytihfblnjgaalcaa.OV
open Go Go.RowKit Go.Proofs.Ytihfblnjgaalcaa.R Go.Proofs.Ytihfblnjgaalcaa.OM Go.Proofs.Ytihfblnjgaalcaa.OP Go.Proofs.Ytihfblnjgaalcaa.OB Go.Proofs.Ytihfblnjgaalcaa.OW Go.Proofs.Ytihfblnjgaalcaa.ON Go.Proofs.Ytihfblnjgaalcaa.OC
set_option linter.unusedVariables false
set_option linter.unusedSimpArgs false
/-- Have two blocks a byte in common? -/
def meetP (a b : S55) : Prop := a.f0 < b.f0 + b.f1 ∧ b.f0 < a.f0 + a.f1
/-- Can two blocks not be together? -/
def conf (base : Int) (a b : S55) : Prop := meetP a b ∨ (a.f1 < 4096 ∧ b.f1 < 4096 ∧ a.f1 ≠ b.f1 ∧ pageOf base a = pageOf base b)
instance (a b : S55) : Decidable (meetP a b) := by unfold meetP; infer_instance
instance (base : Int) (a b : S55) : Decidable (conf base a b) := by unfold conf; infer_instance
theorem add_some {base x : Int} {l : List S55} {b : S55} {o : Option Lot} (h : Is base l x o) (hb : onP base b x) : (addL b o).isSome = true ↔ ∀ a ∈ l, onP base a x → a.f1 < 4096 ∧ b.f1 < 4096 ∧ a.f1 = b.f1 ∧ a.f0 ≠ b.f0 := by
 cases o with
 | none =>
  constructor
  ·intro _ a ha hx; exact absurd hx (h a ha)
  ·intro _; simp only [addL]; split <;> rfl
 | some lt =>
  cases lt with
  | great s =>
   obtain ⟨c, hc, h1, h2, h3, h4⟩ := h
   constructor
   ·intro h5; simp [addL] at h5
   ·intro h5; exact absurd (h5 c hc h1).1 h2
  | small z cs q =>
   obtain ⟨h8, h1, h2, h3, h4, h5⟩ := h
   have hne : l.countP (fun b => decide (onP base b x)) ≠ 0 := by omega
   obtain ⟨c, hc, hcx⟩ := List.countP_pos_iff.1 (Nat.pos_of_ne_zero hne)
   have hcx : onP base c x := by simpa using hcx
   simp only [addL]
   constructor
   ·intro h6 a ha hx
    split at h6
    ·rename_i hh
     obtain ⟨g1, g2, g3⟩ := hh
     have h7 := h1 a ha hx
     refine ⟨h7.1, g1, h7.2.trans g2, fun e => ?_⟩
     have := (h2 b.f0).2 ⟨a, ha, hx, e⟩
     rw [g3] at this; cases this
    ·cases h6
   ·intro h6
    have h7 := h6 c hc hcx
    have e0 : (cs b.f0).isSome = false := by
     cases e : (cs b.f0).isSome with
     | false => rfl
     | true =>
      obtain ⟨a, ha, hx, e2⟩ := (h2 b.f0).1 e
      exact absurd e2 (h6 a ha hx).2.2.2
    rw [if_pos ⟨h7.2.1, (h1 c hc hcx).2.symm.trans h7.2.2.1, e0⟩]; rfl
/-- A block's place, for numbers. -/
structure Plc (base : Int) (b : S55) : Prop where
 sm : b.f1 < 4096 → S8 b.f1 ∧ (b.f0 - base) % b.f1 = 0
 gr : ¬ b.f1 < 4096 → b.f1 % 4096 = 0 ∧ (b.f0 - base) % 4096 = 0
 ge : 0 ≤ b.f0 - base
theorem plc {base limit order n : Int} {b : S55} (hm : mayB base limit order = true) (h0 : 0 ≤ n) (hn : n ≤ limit) (hw : 0 ≤ b.f1 ∧ b.f1 < 18446744073709551616) (h : okB base order n b = true) : Plc base b := by
 obtain ⟨p1, p2, p3, ex, e1, e2, e3⟩ := ok_place hm h0 hn hw h
 refine ⟨fun hs => ok_small hm h0 hn hw h hs, fun hs => ?_, p3⟩
 have h4 : 2 ^ 12 ≤ 2 ^ ex := by omega
 have h5 : 12 ≤ ex := (Nat.pow_le_pow_iff_right (a := 2) (by decide)).1 h4
 have h6 : b.f1 % 4096 = 0 := by
  rw [e3, show ex = 12 + (ex - 12) by omega, Nat.pow_add, Int.natCast_mul]
  exact Int.mul_emod_right _ _
 exact ⟨h6, Int.emod_eq_zero_of_dvd (Int.dvd_trans (Int.dvd_of_emod_eq_zero h6) (Int.dvd_of_emod_eq_zero p1))⟩
/-- A small block lies on one page. -/
theorem small_in {base : Int} {b : S55} (h : Plc base b) (hs : b.f1 < 4096) : 16 ≤ b.f1 ∧ pageOf base b * 4096 ≤ b.f0 - base ∧ b.f0 - base + b.f1 ≤ pageOf base b * 4096 + 4096 := by
 obtain ⟨h8, hal⟩ := h.sm hs
 have hg := h.ge
 unfold pageOf
 rcases h8 with e | e | e | e | e | e | e | e <;> rw [e] at hal ⊢ <;> omega
theorem small_apart {base : Int} {a b : S55} (ha : Plc base a) (hb : Plc base b) (hs : a.f1 < 4096) (he : a.f1 = b.f1) (hne : a.f0 ≠ b.f0) : ¬ meetP a b := by
 obtain ⟨h8, hal⟩ := ha.sm hs
 obtain ⟨-, hbl⟩ := hb.sm (by omega)
 unfold meetP
 rw [← he] at hbl ⊢
 rcases h8 with e | e | e | e | e | e | e | e <;> rw [e] at hal hbl ⊢ <;> omega
theorem great_in {base : Int} {b : S55} (h : Plc base b) (hs : ¬ b.f1 < 4096) : pageOf base b * 4096 = b.f0 - base ∧ (b.f1 / 4096) * 4096 = b.f1 := by
 obtain ⟨h1, h2⟩ := h.gr hs
 unfold pageOf
 omega
theorem conf_iff {base : Int} {a b : S55} (ha : Plc base a) (hb : Plc base b) : (∀ x, onP base b x → onP base a x → a.f1 < 4096 ∧ b.f1 < 4096 ∧ a.f1 = b.f1 ∧ a.f0 ≠ b.f0) ↔ ¬ conf base b a := by
 by_cases hsa : a.f1 < 4096
 ·have ia := small_in ha hsa
  have oa : ∀ x, onP base a x ↔ x = pageOf base a := by intro x; unfold onP; rw [if_pos hsa]; omega
  by_cases hsb : b.f1 < 4096
  ·have ib := small_in hb hsb
   have ob : ∀ x, onP base b x ↔ x = pageOf base b := by intro x; unfold onP; rw [if_pos hsb]; omega
   constructor
   ·rintro h (hm | ⟨-, -, hne, hp⟩)
    ·have hp : pageOf base a = pageOf base b := by unfold meetP at hm; omega
     have h2 := h _ ((ob _).2 rfl) ((oa _).2 hp.symm)
     exact small_apart hb ha hsb h2.2.2.1.symm (Ne.symm h2.2.2.2) hm
    ·have h2 := h _ ((ob _).2 rfl) ((oa _).2 hp)
     exact hne h2.2.2.1.symm
   ·intro h x hbx hax
    have hp : pageOf base b = pageOf base a := ((ob x).1 hbx).symm.trans ((oa x).1 hax)
    have he : a.f1 = b.f1 := by
     apply Decidable.byContradiction
     intro hne
     exact h (Or.inr ⟨hsb, hsa, Ne.symm hne, hp⟩)
    refine ⟨hsa, hsb, he, fun e => h (Or.inl ?_)⟩
    unfold meetP; omega
  ·have ib := great_in hb hsb
   have ob : ∀ x, onP base b x ↔ pageOf base b ≤ x ∧ x < pageOf base b + b.f1 / 4096 := by intro x; unfold onP; rw [if_neg hsb]
   constructor
   ·rintro h (hm | ⟨h1, -⟩)
    ·unfold meetP at hm
     have h2 := h (pageOf base a) ((ob _).2 (by omega)) ((oa _).2 rfl)
     exact hsb h2.2.1
    ·exact hsb h1
   ·intro h x hbx hax
    exfalso
    have h1 := (ob x).1 hbx
    have h2 := (oa x).1 hax
    exact h (Or.inl (by unfold meetP; omega))
 ·have ia := great_in ha hsa
  have oa : ∀ x, onP base a x ↔ pageOf base a ≤ x ∧ x < pageOf base a + a.f1 / 4096 := by intro x; unfold onP; rw [if_neg hsa]
  by_cases hsb : b.f1 < 4096
  ·have ib := small_in hb hsb
   have ob : ∀ x, onP base b x ↔ x = pageOf base b := by intro x; unfold onP; rw [if_pos hsb]; omega
   constructor
   ·rintro h (hm | ⟨-, h1, -⟩)
    ·unfold meetP at hm
     have h2 := h (pageOf base b) ((ob _).2 rfl) ((oa _).2 (by omega))
     exact hsa h2.1
    ·exact hsa h1
   ·intro h x hbx hax
    exfalso
    have h1 := (ob x).1 hbx
    have h2 := (oa x).1 hax
    exact h (Or.inl (by unfold meetP; omega))
  ·have ib := great_in hb hsb
   have ob : ∀ x, onP base b x ↔ pageOf base b ≤ x ∧ x < pageOf base b + b.f1 / 4096 := by intro x; unfold onP; rw [if_neg hsb]
   constructor
   ·rintro h (hm | ⟨h1, -⟩)
    ·unfold meetP at hm
     have h2 := h (max (pageOf base a) (pageOf base b)) ((ob _).2 (by omega)) ((oa _).2 (by omega))
     exact hsa h2.1
    ·exact hsb h1
   ·intro h x hbx hax
    exfalso
    have h1 := (ob x).1 hbx
    have h2 := (oa x).1 hax
    exact h (Or.inl (by unfold meetP; omega))
/-- The first block that cannot be. -/
def refScan (base order n : Int) : List S55 → List S55 → Int → Int
 | _, [], _ => -1
 | acc, b :: l, i => if okB base order n b = true ∧ ∀ a ∈ acc, ¬ conf base b a then refScan base order n (acc ++ [b]) l (i + 1) else i
theorem scan_ref {base limit order n : Int} (hm : mayB base limit order = true) (h0 : 0 ≤ n) (hn : n ≤ limit) : ∀ (l acc : List S55) (m : PM) (i : Int), OP.Wd l → (∀ a ∈ acc, Plc base a) → Tells base acc m → (scan base order n m l i).2 = refScan base order n acc l i
 | [], acc, m, i, _, _, _ => rfl
 | b :: l, acc, m, i, hw, ha, ht => by
  have hwb := (hw b (List.mem_cons_self ..)).2
  by_cases hc : okB base order n b = true ∧ ∀ a ∈ acc, ¬ conf base b a
  ·have hb := plc hm h0 hn hwb hc.1
   have hs : OP.step base order n m b = some (addAll base b m) := (step_iff hwb.1).2 ⟨hc.1, fun x hx => (add_some (ht x) hx).2 (fun a hal hax => (conf_iff (ha a hal) hb).2 (hc.2 a hal) x hx hax), rfl⟩
   rw [scan_cons_some hs]
   simp only [refScan]
   rw [if_pos hc]
   exact scan_ref hm h0 hn l (acc ++ [b]) _ (i + 1) (fun c h => hw c (List.mem_cons_of_mem _ h)) (fun c h => by
    rcases List.mem_append.1 h with h | h
    ·exact ha c h
    ·rw [List.mem_singleton.1 h]; exact hb) (step_tells hm h0 hn hwb ht hs)
  ·cases hs : OP.step base order n m b with
   | none =>
    rw [scan_cons_none hs]
    simp only [refScan]
    rw [if_neg hc]
   | some m' =>
    exfalso
    obtain ⟨h1, h2, -⟩ := (step_iff hwb.1).1 hs
    have hb := plc hm h0 hn hwb h1
    exact hc ⟨h1, fun a hal => (conf_iff (ha a hal) hb).1 (fun x hx hax => (add_some (ht x) hx).1 (h2 x hx) a hal hax)⟩
/-- Sound's answer, by pairs. -/
def refSoundI (base limit order n : Int) (l : List S55) : Int := if mayB base limit order = true ∧ 0 ≤ n ∧ n ≤ limit then refScan base order n [] l 0 else 0
theorem sound_ref {base limit order n : Int} {l : List S55} (hw : OP.Wd l) : soundI base limit order n l = refSoundI base limit order n l := by
 unfold soundI refSoundI
 by_cases hc : mayB base limit order = true ∧ 0 ≤ n ∧ n ≤ limit
 ·rw [if_pos hc, if_pos (by simp only [Bool.and_eq_true, decide_eq_true_eq]; exact hc)]
  exact scan_ref hc.1 hc.2.1 hc.2.2 l [] PM.none 0 hw (fun a h => by cases h) (tells_none base)
 ·rw [if_neg hc, if_neg (by simp only [Bool.and_eq_true, decide_eq_true_eq]; exact hc)]
end Go.Proofs.Ytihfblnjgaalcaa.OV
