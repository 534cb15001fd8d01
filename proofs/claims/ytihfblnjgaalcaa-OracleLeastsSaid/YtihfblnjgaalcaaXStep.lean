/- Steps, page by page; the order of blocks does not matter. -/
import Derived.Test.YtihfblnjgaalcaaOLeast0
namespace Go.Proofs.Ytihfblnjgaalcaa.OV
open Go Go.RowKit Go.Proofs.Ytihfblnjgaalcaa.R Go.Proofs.Ytihfblnjgaalcaa.OM Go.Proofs.Ytihfblnjgaalcaa.OP Go.Proofs.Ytihfblnjgaalcaa.OB Go.Proofs.Ytihfblnjgaalcaa.OW Go.Proofs.Ytihfblnjgaalcaa.ON Go.Proofs.Ytihfblnjgaalcaa.OC
set_option linter.unusedVariables false
set_option linter.unusedSimpArgs false
/-- What one block makes of one page. -/
def addL (b : S55) : Option Lot → Option Lot
  | none => if b.f1 < 4096 then some (.small b.f1 (upd noCells b.f0 b.f1) 1) else some (.great b.f1)
  | some (.great _) => none
  | some (.small s cs n) => if b.f1 < 4096 ∧ s = b.f1 ∧ (cs b.f0).isSome = false then some (.small s (upd cs b.f0 b.f1) (n + 1)) else none
/-- Is a page one of a block's? -/
def onP (base : Int) (b : S55) (x : Int) : Prop := pageOf base b ≤ x ∧ (if b.f1 < 4096 then x = pageOf base b else x < pageOf base b + b.f1 / 4096)
instance (base : Int) (b : S55) (x : Int) : Decidable (onP base b x) := by unfold onP; infer_instance
def addAll (base : Int) (b : S55) (m : PM) : PM := fun x => if onP base b x then addL b (m x) else m x
theorem fill_iff {s : Int} : ∀ (k : Nat) (q : Int) (m m' : PM), fill s k q m = some m' ↔ (∀ x, q ≤ x → x < q + k → m x = none) ∧ m' = fun x => if q ≤ x ∧ x < q + k then some (.great s) else m x
  | 0, q, m, m' => by
    simp only [fill]
    constructor
    · intro h
      injection h with h
      subst h
      refine ⟨fun x h1 h2 => by omega, ?_⟩
      funext x
      rw [if_neg (by omega)]
    · rintro ⟨-, rfl⟩
      congr 1
      funext x
      rw [if_neg (by omega)]
  | k + 1, q, m, m' => by
    cases hm : m q with
    | some l =>
      simp only [fill, hm]
      constructor
      · intro h; cases h
      · rintro ⟨h, -⟩
        have := h q (Int.le_refl _) (by omega)
        rw [hm] at this
        cases this
    | none =>
      simp only [fill, hm]
      rw [fill_iff k (q + 1)]
      constructor
      · rintro ⟨h1, rfl⟩
        refine ⟨fun x h2 h3 => ?_, ?_⟩
        · by_cases e : x = q
          · subst e; exact hm
          · have := h1 x (by omega) (by omega)
            rwa [pmSet_other m _ e] at this
        · funext x
          by_cases e : x = q
          · subst e
            rw [if_neg (by omega), if_pos (by omega), pmSet_same]
          · rw [pmSet_other m _ e]
            by_cases h2 : q + 1 ≤ x ∧ x < q + 1 + k
            · rw [if_pos h2, if_pos (by omega)]
            · rw [if_neg h2, if_neg (by omega)]
      · rintro ⟨h1, rfl⟩
        refine ⟨fun x h2 h3 => ?_, ?_⟩
        · rw [pmSet_other m _ (by omega)]
          exact h1 x (by omega) (by omega)
        · funext x
          by_cases e : x = q
          · subst e
            rw [if_neg (show ¬ (x + 1 ≤ x ∧ x < x + 1 + k) by omega), if_pos (by omega), pmSet_same]
          · rw [pmSet_other m _ e]
            by_cases h2 : q + 1 ≤ x ∧ x < q + 1 + k
            · rw [if_pos h2, if_pos (by omega)]
            · rw [if_neg h2, if_neg (by omega)]
theorem step_iff {base order n : Int} {m m' : PM} {b : S55} (hz : 0 ≤ b.f1) : OP.step base order n m b = some m' ↔ okB base order n b = true ∧ (∀ x, onP base b x → (addL b (m x)).isSome = true) ∧ m' = addAll base b m := by
  unfold OP.step
  by_cases hok : okB base order n b = true
  · rw [if_pos hok]
    by_cases hs : b.f1 < 4096
    · rw [if_pos hs]
      have hon : ∀ x, onP base b x ↔ x = pageOf base b := by
        intro x; unfold onP; rw [if_pos hs]; omega
      have hall : ∀ lt : Lot, addL b (m (pageOf base b)) = some lt → addAll base b m = pmSet m (pageOf base b) lt := by
        intro lt h
        funext x
        unfold addAll
        by_cases e : x = pageOf base b
        · subst e; rw [if_pos ((hon _).2 rfl), h, pmSet_same]
        · rw [if_neg (fun h => e ((hon _).1 h)), pmSet_other m _ e]
      cases hm : m (pageOf base b) with
      | none =>
        have ha : addL b (m (pageOf base b)) = some (.small b.f1 (upd noCells b.f0 b.f1) 1) := by rw [hm]; simp only [addL]; rw [if_pos hs]
        have hp : put1 (pageOf base b) b (pmSet m (pageOf base b) (.small b.f1 noCells 0)) (.small b.f1 noCells 0) = some (pmSet m (pageOf base b) (.small b.f1 (upd noCells b.f0 b.f1) 1)) := by
          simp only [put1]
          rw [if_neg (by simp [noCells])]
          congr 1
          funext x
          by_cases e : x = pageOf base b
          · subst e; rw [pmSet_same, pmSet_same]
          · rw [pmSet_other _ _ e, pmSet_other _ _ e, pmSet_other _ _ e]
        simp only
        rw [hp, hall _ ha]
        constructor
        · intro h; injection h with h
          exact ⟨hok, fun x hx => by rw [(hon x).1 hx, ha]; rfl, h.symm⟩
        · rintro ⟨-, -, rfl⟩; rfl
      | some lt =>
        simp only
        cases lt with
        | great s =>
          simp only [put1]
          constructor
          · intro h; cases h
          · rintro ⟨-, h, -⟩
            have := h (pageOf base b) ((hon _).2 rfl)
            rw [hm] at this
            simp [addL] at this
        | small s cs c =>
          simp only [put1]
          by_cases hc : (cs b.f0).isSome = true ∨ s ≠ b.f1
          · rw [if_pos hc]
            constructor
            · intro h; cases h
            · rintro ⟨-, h, -⟩
              have := h (pageOf base b) ((hon _).2 rfl)
              rw [hm] at this
              simp only [addL] at this
              rw [if_neg (by rintro ⟨-, h2, h3⟩; rcases hc with h4 | h4; · rw [h3] at h4; cases h4
                             · exact h4 h2)] at this
              cases this
          · rw [if_neg hc]
            have hc2 : b.f1 < 4096 ∧ s = b.f1 ∧ (cs b.f0).isSome = false := by
              refine ⟨hs, ?_, ?_⟩
              · by_cases e : s = b.f1
                · exact e
                · exact absurd (Or.inr e) hc
              · cases e : (cs b.f0).isSome with
                | false => rfl
                | true => exact absurd (Or.inl e) hc
            have ha : addL b (m (pageOf base b)) = some (.small s (upd cs b.f0 b.f1) (c + 1)) := by rw [hm]; simp only [addL]; rw [if_pos hc2]
            rw [hall _ ha]
            constructor
            · intro h; injection h with h
              exact ⟨hok, fun x hx => by rw [(hon x).1 hx, ha]; rfl, h.symm⟩
            · rintro ⟨-, -, rfl⟩; rfl
    · rw [if_neg hs, fill_iff]
      have hk : ((b.f1 / 4096).toNat : Int) = b.f1 / 4096 := Int.toNat_of_nonneg (Int.ediv_nonneg hz (by decide))
      have hon : ∀ x, onP base b x ↔ pageOf base b ≤ x ∧ x < pageOf base b + b.f1 / 4096 := by
        intro x; unfold onP; rw [if_neg hs]
      rw [hk]
      have hadd : ∀ o : Option Lot, (addL b o).isSome = true ↔ o = none := by
        intro o
        cases o with
        | none => simp only [addL]; rw [if_neg hs]; simp
        | some lt =>
          cases lt with
          | great s => simp [addL]
          | small s cs c => simp only [addL]; rw [if_neg (fun h => hs h.1)]; simp
      constructor
      · rintro ⟨h1, rfl⟩
        refine ⟨hok, fun x hx => (hadd _).2 (h1 x ((hon x).1 hx).1 ((hon x).1 hx).2), ?_⟩
        funext x
        unfold addAll
        by_cases e : pageOf base b ≤ x ∧ x < pageOf base b + b.f1 / 4096
        · rw [if_pos e, if_pos ((hon x).2 e), h1 x e.1 e.2]; simp only [addL]; rw [if_neg hs]
        · rw [if_neg e, if_neg (fun h => e ((hon x).1 h))]
      · rintro ⟨-, h1, rfl⟩
        have h1' : ∀ x, pageOf base b ≤ x → x < pageOf base b + b.f1 / 4096 → m x = none := fun x h2 h3 => (hadd _).1 (h1 x ((hon x).2 ⟨h2, h3⟩))
        refine ⟨h1', ?_⟩
        funext x
        unfold addAll
        by_cases e : pageOf base b ≤ x ∧ x < pageOf base b + b.f1 / 4096
        · rw [if_pos e, if_pos ((hon x).2 e), h1' x e.1 e.2]; simp only [addL]; rw [if_neg hs]
        · rw [if_neg e, if_neg (fun h => e ((hon x).1 h))]
  · rw [if_neg hok]
    constructor
    · intro h; cases h
    · rintro ⟨h, -⟩; exact absurd h hok
/-- All steps. -/
def run (base order n : Int) : PM → List S55 → Option PM
  | m, [] => some m
  | m, b :: l => match OP.step base order n m b with
    | none => none
    | some m' => run base order n m' l
theorem scan_run {base order n : Int} : ∀ (l : List S55) (m : PM) (j : Int), (scan base order n m l j).1 = run base order n m l
  | [], m, j => rfl
  | b :: l, m, j => by
    cases h : OP.step base order n m b with
    | none => rw [scan_cons_none h]; simp only [run, h]
    | some m' => rw [scan_cons_some h, scan_run l m' (j + 1)]; simp only [run, h]
theorem run_cons {base order n : Int} {m m2 : PM} {b : S55} {l : List S55} : run base order n m (b :: l) = some m2 ↔ ∃ m1, OP.step base order n m b = some m1 ∧ run base order n m1 l = some m2 := by
  cases h : OP.step base order n m b with
  | none => simp [run, h]
  | some m' => simp [run, h]
/-- Sound's answer, by the run. -/
theorem sound_iff {base limit order n : Int} {l : List S55} : soundI base limit order n l = -1 ↔ (mayB base limit order = true ∧ 0 ≤ n ∧ n ≤ limit) ∧ (run base order n PM.none l).isSome = true := by
  unfold soundI
  by_cases hc : (mayB base limit order && (decide (0 ≤ n) && decide (n ≤ limit))) = true
  · rw [if_pos hc, (scan_snd l PM.none 0 (Int.le_refl 0)).1, scan_run]
    simp only [Bool.and_eq_true, decide_eq_true_eq] at hc
    exact ⟨fun h => ⟨hc, h⟩, fun h => h.2⟩
  · rw [if_neg hc]
    simp only [Bool.and_eq_true, decide_eq_true_eq] at hc
    exact ⟨fun h => absurd h (by decide), fun h => absurd h.1 hc⟩
end Go.Proofs.Ytihfblnjgaalcaa.OV
