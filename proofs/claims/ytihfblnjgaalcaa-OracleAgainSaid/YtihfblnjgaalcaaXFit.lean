/- The reference's NoFit answers as the oracle's. -/
import Derived.Test.YtihfblnjgaalcaaXRefN
namespace Go.Proofs.Ytihfblnjgaalcaa.OX
open Go Go.RowKit Go.Proofs.Ytihfblnjgaalcaa.R Go.Proofs.Ytihfblnjgaalcaa.OP Go.Proofs.Ytihfblnjgaalcaa.OB Go.Proofs.Ytihfblnjgaalcaa.OV Go.Proofs.Ytihfblnjgaalcaa.OS Go.Proofs.Ytihfblnjgaalcaa.OW Go.Proofs.Ytihfblnjgaalcaa.ON Go.Proofs.Ytihfblnjgaalcaa.OC
set_option linter.unusedVariables false
set_option linter.unusedSimpArgs false
/-- Enough rounds for NoFit. -/
def fitRounds (n : Nat) : Nat := n * (n + 2) + 1026 * (n + 2) + 3000
theorem refNoFit_f {base limit order n r : Int} {l : List S49} (hb0 : 0 ≤ base) (hb : base < 18446744073709551616) (hw : Wd49 l) (hl : l.length ≤ 8796093021952) (hr0 : 0 ≤ r) (hr : r < 18446744073709551616) {k : Nat} (hk : fitRounds l.length < k) :
    croftref11_NoFit.f k base limit order n l r = some (nofitB base limit order n (cv l) r) := by
  unfold fitRounds at hk
  obtain ⟨k, rfl⟩ : ∃ m, k = m + 2 := ⟨k - 2, by omega⟩
  have hbad : croftref11_NoFit.j0 (k + 2) n l r true base limit order = some false := by rw [croftref11_NoFit.j0, if_pos rfl]
  have hwd := cv_wd hw
  unfold croftref11_NoFit.f
  rw [sMay_f (k + 1) hb0 hb, Option.bind_some]
  by_cases hm : mayB base limit order = true
  case neg =>
    rw [if_neg hm, hbad, nofit_1 (fun h => hm (sound_says hwd h).1)]
  rw [if_pos hm, refSound_f hb0 hb hw hl (by omega), Option.bind_some]
  by_cases hs : soundI base limit order n (cv l) = -1
  case neg =>
    rw [if_neg hs, hbad, nofit_1 hs]
  rw [if_pos hs, sPower_f, Option.bind_some]
  obtain ⟨-, h0, hn, m, hsc, hrun, ht, hf, hall⟩ := sound_says hwd hs
  obtain ⟨o0, o8, l1, l64, -, -, -, hbl⟩ := mayB_iff.1 hm
  have hR := RR_bd o0 o8
  by_cases hz : sizeB order r = true
  case neg =>
    rw [nofit_2 (by simpa using hz)]
    by_cases hpw : powB r = true
    · rw [if_pos hpw]
      by_cases h16 : r < 16
      · rw [if_pos h16, hbad]
      · have hgR : r > RR order := by
          apply Decidable.byContradiction
          intro h
          exact hz (sizeB_iff.2 ⟨hpw, by omega, by omega⟩)
        rw [if_neg h16, sR_f base limit o0 o8, Option.bind_some, decide_eq_true hgR, hbad]
    · rw [if_neg hpw, hbad]
  obtain ⟨hpw, h16, hrR⟩ := sizeB_iff.1 hz
  rw [if_pos hpw, if_neg (by omega), sR_f base limit o0 o8, Option.bind_some, decide_eq_false (show ¬ r > RR order by omega), nofit_3 hs hz hsc]
  have hTT := tot_eq hm h0 hn
  have hB := may_bytes hm h0 hn
  have hB2 := may_bytes hm (show 0 ≤ limit by omega) (Int.le_refl limit)
  obtain ⟨hcut, u, hTu, hpg1⟩ := pgs_cut o0 o8 h0 ⟨hr0, hr⟩ hz (n := n)
  have hT2 : n * RR order = 4096 * (totP order n : Int) := by
    unfold RR
    rw [← hTT.1, ← Int.mul_assoc, Int.mul_comm n 4096, Int.mul_assoc]
  have hpgs := pgs_eq o0 o8 hr0 hr hz
  have hplc : ∀ b ∈ cv l, Plc base b := fun b hb => (hall b hb).2
  have hends := ends_of hw hm h0 hn (fun b hb => (hall b hb).1) hb0
  have htot : total (cv l) < 9223372036854775808 := by
    have h1 := run_bytes hm h0 hn (cv l) PM.none m hwd hrun
    rw [bytes_none] at h1
    have h2 := sumR_le (f := byteAt m) (B := 4096) (by omega) 1024 (fun x _ => (byte_bd ht x).2)
    omega
  generalize hT : totP order n = T at *
  generalize hpg : pgs r = pg at *
  have hun : u ≤ 1024 := by
    have : u ≤ pg * u := Nat.le_mul_of_pos_left u (by omega)
    omega
  have hNu : 4096 * pg * u = 4096 * T := by rw [Nat.mul_assoc, ← hTu]
  -- the loops
  have hV : ∀ k', 1025 * (l.length + 2) ≤ k' → (if r ≥ 4096 then (some true) else (croftref11_NoFit.l1 k' (l) r ((4096 * pg * u : Nat) : Int) 0 base limit order)) = some (!partAny m r) := by
    intro k' hk'
    by_cases hr4 : r ≥ 4096
    · rw [if_pos hr4, part_big ht (by omega)]; rfl
    · rw [if_neg hr4, hNu]
      have hz := fit_l1 (base := base) (order := order) (limit := limit) (r := r) (T := T) hw hends hl (by omega) hTT.2 htot T k' 0 (by omega) (by
        have : T * (l.length + 2) ≤ 1024 * (l.length + 2) := Nat.mul_le_mul_right _ hTT.2
        omega)
      rw [show ((4096 * 0 : Nat) : Int) = 0 from rfl] at hz
      rw [hz]
      refine congrArg some ?_
      have hpa := part_all (T := T) ht hplc hf (by omega) hTT.2 (show r < 4096 by omega)
      by_cases hpp : partAny m r = false
      · rw [hpp, decide_eq_true (fun y h1 _ => hpa.1 hpp y h1)]; rfl
      · rw [decide_eq_false (fun h => hpp (hpa.2 (fun y h1 => h y h1 (Nat.zero_le _)))), show partAny m r = true by simpa using hpp]; rfl
  have hmain : ∀ N : Int, N = ((4096 * pg : Nat) : Int) → croftref11_NoFit.j1 (k + 1) n l r N base limit order = some (decide (T / pg ≤ occN m T pg) && !partAny m r) := by
    intro N hN
    rw [croftref11_NoFit.j1, sR_f base limit o0 o8, Option.bind_some, u64_in (x := n) h0 (by omega), u64_in (x := n * RR order) hB.1 (by omega), hN, hT2, show 4096 * (T : Int) = ((4096 * pg * u : Nat) : Int) by rw [hNu]; omega]
    have hz := fit_l0 (base := base) (order := order) (limit := limit) (r := r) (N := 4096 * pg) (u := u) hends hl (by omega) (by omega) (by omega) (by omega) hV u k 0 (by omega) (by omega)
    rw [show ((4096 * pg * 0 : Nat) : Int) = 0 from rfl] at hz
    rw [hz]
    refine congrArg some ?_
    have ha := occ_all (m := m) (T := T) (pg := pg) (u := u) (by omega) hTu hun
    by_cases hoc : T / pg ≤ occN m T pg
    · have h2 := ha.1 hoc
      rw [decide_eq_true hoc, Bool.true_and, if_pos]
      intro y hy _
      exact (occ_meet ht hplc (by omega) hTu hy).1 (h2 y hy)
    · rw [decide_eq_false hoc, Bool.false_and, if_neg]
      intro h
      exact hoc (ha.2 (fun y hy => (occ_meet ht hplc (by omega) hTu hy).2 (h y hy (Nat.zero_le _))))
  rw [croftref11_NoFit.j0, if_neg (by decide)]
  by_cases hr4 : r < 4096
  · rw [if_pos hr4, hmain 4096 (by rw [hpgs.1 hr4]; rfl)]
  · rw [if_neg hr4, hmain r (by omega)]
end Go.Proofs.Ytihfblnjgaalcaa.OX
