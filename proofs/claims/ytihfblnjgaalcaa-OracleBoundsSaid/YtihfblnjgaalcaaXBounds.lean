/- OracleBounds, plain. -/
import Derived.Test.YtihfblnjgaalcaaRBo1
import Derived.Test.YtihfblnjgaalcaaXLists
import Derived.Test.YtihfblnjgaalcaaXBytes
namespace Go.Proofs.Ytihfblnjgaalcaa.OX
open Go Go.RowKit Go.Proofs.YtihfblnjgaalcaaW.PrintWords Go.Proofs.YtihfblnjgaalcaaW.PrintLast Go.Proofs.YtihfblnjgaalcaaW.PrintMore Go.Proofs.Ytihfblnjgaalcaa.R Go.Proofs.Ytihfblnjgaalcaa.OP Go.Proofs.Ytihfblnjgaalcaa.OB
set_option linter.unusedVariables false
set_option linter.unusedSimpArgs false
theorem boundR_f (base limit : Int) {order : Int} (h0 : 0 ≤ order) (h8 : order ≤ 8) : croftref11_R.f base limit order = some (RR order) := by
  unfold croftref11_R.f
  rw [u64_in h0 (by omega), if_pos h0, shl_R h0 h8]
/-- What Bound answers, on both sides. -/
def boundP (r : Int) : Int × Int := (max r 4096, if r = 16 then 32 else 16)
theorem bound_or (r : Int) : oracle_Bound.f r = some (boundP r) := by
  unfold oracle_Bound.f boundP
  by_cases h : r = 16
  · subst h; rfl
  · rw [if_neg h, if_neg h]
    congr 2
    unfold mx; split <;> omega
theorem bound_ref (r : Int) : croftref11_Bound.f r = some (boundP r) := by
  unfold croftref11_Bound.f boundP
  by_cases hs : r < 4096
  · rw [if_pos hs, Int.max_eq_right (by omega)]; split <;> rfl
  · rw [if_neg hs, Int.max_eq_left (by omega)]; split <;> rfl
theorem total_cons (b : S55) (l : List S55) : OV.total (b :: l) = b.f1 + OV.total l := rfl
theorem total_nonneg : ∀ {l : List S49}, Wd49 l → 0 ≤ OV.total (cv l)
  | [], _ => Int.le_refl 0
  | b :: l, h => by
    have h1 := total_nonneg (l := l) (fun c hc => h c (List.mem_cons_of_mem _ hc))
    have h2 := (h b (List.mem_cons_self ..)).2.1
    show 0 ≤ b.f1 + OV.total (cv l)
    omega
theorem total_l0 (l : List S49) (hw : Wd49 l) (hl : l.length ≤ 8796093021952) : ∀ (d k i : Nat) (acc : Int), i + d = l.length → d < k → 0 ≤ acc → acc + OV.total (cv (l.drop i)) ≤ 4194304 → croftref11_Total.l0 k l acc (i : Int) = some (acc + OV.total (cv (l.drop i)))
  | 0, k, i, acc, hi, hk, ha, ht => by
    obtain ⟨k, rfl⟩ : ∃ m, k = m + 1 := ⟨k - 1, by omega⟩
    rw [croftref11_Total.l0, if_neg (by omega), List.drop_eq_nil_of_le (by omega)]
    show some acc = some (acc + 0)
    rw [Int.add_zero]
  | d + 1, k, i, acc, hi, hk, ha, ht => by
    obtain ⟨k, rfl⟩ : ∃ m, k = m + 1 := ⟨k - 1, by omega⟩
    have hil : i < l.length := by omega
    have hd : OV.total (cv (l.drop i)) = (l[i]).f1 + OV.total (cv (l.drop (i + 1))) := by rw [List.drop_eq_getElem_cons hil]; rfl
    have hb := (hw _ (List.getElem_mem hil)).2
    have hn := total_nonneg (l := l.drop (i + 1)) (fun c hc => hw c (List.mem_of_mem_drop hc))
    rw [hd] at ht
    rw [croftref11_Total.l0, if_pos (by omega), if_pos (by omega), rd49 hil, u64_in (by omega) (by omega), inc64 (by omega), total_l0 l hw hl d k (i + 1) _ (by omega) (by omega) (by omega) (by omega), hd, Int.add_assoc]
theorem total_f {l : List S49} (hw : Wd49 l) (hl : l.length ≤ 8796093021952) (ht : OV.total (cv l) ≤ 4194304) {k : Nat} (hk : l.length < k) : croftref11_Total.f k l = some (OV.total (cv l)) := by
  unfold croftref11_Total.f
  have h := total_l0 l hw hl l.length k 0 0 (by omega) hk (Int.le_refl 0) (by rw [List.drop_zero]; omega)
  rw [List.drop_zero, Int.zero_add] at h
  exact h
theorem bounds_l0 (base limit order n r c h t : Int) (dn : Bool) (l : List S49) (hl : l.length ≤ 8796093021952) (hfin : (∀ b ∈ l, ¬ b.f1 < 4096) → 4096 * h ≤ c * t) (hc : 0 ≤ c * t ∧ c * t < 18446744073709551616) (hh : 0 ≤ h ∧ h ≤ 4194304) :
    ∀ (d k i : Nat), i + d = l.length → d < k → (∀ j (hj : j < l.length), j < i → ¬ (l[j]).f1 < 4096) → croftlaw11_OracleBounds.l0 k c h t (i : Int) base limit order n l r dn = some true
  | 0, k, i, hi, hk, hall => by
    obtain ⟨k, rfl⟩ : ∃ m, k = m + 1 := ⟨k - 1, by omega⟩
    rw [croftlaw11_OracleBounds.l0, if_neg (by omega), u64_in hc.1 hc.2, u64_in (by omega) (by omega)]
    have := hfin (fun b hb => by
      obtain ⟨j, hj, rfl⟩ := List.getElem_of_mem hb
      exact hall j hj (by omega))
    rw [decide_eq_true (show c * t ≥ 4096 * h from this)]
  | d + 1, k, i, hi, hk, hall => by
    obtain ⟨k, rfl⟩ : ∃ m, k = m + 1 := ⟨k - 1, by omega⟩
    have hil : i < l.length := by omega
    rw [croftlaw11_OracleBounds.l0, if_pos (by omega), if_pos (by omega), rd49 hil]
    by_cases hb : (l[i]).f1 < 4096
    · rw [if_pos hb]
    · rw [if_neg hb, inc64 (by omega)]
      refine bounds_l0 base limit order n r c h t dn l hl hfin hc hh d k (i + 1) (by omega) (by omega) (fun j hj hji => ?_)
      by_cases e : j = i
      · subst e; exact hb
      · exact hall j hj (by omega)
theorem bounds_f {base limit order n r : Int} {dn : Bool} {l : List S49} (hb0 : 0 ≤ base) (hb : base < 18446744073709551616) (hw : Wd49 l) (hl : l.length ≤ 8796093021952) (hr0 : 0 ≤ r) (hr : r < 18446744073709551616) :
    croftlaw11_OracleBounds.f (l.length + 100) base limit order n l r dn = some true := by
  obtain ⟨k, hk⟩ : ∃ k, l.length + 100 = k + 1 := ⟨l.length + 99, rfl⟩
  unfold croftlaw11_OracleBounds.f
  rw [awake_ge (by omega), Option.bind_some, if_pos rfl, bound_or, Option.bind_some, bound_ref, Option.bind_some, if_pos rfl, bne_self_eq_false, hk, croftlaw11_OracleBounds.j0, if_neg (by decide)]
  rw [blocks_f hl (by omega), Option.bind_some]
  unfold croftlaw11_config.f
  rw [Option.bind_some, if_pos (by omega), if_pos (by rw [marks_length]; omega), take_cv l l.length rfl, nofit_fr hb0 hb hw hl hr0 hr, Option.bind_some]
  cases hf : OC.nofitB base limit order n (cv l) r with
  | false => rw [if_neg (by decide)]
  | true =>
    rw [if_pos rfl]
    obtain ⟨hm, h0, hn, hz, -⟩ := OV.nofit_says (cv_wd hw) ⟨hr0, hr⟩ hf
    have ho := mayB_iff.1 hm
    have hB := OV.bound_at (c := if r = 16 then 32 else 16) (cv_wd hw) ⟨hr0, hr⟩ hf (by split <;> omega) (fun m ht hp x hx hs => by
      have := OV.least16 ht hp hx hs
      split
      · rename_i e; exact this.2 e
      · exact this.1)
    obtain ⟨t0, t1, g0, g1, c1, hle⟩ := hB
    have hlim := ho.2.2.2.1
    have hRb := RR_bd ho.1 ho.2.1
    rw [boundR_f base limit ho.1 ho.2.1, Option.bind_some, total_f hw hl t1 (by omega), Option.bind_some]
    have e1 : IntKind.u64.wrap n = n := u64_in h0 (by omega)
    have e2 : IntKind.u64.wrap (n * RR order) = n * RR order := u64_in g0 (by omega)
    have hc0 : 0 ≤ (boundP r).1 ∧ (boundP r).1 ≤ 1048576 := ⟨by show 0 ≤ max r 4096; omega, c1⟩
    have hct : 0 ≤ (boundP r).1 * OV.total (cv l) ∧ (boundP r).1 * OV.total (cv l) ≤ 1048576 * 4194304 := ⟨Int.mul_nonneg hc0.1 t0, Int.mul_le_mul hc0.2 t1 t0 (by decide)⟩
    have hle2 : (boundP r).2 * (n * RR order) ≤ (boundP r).1 * OV.total (cv l) := hle
    have hm2 : 0 ≤ (boundP r).2 * (n * RR order) := Int.mul_nonneg (by show (0 : Int) ≤ if r = 16 then 32 else 16; split <;> omega) g0
    rw [e1, e2, u64_in hct.1 (by omega), u64_in hm2 (by omega), if_neg (by omega)]
    exact bounds_l0 base limit order n r _ _ _ dn l hl (fun hall => by
      have hB2 := OV.bound_at (c := 4096) (cv_wd hw) ⟨hr0, hr⟩ hf (by omega) (fun m ht hp x hx hs => OV.least4096 ht (fun b hb => by
        obtain ⟨c, hc, rfl⟩ := List.mem_map.1 hb
        exact hall c hc) hs)
      exact hB2.2.2.2.2.2) ⟨hct.1, by omega⟩ ⟨g0, g1⟩ l.length k 0 (by omega) (by omega) (fun j hj h => by omega)
end Go.Proofs.Ytihfblnjgaalcaa.OX
