/- append of one scalar to a row of one's own, the elder slice read on: what it held it still shows. -/
import Derived.Test.YtccpoflhmooanaaDoorMem
namespace Go.Proofs.YtccpoflhmooanaaDoor.Mem
open Go.RowKit Go.Proofs.YtccpoflhmooanaaDoorW.PrintWords Go.Proofs.YtccpoflhmooanaaDoorW.PrintLast Go.Proofs.YtccpoflhmooanaaDoorW.PrintMore
set_option linter.unusedVariables false

theorem grown_weak {w w' : World} {row : Option Nat} (h : w.grownBy w' none) : w.grownBy w' row := ⟨h.os, h.tape, h.output, h.size, fun k hk _ => h.block k hk (by simp)⟩

/-- A row of scalars, its block told otherwise. -/
theorem row_ok {α : Type} {enc : α → Value} {h1 : ∀ x, (enc x).oneCell' = true} {e : Nat} {w : World} {base : Nat} {ok ok' : Nat → Prop} {v : Value} {xs : List α} (h : (Kd.scalar enc h1).R e w base ok v xs) (hok : ∀ k, v.ownBlock = some k → ok' k) : (Kd.scalar enc h1).R e w base ok' v xs :=
  Kd.R_of_own (Kd.own_of_R h) hok

theorem append_keeps {α : Type} {enc : α → Value} {h1 : ∀ x, (enc x).oneCell' = true} (dflt : α) {P : Program} (w : World) {ops : Array Oper} {rest : List Oper} {o : Oper} {a : Act} {Q : Exit → Act → World → Prop}
    (hgd : o.guard = none) (s x : Operand) (t e : TypeId) (z : Value) (bytes : Nat)
    (ho : o.op = .call { callee := .builtin .append, args := #[s, x], argTypes := #[t, t] })
    (ht : P.underlying t = some (.slice e)) (hinfo : (P.info? e).map (fun i => (i.zero, i.size, i.bytes)) = some (some z, 1, bytes)) (hz : z.cells.size = 1)
    (A : Option Addr) (c : Nat) (xs : List α) (p : α) (ok : Nat → Prop) (hs : a.eval s = .slice A xs.length c) (ad : Addr) (m : Nat) (hx : a.eval x = .slice (some ad) 1 m) (hp : w.cell? ad = some (enc p))
    (HO : (Kd.scalar enc h1).R e w 0 ok (.slice A xs.length c) xs) (hfresh : ∀ k, w.heap.size ≤ k → ok k) (hl : (xs.length + 1) * bytes ≤ 140737488355328) (hmax : xs.length + 1 ≤ maxLen)
    (h : ∀ A' c' w', (Kd.scalar enc h1).R e w' 0 ok (.slice A' (xs ++ [p]).length c') (xs ++ [p]) → w.grownBy w' (Value.ownBlock (.slice A xs.length c)) → (Kd.scalar enc h1).C w' A xs.length xs → wpList P ops Q rest (a.put o.dst (.slice A' (xs ++ [p]).length c')) w') :
    wpList P ops Q (o :: rest) a w := by
  obtain ⟨i0, hi, hz0, hz1, hz2⟩ := info_parts hinfo
  have hown := Kd.own_of_R HO
  have hadd : ∀ j u, ([enc p] : List Value)[j]? = some u → w.cell? (ad.add j) = some u := by
    intro j u hu
    cases j with
    | zero => simp at hu; subst hu; rw [Addr.add_zero' ad]; exact hp
    | succ j => simp at hu
  have hlen : (xs ++ [p]).length = xs.length + 1 := by simp
  by_cases hfit : xs.length + 1 ≤ c
  · -- it fits
    rcases hown.2 with ⟨hv, -⟩ | ⟨g, cap, cur, hv, hg, hh, hle, hcap, hsz, htk⟩
    · injection hv with _ _ hc
      omega
    · injection hv with hA _ hc
      subst hA
      subst hc
      refine wpList_append_fits w hgd s x t ho 0 e i0 1 ht hi hz1 g xs.length c (encs enc xs) hs hown ad 1 m [enc p] hx (by simp) hadd (by simp [h1]) hfit ?_
      intro w' hown' hgr
      have e1 : encs enc xs ++ [enc p] = encs enc (xs ++ [p]) := by simp [encs]
      rw [e1] at hown'
      have hR' : (Kd.scalar enc h1).R e w' 0 ok (.slice (some ⟨g, 0, none⟩) (xs ++ [p]).length c) (xs ++ [p]) := Kd.R_of_own (by rw [hlen]; exact hown') (fun k hk => HO.1 k hk)
      have hC := (Kd.R_reads' hR').2.2
      have hC2 := Kd.C_of_reads (d := dflt) (h1 := h1) (ReadsOf.take_ (Kd.reads_of_C (d := dflt) hC) xs.length (by omega))
      have e2 : (xs ++ [p]).take xs.length = xs := by simp
      rw [e2] at hC2
      have := h (some ⟨g, 0, none⟩) c w' hR' hgr hC2
      rw [hlen] at this
      exact this
  · refine wpList_append_grows w hgd s x t ho e i0 z 1 bytes ht hi hz0 hz1 hz2 hz (by omega) A xs.length c (encs enc xs) hs ?_ (by simp [encs]) ?_ ad 1 m [enc p] hx (by simp) hadd (by simp [h1]) (by omega) hmax hl ?_
    · rintro rfl
      rcases hown.2 with ⟨hv, hn⟩ | ⟨g, cap, cur, hv, -⟩
      · injection hv with _ _ hc
        exact ⟨hn, hc⟩
      · injection hv with hA; cases hA
    · rintro b rfl j u hu
      have hC := Kd.reads_of_C (enc := enc) (d := dflt) (h1 := h1) (Kd.R_reads' HO).2.2
      obtain ⟨hj, hje⟩ := List.getElem?_eq_some_iff.1 hu
      simp [encs] at hj
      obtain ⟨ad', he, hc⟩ := hC.2.2 (by omega)
      injection he with he
      subst he
      rw [hc j hj, ← hje]
      simp [encs, List.getD_eq_getElem?_getD, hj]
    · intro v' w' hown' hgr
      have e1 : encs enc xs ++ [enc p] = encs enc (xs ++ [p]) := by simp [encs]
      rw [e1] at hown'
      have hR' : (Kd.scalar enc h1).R e w' 0 ok v' (xs ++ [p]) := by
        refine Kd.R_lower (Kd.R_of_own (by rw [hlen]; exact hown') (fun k hk => hfresh k ?_)) (Nat.zero_le _)
        exact own_base hown' k hk
      obtain ⟨A', c', rfl, -, -⟩ := Kd.R_reads hR'
      exact h A' c' w' hR' (grown_weak hgr) (Kd.C_below (Kd.R_reads' HO).2.2 ((Below.refl _ _).grown hgr (Nat.le_refl _) (fun _ h => by cases h)))

end Go.Proofs.YtccpoflhmooanaaDoor.Mem
