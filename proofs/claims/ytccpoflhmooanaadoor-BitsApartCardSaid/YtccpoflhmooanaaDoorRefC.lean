/- Contracts of the document's functions on sets. -/
import Derived.Test.YtccpoflhmooanaaDoorSetF
namespace Go.Proofs.YtccpoflhmooanaaDoor.Kept
open Go.RowKit Go.Proofs.YtccpoflhmooanaaDoorW.PrintWords Go.Proofs.YtccpoflhmooanaaDoorW.PrintLast Go.Proofs.YtccpoflhmooanaaDoorW.PrintMore Go.Proofs.YtccpoflhmooanaaDoor.Nums Go.Proofs.YtccpoflhmooanaaDoor.Sets Go.Proofs.YtccpoflhmooanaaDoor.SetF Go.Proofs.YtccpoflhmooanaaDoor.Mem
set_option linter.unusedVariables false
set_option linter.unusedSimpArgs false

/-- The document's words of a list and a length: what both calls together come to. -/
theorem refOf_c {l : List Int} (hw : Wd l) (n : Int) (m : Nat) (hm : fitN n = m) {w : World} {A : Option Addr} {c : Nat} (hC : (Kd.int .u64).C w A l.length l) (hc : l.length ≤ c) :
    Calls Tryd.prog 11 #[.slice A l.length c, .int .i64 n] w fun e w' => ∃ A' c', e = .returned (.slice A' (tbl m (bitN l)).length c') ∧ (tbl m (bitN l)).length ≤ c' ∧ Kd.bool.C w' A' (tbl m (bitN l)).length (tbl m (bitN l)) ∧ Below w.heap.size w w' := by
  refine (Go.Proofs.YtccpoflhmooanaaDoor.R.croftref1_Of.calls 1048800 A c l n _ w hC hc (refOf hw n m hm _ (by omega))).mono ?_
  rintro e w' ⟨v, rfl, hr, hb⟩
  obtain ⟨A', c', rfl, hle, hC'⟩ := Kd.R_reads hr
  exact ⟨A', c', rfl, hle, hC', hb⟩
theorem refWords_c {t : List Bool} (ht : t.length ≤ 1048576) {w : World} {A : Option Addr} {c : Nat} (hC : Kd.bool.C w A t.length t) (hc : t.length ≤ c) :
    Calls Tryd.prog 14 #[.slice A t.length c] w fun e w' => ∃ A' c', e = .returned (.slice A' (wordsOf t).length c') ∧ (Kd.int .u64).R 24 w' w.heap.size (fun _ => True) (.slice A' (wordsOf t).length c') (wordsOf t) ∧ Below w.heap.size w w' := by
  refine (Go.Proofs.YtccpoflhmooanaaDoor.R.croftref1_Words.calls 1048800 A c t _ w hC hc (refWords t ht _ (by omega))).mono ?_
  rintro e w' ⟨v, rfl, hr, hb⟩
  obtain ⟨A', c', rfl, hle, hC'⟩ := Kd.R_reads hr
  exact ⟨A', c', rfl, hr, hb⟩
theorem same_c (l : List Int) (hl : l.length ≤ 1048576) {w : World} {A A' : Option Addr} {c c' : Nat} (hC : (Kd.int .u64).C w A l.length l) (hc : l.length ≤ c) (hC' : (Kd.int .u64).C w A' l.length l) (hc' : l.length ≤ c') :
    Calls Tryd.prog 12 #[.slice A l.length c, .slice A' l.length c'] w fun e w' => e = .returned (.bool true) ∧ Drawn0 w w' :=
  Go.Proofs.YtccpoflhmooanaaDoor.R.croftref1_Same.calls 1048800 A c l A' c' l true w hC hc hC' hc' (by rw [refSame l l hl _ (by omega)]; simp)

theorem info_u64 : (Tryd.prog.info? 24).map (fun i => (i.zero, i.size, i.bytes)) = some (some (.int .u64 0), 1, 8) := Go.Proofs.YtccpoflhmooanaaDoor.R.info24
theorem wd_wf {l : List Int} (h : ∀ x ∈ l, (Lit.int .u64 x).wf = true) : Wd l := by
  intro i
  by_cases hi : i < l.length
  · rw [List.getD_eq_getElem?_getD, List.getElem?_eq_getElem hi]
    have := bounds_u64 (h _ (List.getElem_mem hi))
    exact ⟨this.1, by simp only [Option.getD_some]; omega⟩
  · rw [List.getD_eq_getElem?_getD, List.getElem?_eq_none (by omega)]; simp
end Go.Proofs.YtccpoflhmooanaaDoor.Kept
