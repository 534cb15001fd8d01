/- More of the laws' arguments, opened: a Config, a block, Laid. -/
import Derived.Test.YtihfblnjgaalcaaXOpen
namespace Go.Proofs.Ytihfblnjgaalcaa.OX
open Go Go.RowKit Go.ChangeShapes Go.WideShapes Go.ChangeAt Go.Joins Go.Proofs.YtihfblnjgaalcaaW.PrintWords Go.Proofs.YtihfblnjgaalcaaW.PrintLast Go.Proofs.YtihfblnjgaalcaaW.PrintMore Go.Proofs.Ytihfblnjgaalcaa.R
set_option linter.unusedVariables false
set_option linter.unusedSimpArgs false
theorem cellsLaid : Try.prog.cellsOf 37 = 5 := by kernel_rfl
theorem cellsWords : Try.prog.cellsOf 35 = 1 := by kernel_rfl
set_option maxRecDepth 100000 in
theorem config_cells {H : Type} {enc : TypeId × Value → H} {W : World} {base n : Nat} {spare : Nat → Bool} {held : Bool} {c0 c1 c2 : Value} {y : DataW H × List MemPlace} (f0 : DataW.trod enc Try.prog W base spare held n 24 [c0, c1, c2] = some y) :
  ∃ b l o : Int, c0 = .int .u64 b ∧ c1 = .int .i64 l ∧ c2 = .int .i64 o ∧ (0 ≤ b ∧ b < 18446744073709551616) ∧ (-9223372036854775808 ≤ l ∧ l ≤ 9223372036854775807) := by
 obtain ⟨ys, n', -, hy, -, hylen, hyf⟩ := DataW.trod_struct Try.underlying24 f0
 match ys, hylen with
 | [z0, z1, z2], _ =>
  have g0 : DataW.trod enc Try.prog W base spare held n' 22 (([c0, c1, c2].drop 0).take (Try.prog.cellsOf 22)) = some z0 := hyf 0 _ rfl
  rw [cellsU] at g0
  replace g0 : DataW.trod enc Try.prog W base spare held n' 22 [c0] = some z0 := g0
  have g1 : DataW.trod enc Try.prog W base spare held n' 3 (([c0, c1, c2].drop 1).take (Try.prog.cellsOf 3)) = some z1 := hyf 1 _ rfl
  rw [cellsI] at g1
  replace g1 : DataW.trod enc Try.prog W base spare held n' 3 [c1] = some z1 := g1
  have g2 : DataW.trod enc Try.prog W base spare held n' 3 (([c0, c1, c2].drop 2).take (Try.prog.cellsOf 3)) = some z2 := hyf 2 _ rfl
  rw [cellsI] at g2
  replace g2 : DataW.trod enc Try.prog W base spare held n' 3 [c2] = some z2 := g2
  obtain ⟨b, e0, -, wb⟩ := DataW.trod_int Try.underlying22 g0
  obtain ⟨l, e1, -, wl⟩ := DataW.trod_int Try.underlying3 g1
  obtain ⟨o, e2, -, wo⟩ := DataW.trod_int Try.underlying3 g2
  simp at e0 e1 e2
  have hb := bounds_u64 wb
  have hl := bounds_i64 wl
  exact ⟨b, l, o, e0, e1, e2, ⟨hb.1, by omega⟩, ⟨by omega, by omega⟩⟩
set_option maxRecDepth 100000 in
/-- Laid, opened. -/
theorem laid_open {H : Type} {enc : TypeId × Value → H} {W : World} {base b0 : Nat} {spare : Nat → Bool} {held : Bool} {rc : Reach} {v : Value} {d : DataW H} {p : List MemPlace}
  (hv : Value.okWide Try.prog W rc b0 37 v) (h : DataW.Trod enc Try.prog W base spare held 37 v d p) (hw : ∀ n ∈ d.weights Try.prog 37, n ≤ reachBytes) :
  ∃ (b l o : Int) (A : Option Addr) (cap : Nat) (L : List S49) (B : Option Addr) (dap : Nat) (Z : List Int), v = .agg #[.int .u64 b, .int .i64 l, .int .i64 o, .slice A L.length cap, .slice B Z.length dap] ∧ (0 ≤ b ∧ b < 18446744073709551616) ∧
   L.length ≤ cap ∧ Kd.C k49 W A L.length L ∧ Wd49 L ∧ L.length ≤ 8796093021952 ∧ Z.length ≤ dap ∧ Kd.C (Kd.int .u64) W B Z.length Z ∧ (∀ x ∈ Z, 0 ≤ x ∧ x < 18446744073709551616) ∧ Z.length ≤ 17592186043904 := by
 obtain ⟨cs, rfl, hsz⟩ := okWide_struct Try.underlying37 hv
 obtain ⟨fuel, hf⟩ := h
 rw [cellsLaid] at hsz
 obtain ⟨xs, n, -, hx, hl, hlen, hff⟩ := DataW.trod_struct Try.underlying37 hf
 obtain ⟨cl⟩ := cs
 match cl, hsz with
 | [c0, c1, c2, c3, c4], _ =>
  match xs, hlen with
  | [y0, y1, y2], _ =>
   have f0 : DataW.trod enc Try.prog W base spare held n 24 (([c0, c1, c2, c3, c4].drop 0).take (Try.prog.cellsOf 24)) = some y0 := hff 0 _ rfl
   rw [cellsConfig] at f0
   replace f0 : DataW.trod enc Try.prog W base spare held n 24 [c0, c1, c2] = some y0 := f0
   have f1 : DataW.trod enc Try.prog W base spare held n 25 (([c0, c1, c2, c3, c4].drop 3).take (Try.prog.cellsOf 25)) = some y1 := hff 1 _ rfl
   rw [cellsBlocks] at f1
   replace f1 : DataW.trod enc Try.prog W base spare held n 25 [c3] = some y1 := f1
   have f2 : DataW.trod enc Try.prog W base spare held n 35 (([c0, c1, c2, c3, c4].drop 4).take (Try.prog.cellsOf 35)) = some y2 := hff 2 _ rfl
   rw [cellsWords] at f2
   replace f2 : DataW.trod enc Try.prog W base spare held n 35 [c4] = some y2 := f2
   obtain ⟨b, l, o, e0, e1, e2, hb, -⟩ := config_cells f0
   obtain ⟨A, len, cap, e3⟩ := slice_form Try.underlying25 f1
   obtain ⟨B, len2, cap2, e4⟩ := slice_form Try.underlying35 f2
   simp at e3 e4
   subst e0 e1 e2 e3 e4
   obtain ⟨hc, ⟨L, hL, hC, hW⟩, hwt⟩ := blocks_open f1
   obtain ⟨hd, ⟨Z, hZ, hD, hZw⟩, hzt⟩ := words_open f2
   subst hL hZ
   refine ⟨b, l, o, A, cap, L, B, cap2, Z, rfl, hb, hc, hC, hW, hwt (fun k hk => hw k ?_), hd, hD, hZw, hzt (fun k hk => hw k ?_)⟩
   ·simp only [Prod.mk.injEq] at hx
    rw [hx.1]
    simp only [DataW.weights, Try.underlying37]
    exact DataW.weights_mem_each (j := 1) (t := 25) rfl rfl k hk
   ·simp only [Prod.mk.injEq] at hx
    rw [hx.1]
    simp only [DataW.weights, Try.underlying37]
    exact DataW.weights_mem_each (j := 2) (t := 35) rfl rfl k hk
end Go.Proofs.Ytihfblnjgaalcaa.OX
