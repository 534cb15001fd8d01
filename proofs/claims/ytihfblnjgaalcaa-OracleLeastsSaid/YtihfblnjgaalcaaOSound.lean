/- Sound, walked. -/
import Derived.Test.YtihfblnjgaalcaaOScan
import Derived.Test.YtihfblnjgaalcaaOPages
namespace Go.Proofs.Ytihfblnjgaalcaa.OC
open Go Go.RowKit Go.Maps Go.Proofs.YtihfblnjgaalcaaW.PrintWords Go.Proofs.YtihfblnjgaalcaaW.PrintLast Go.Proofs.YtihfblnjgaalcaaW.PrintMore Go.Proofs.Ytihfblnjgaalcaa.R Go.Proofs.Ytihfblnjgaalcaa.OM Go.Proofs.Ytihfblnjgaalcaa.OP Go.Proofs.Ytihfblnjgaalcaa.OR Go.Proofs.Ytihfblnjgaalcaa.OS Go.Proofs.Ytihfblnjgaalcaa.OB Go.Proofs.Ytihfblnjgaalcaa.OF Go.Proofs.Ytihfblnjgaalcaa.OW Go.Proofs.Ytihfblnjgaalcaa.ON Go.Proofs.Ytihfblnjgaalcaa.OG
set_option linter.unusedVariables false
set_option linter.unusedSimpArgs false
/-- What comes in is as it is in Go, and not too long. -/
def Good (base : Int) (l : List S55) : Prop := (0 ≤ base ∧ base < 18446744073709551616) ∧ OP.Wd l ∧ l.length ≤ 8796093022208
theorem sound_bad {base limit order n : Int} {l : List S55} (h : ¬ (mayB base limit order = true ∧ 0 ≤ n ∧ n ≤ limit)) : soundI base limit order n l = 0 := by
 unfold soundI
 rw [if_neg]
 simp only [Bool.and_eq_true, decide_eq_true_eq]
 exact h
theorem sound_scan {base limit order n : Int} {l : List S55} (h1 : mayB base limit order = true) (h2 : 0 ≤ n) (h3 : n ≤ limit) : soundI base limit order n l = (scan base order n PM.none l 0).2 := by
 unfold soundI
 rw [if_pos]
 simp only [Bool.and_eq_true, decide_eq_true_eq]
 exact ⟨h1, h2, h3⟩
set_option maxRecDepth 100000 in
set_option maxHeartbeats 4000000 in
theorem sound_c (base limit order n : Int) (A : Option Addr) (c : Nat) (l : List S55) (w : World) (hr : Kd.C k55 w A l.length l) (hc : l.length ≤ c) (hG : Good base l) :
  Calls Try.prog 14 #[.agg #[.int .u64 base, .int .i64 limit, .int .i64 order], .int .i64 n, .slice A l.length c] w fun e w' => e = .returned (.int .i64 (soundI base limit order n l)) ∧ Below w.heap.size w w' := by
 have HR := Lib.hid hr
 have HG := Lib.hid hG
 have HC := Lib.hid hc
 clear hr hG hc
 by_cases hm : mayB base limit order = true
 ·by_cases hn0 : n < 0
  ·have hs := sound_bad (base := base) (limit := limit) (order := order) (n := n) (l := l) (fun h => by omega)
   have HS := Lib.hid hs
   have HM := Lib.hid hm
   have hd : decide (n < 0) = true := decide_eq_true hn0
   clear hs hm
   go_enter Try.func14, Try.ntmps14
   go_wp2_with (go_at_call 38; refine (may_c HG.out.1.1 HG.out.1.2 true HM.out _).mono ?_; rintro e w5 ⟨rfl, hb5⟩; have HB5 := Lib.hid hb5; clear hb5)
   go_ret
   rw [HS.out]
   exact ⟨rfl, ((Below.refl w.heap.size w).alloc (Nat.le_refl _) _).trans (HB5.out.mono (by simp))⟩
  ·have hd : decide (n < 0) = false := decide_eq_false hn0
   by_cases hnl : n ≤ limit
   ·have hd2 : decide (n > limit) = false := decide_eq_false (by omega)
    have HS := Lib.hid (sound_scan (l := l) hm (by omega) hnl)
    have HM := Lib.hid hm
    have HN := Lib.hid hnl
    have HN0 := Lib.hid (show 0 ≤ n from by omega)
    clear hm hnl hn0
    go_enter Try.func14, Try.ntmps14
    go_wp2_with (go_at_call 38; refine (may_c HG.out.1.1 HG.out.1.2 true HM.out _).mono ?_; rintro e w5 ⟨rfl, hb5⟩; have HB5 := Lib.hid hb5; have hx0 : w5.cell? ⟨w.heap.size, 0, none⟩ = some (.int .u64 base) := blk_cell ((hb5.block _ (by simp)).trans (blk_new w _)) 0; have hx1 : w5.cell? ⟨w.heap.size, 1, none⟩ = some (.int .i64 limit) := blk_cell ((hb5.block _ (by simp)).trans (blk_new w _)) 1; have hx2 : w5.cell? ⟨w.heap.size, 2, none⟩ = some (.int .i64 order) := blk_cell ((hb5.block _ (by simp)).trans (blk_new w _)) 2; clear hb5)
    have HW5 := Lib.hid (show Below w.heap.size w w5 from ((Below.refl w.heap.size w).alloc (Nat.le_refl _) _).trans (HB5.out.mono (by simp)))
    refine (pages_calls base limit order n A c l _ (Kd.C_below HR.out HW5.out) HC.out HG.out.2.2 HM.out HN0.out HN.out HG.out.2.1 HG.out.1.1).mono ?_
    rintro e w6 ⟨hb6, hp⟩
    have HB6 := Lib.hid hb6
    clear hb6 hx0 hx1 hx2
    rcases hp with ⟨m, mb, s, hsc, rfl, -, -⟩ | ⟨i, hsc, rfl⟩
    ·have HSC := Lib.hid hsc
     clear hsc
     go_wp2
     go_ret
     rw [HS.out, HSC.out]
     exact ⟨rfl, HW5.out.trans (HB6.out.mono HW5.out.size)⟩
    ·have HSC := Lib.hid hsc
     clear hsc
     go_wp2
     go_ret
     rw [HS.out, HSC.out]
     exact ⟨rfl, HW5.out.trans (HB6.out.mono HW5.out.size)⟩
   ·have hd2 : decide (n > limit) = true := decide_eq_true (by omega)
    have hs := sound_bad (base := base) (limit := limit) (order := order) (n := n) (l := l) (fun h => hnl h.2.2)
    have HS := Lib.hid hs
    have HM := Lib.hid hm
    clear hs hm hnl hn0
    go_enter Try.func14, Try.ntmps14
    go_wp2_with (go_at_call 38; refine (may_c HG.out.1.1 HG.out.1.2 true HM.out _).mono ?_; rintro e w5 ⟨rfl, hb5⟩; have HB5 := Lib.hid hb5; have hx1 : w5.cell? ⟨w.heap.size, 1, none⟩ = some (.int .i64 limit) := blk_cell ((hb5.block _ (by simp)).trans (blk_new w _)) 1; clear hb5)
    go_ret
    rw [HS.out]
    exact ⟨rfl, ((Below.refl w.heap.size w).alloc (Nat.le_refl _) _).trans (HB5.out.mono (by simp))⟩
 ·have hs := sound_bad (base := base) (limit := limit) (order := order) (n := n) (l := l) (fun h => hm h.1)
  have HS := Lib.hid hs
  have HM := Lib.hid (show mayB base limit order = false from by simpa using hm)
  clear hs hm
  go_enter Try.func14, Try.ntmps14
  go_wp2_with (go_at_call 38; refine (may_c HG.out.1.1 HG.out.1.2 false HM.out _).mono ?_; rintro e w5 ⟨rfl, hb5⟩; have HB5 := Lib.hid hb5; clear hb5)
  go_ret
  rw [HS.out]
  exact ⟨rfl, ((Below.refl w.heap.size w).alloc (Nat.le_refl _) _).trans (HB5.out.mono (by simp))⟩
end Go.Proofs.Ytihfblnjgaalcaa.OC
