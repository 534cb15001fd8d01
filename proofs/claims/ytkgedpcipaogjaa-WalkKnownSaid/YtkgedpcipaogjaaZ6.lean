/- Part 6 of what the rows of this seat rest on: words of the print that they need; how images, spaces, sets lie in memory; the functions walked. -/
import Derived.Deep.DeepCutAuto
import Derived.Test.YtkgedpcipaogjaaZ5
section
namespace Go.Proofs.Ytkgedpcipaogjaa.WB
open Go Go.RowKit Go.Proofs.YtkgedpcipaogjaaW.PrintWords Go.Proofs.YtkgedpcipaogjaaW.PrintLast Go.Proofs.YtkgedpcipaogjaaW.PrintMore
set_option linter.unusedVariables false
set_option linter.unusedSimpArgs false
section
variable {F : Nat → Prop} {g : Nat} {im : Im} {s : Sl} {WA wx : World}
theorem open_in (hv : ∀ wr, Below WA.heap.size WA wr → VI F g im s wr) (hF : ∀ b, F b → b < WA.heap.size) (hx : Below WA.heap.size WA wx) {i : Nat} (hi : i < im.pages.length) {k : Int} {r : Bool} (hr : im.openB i k = r) :
    Calls Try.prog 73 #[.agg (im.cells s), .int .i64 (i : Int), .int .i64 k] wx fun e w' => e = .returned (.bool r) ∧ Below WA.heap.size WA w' :=
  hr ▸ (open_d (hv wx hx).im (fun b hb => Nat.lt_of_lt_of_le (hF b hb) hx.size) i hi k).mono (fun e w' hh => ⟨hh.1, hx.trans (hh.2.mono hx.size)⟩)
theorem room_in (hv : ∀ wr, Below WA.heap.size WA wr → VI F g im s wr) (hF : ∀ b, F b → b < WA.heap.size) (hx : Below WA.heap.size WA wx) {i : Nat} (hi : i < im.pages.length) (h0 : 0 ≤ (im.pg i).cl ∧ (im.pg i).cl ≤ 7) {k : Int} {r : Bool} (hr : im.roomB i k = r) :
    Calls Try.prog 76 #[.agg (im.cells s), .int .i64 (i : Int), .int .i64 k] wx fun e w' => e = .returned (.bool r) ∧ Below WA.heap.size WA w' :=
  hr ▸ (room_d (hv wx hx).im (fun b hb => Nat.lt_of_lt_of_le (hF b hb) hx.size) i hi h0.1 h0.2 k).mono (fun e w' hh => ⟨hh.1, hx.trans (hh.2.mono hx.size)⟩)
theorem word_in (hv : ∀ wr, Below WA.heap.size WA wr → VI F g im s wr) (hF : ∀ b, F b → b < WA.heap.size) (hx : Below WA.heap.size WA wx) {off : Nat} (ho : off + 8 ≤ im.mem.length) {r : Int} (hr : wordM im.mem off = r) :
    Calls Try.prog 75 #[.agg (im.cells s), .int .u64 (off : Int)] wx fun e w' => e = .returned (.int .u64 r) ∧ Below WA.heap.size WA w' :=
  hr ▸ (word_d (hv wx hx).im (fun b hb => Nat.lt_of_lt_of_le (hF b hb) hx.size) off ho).mono (fun e w' hh => ⟨hh.1, hx.trans (hh.2.mono hx.size)⟩)
theorem number_in (hv : ∀ wr, Below WA.heap.size WA wr → VI F g im s wr) (hF : ∀ b, F b → b < WA.heap.size) (hx : Below WA.heap.size WA wx) (p : Int) (hn : im.pages.length ≤ 1024) (htop : im.base ≤ 9223372036854775808) {r : Int} (hr : doc (numS im p) = r) :
    Calls Try.prog 74 #[.agg (im.cells s), .int .u64 p] wx fun e w' => e = .returned (.int .i64 r) ∧ Below WA.heap.size WA w' :=
  hr ▸ (number_d (hv wx hx).im (fun b hb => Nat.lt_of_lt_of_le (hF b hb) hx.size) p hn htop).mono (fun e w' hh => ⟨hh.1, hx.trans (hh.2.mono hx.size)⟩)
end
theorem half_nums {k j x y r : Nat} (hk : k < 1024) (hj : j < 8) (hx : 2 ^ j = x) (hy : y = 2 * x) (hr : r = k % y) :
    wrap64 (2 * (x : Int)) = (y : Int) ∧ Int.tmod (k : Int) (y : Int) = (r : Int) ∧ (k : Int) % (y : Int) = (r : Int) ∧ ¬ y = 0 ∧ wrap64 (r : Int) = (r : Int) ∧ wrap64 ((k : Int) + (x : Int)) = ((k + x : Nat) : Int) ∧ wrap64 ((j : Int) + 1) = (j : Int) + 1 := by
  have h1 : x ≤ 2 ^ 8 := by rw [← hx]; exact Nat.pow_le_pow_right (by decide) (by omega)
  have h2 : 0 < x := by rw [← hx]; exact Nat.pow_pos (by decide)
  have h3 : (k : Int) % (y : Int) = (r : Int) := by rw [hr]; rfl
  have h4 : r ≤ k := by rw [hr]; exact Nat.mod_le _ _
  refine ⟨by unfold wrap64; omega, ?_, h3, by omega, by unfold wrap64; omega, by unfold wrap64; omega, by unfold wrap64; omega⟩
  rw [Int.tmod_eq_emod_of_nonneg (by omega)]
  exact h3
theorem bz_f {r : Nat} (h : ¬ r = 0) : ((r : Int) == 0) = false := by rw [beq_eq_false_iff_ne]; omega
theorem bz_f' {r : Nat} (h : ¬ r = 0) : (r == 0) = false := by rw [beq_eq_false_iff_ne]; omega
theorem bz_t {r : Nat} (h : r = 0) : ((r : Int) == 0) = true := by rw [beq_iff_eq]; omega
theorem bz_t' {r : Nat} (h : r = 0) : (r == 0) = true := by rw [beq_iff_eq]; omega
theorem half_fit {im : Im} {o ro : Nat} (g : Geo im o ro) {j k x y r : Nat} (hj : j < o) (hk : k < im.pages.length) (hx : 2 ^ j = x) (hy : y = 2 * x) (hr : r = k % y) (h0 : r = 0) : k + x < im.pages.length := by
  have e : 2 ^ (j + 1) = y := by rw [Nat.pow_succ, hx, hy]; omega
  have h1 := g.fits (k := j + 1) (i := k) hj hk (by rw [e, ← hr]; exact h0)
  have h2 : 0 < x := by rw [← hx]; exact Nat.pow_pos (by decide)
  unfold Im.n at h1
  rw [e] at h1
  omega
def d6F (im : Im) (o i : Nat) : Option Int := scan (halfF im i) o 0
theorem R6_doc {im : Im} {o r : Nat} (g : Geo im o r) (hR : ∀ i, i < im.pages.length → Rng im.order ((im.n : Int) - 1) (im.pg i)) : R6 im = scan (d6F im o) im.pages.length 0 := by
  unfold R6
  exact scan_congr _ _ (fun i _ hi => (half_eq g.order (hR i (by unfold Im.n at hi; omega)).od.1).symm)
section
variable {F : Nat → Prop} {im : Im} {s : Sl} {w : World}
set_option maxRecDepth 100000 in
set_option maxHeartbeats 4000000 in
theorem halves_d (h : ImAt F w im s) (hF : ∀ b, F b → b < w.heap.size) {o r : Nat} (g : Geo im o r) (hR : ∀ i, i < im.pages.length → Rng im.order ((im.n : Int) - 1) (im.pg i)) : Calls Try.prog 45 #[.agg (im.cells s)] w (DocP w (.int .i64 (doc (R6 im)))) := by
  rw [R6_doc g hR]
  obtain ⟨A, a, B, b, C, c, D, d, E, e⟩ := s
  obtain ⟨WA, hWA⟩ : ∃ W, w.alloc (imO im ⟨A, a, B, b, C, c, D, d, E, e⟩) = W := ⟨_, rfl⟩
  obtain ⟨hsa, hbl, hvl⟩ := box_facts h hF hWA
  have HBL := Lib.hid hbl
  have HVL := Lib.hid hvl
  have HFA := Lib.hid (show ∀ b, F b → b < WA.heap.size from fun b hb => by have := hF b hb; omega)
  have HWF := Lib.hid h.wf
  have hl := len_i64 h.wf
  obtain ⟨c0, c1, c2, c3, c4, c5, c6, c7, c8⟩ := (hvl WA (Below.refl _ _)).cell
  dsimp only at c0 c1 c2 c3 c4 c5 c6 c7 c8
  unfold imO Im.cells at hWA
  unfold Im.cells
  clear h hF hvl hbl
  have HGEO := Lib.hid g
  have HO := Lib.hid g.order
  have HO8 := Lib.hid g.o8
  have HN := Lib.hid (show im.pages.length ≤ 1024 from g.n1024)
  obtain ⟨RR6, hRR⟩ : ∃ R, scan (d6F im o) im.pages.length 0 = R := ⟨_, rfl⟩
  have HRR := Lib.hid hRR
  rw [hRR]
  clear hRR hR g
  go_enter Try.func45, Try.ntmps45
  go_wp2
  clear hWA c0 c1 c2 c3 c4 c5 c6 c7 c8
  go_loopg [3] im.pages.length (fun g v wr => ∃ k : Nat, v = .int .i64 (k : Int) ∧ Aside0 (k + g = im.pages.length) ∧ Aside0 (Below WA.heap.size WA wr) ∧ Aside0 (scan (d6F im o) g k = RR6))
  case atStart => exact ⟨0, rfl, ⟨by omega⟩, ⟨Below.refl _ _⟩, ⟨HRR.out⟩⟩
  case round =>
    obtain ⟨k, rfl, hkg, hbe, hsc⟩ := hrel
    obtain ⟨-, -, -, -, -, c5, -, -, -⟩ := (HVL.out wr hbe.out).cell
    dsimp only at c5
    by_cases hk : k < im.pages.length
    case neg =>
      have hkd : decide ((k : Int) < (im.pages.length : Int)) = false := decide_eq_false (by omega)
      have hkd' : decide (k < im.pages.length) = false := decide_eq_false hk
      have HX := Lib.hid (show RR6 = none by have h := hsc.out; rw [show gk = 0 by have := hkg.out; omega, scan] at h; exact h.symm)
      clear hk
      go_wp2
      go_ret
      exact ⟨by rw [HX.out]; rfl, HBL.out _ hbe.out⟩
    have hkd : decide ((k : Int) < (im.pages.length : Int)) = true := decide_eq_true (by omega)
    have hkd' : decide (k < im.pages.length) = true := decide_eq_true hk
    obtain ⟨g1, rfl⟩ : ∃ g1, gk = g1 + 1 := ⟨gk - 1, by have := hkg.out; omega⟩
    have HK := Lib.hid hk
    have HG := Lib.hid (show k + 1 + g1 = im.pages.length by have := hkg.out; omega)
    have HBAD := Lib.hid (show ∀ pl, d6F im o k = some pl → RR6 = some pl from fun pl h => hsc.out.symm.trans (scan_bad h))
    have HGOOD := Lib.hid (show d6F im o k = none → scan (d6F im o) g1 (k + 1) = RR6 from fun h => (scan_ok h).symm.trans hsc.out)
    have HBE := Lib.hid hbe.out
    have HK1024 := Lib.hid (show k < 1024 by have := HN.out; omega)
    have hk1 : wrap64 ((k : Int) + 1) = (k : Int) + 1 := by have := HN.out; unfold wrap64; omega
    clear hk hbe hsc hkg
    go_wp2
    go_loopg [4, 5, 13, 14, 15, 16, 17, 18, 19, 20, 21, 22, 23, 24, 25, 26, 27, 28, 29, 30, 31, 32, 33, 34, 35, 36, 37, 38, 39, 40] o (fun g v _ _ _ _ _ _ _ _ _ _ _ _ _ _ _ _ _ _ _ _ _ _ _ _ _ _ _ _ _ wi => ∃ j : Nat, v = .int .i64 (j : Int) ∧ Aside0 (j + g = o) ∧ Aside0 (Below WA.heap.size WA wi) ∧ Aside0 (scan (halfF im k) g j = d6F im o k))
    case atStart => exact ⟨0, rfl, ⟨by omega⟩, ⟨HBE.out⟩, ⟨rfl⟩⟩
    case round =>
      obtain ⟨j, rfl, hjg, hbi, hsc⟩ := hrel
      obtain ⟨c0, c1, c2, c3, c4, c5, c6, c7, c8⟩ := (HVL.out wr hbi.out).cell
      dsimp only at c0 c1 c2 c3 c4 c5 c6 c7 c8
      have HBI := Lib.hid hbi.out
      by_cases hj : j < o
      case neg =>
        have hjd : decide ((j : Int) < im.order) = false := decide_eq_false (by have := HO.out; omega)
        have hjd' : decide (j < o) = false := decide_eq_false hj
        have HX := Lib.hid (HGOOD.out (by have h := hsc.out; rw [show gk = 0 by have := hjg.out; omega, scan] at h; exact h.symm))
        clear hj hbi hsc hjg
        go_wp2
        go_roundg g1
        case measure => omega
        case rel => exact ⟨k + 1, by simp; try exact hk1, ⟨HG.out⟩, ⟨HBI.out⟩, ⟨HX.out⟩⟩
      have hjd : decide ((j : Int) < im.order) = true := decide_eq_true (by have := HO.out; omega)
      have hjd' : decide (j < o) = true := decide_eq_true hj
      obtain ⟨g2, rfl⟩ : ∃ g2, gk = g2 + 1 := ⟨gk - 1, by have := hjg.out; omega⟩
      have HJG := Lib.hid (show j + 1 + g2 = o by have := hjg.out; omega)
      have HJ8 := Lib.hid (show j < 8 by have := HO8.out; omega)
      have HJ61 := Lib.hid (show j ≤ 61 by have := HO8.out; omega)
      obtain ⟨x, hx⟩ : ∃ x, 2 ^ j = x := ⟨_, rfl⟩
      obtain ⟨y, hy⟩ : ∃ y, y = 2 * x := ⟨_, rfl⟩
      obtain ⟨r, hr⟩ : ∃ r, r = k % y := ⟨_, rfl⟩
      obtain ⟨n1, n2, n3, n4, n5, n6, n7⟩ := half_nums HK1024.out HJ8.out hx hy hr
      have HPOW := Lib.hid (fun wx => power_x hx HJ61.out wx)
      have HHF := Lib.hid (show halfF im k j = if r = 0 ∧ im.openB k j = true ∧ im.openB (k + x) j = true then some (k : Int) else none by unfold halfF; rw [hr, hy, ← hx])
      have HBADJ := Lib.hid (show halfF im k j = some (k : Int) → RR6 = some (k : Int) from fun h => HBAD.out _ (hsc.out.symm.trans (scan_bad h)))
      have HGOODJ := Lib.hid (show halfF im k j = none → scan (halfF im k) g2 (j + 1) = d6F im o k from fun h => (scan_ok h).symm.trans hsc.out)
      have HFIT := Lib.hid (half_fit HGEO.out hj HK.out hx hy hr)
      clear hj hbi hsc hjg hx hy hr
      by_cases hr0 : r = 0
      case neg =>
        have r0 : ((r : Int) == 0) = false := bz_f hr0
        have r0' : (r == 0) = false := bz_f' hr0
        have HX := Lib.hid (HGOODJ.out (by rw [HHF.out, if_neg (fun hh => hr0 hh.1)]))
        clear hr0
        go_wp2_with (go_at_call 30; refine (HPOW.out _).mono ?_; rintro e w5 ⟨rfl, rfl⟩)
        go_roundg g2
        case measure => omega
        case rel => exact ⟨j + 1, by simp; try exact n7, ⟨HJG.out⟩, ⟨HBI.out⟩, ⟨HX.out⟩⟩
      have r0 : ((r : Int) == 0) = true := bz_t hr0
      have r0' : (r == 0) = true := bz_t' hr0
      have HZ := Lib.hid (HFIT.out hr0)
      have HR0 := Lib.hid hr0
      have TK1 : True := trivial
      clear hr0
      obtain ⟨z, hz⟩ : ∃ z, k + x = z := ⟨_, rfl⟩
      rw [hz] at n6 HZ HHF
      clear hz
      cases ho1 : im.openB k j with
      | false =>
        have HX := Lib.hid (HGOODJ.out (by rw [HHF.out, if_neg (fun hh => by rw [ho1] at hh; cases hh.2.1)]))
        have HO1 := Lib.hid ho1
        clear ho1
        go_wp2_with (first | (go_at_call 30; refine (HPOW.out _).mono ?_; rintro e w5 ⟨rfl, rfl⟩) | (go_at_call 73; clear TK1; refine (open_in HVL.out HFA.out HBI.out HK.out HO1.out).mono ?_; rintro e w5 ⟨rfl, hb5⟩; have HB5 := Lib.hid hb5; obtain ⟨d0, d1, d2, d3, d4, d5, d6, d7, d8⟩ := (HVL.out w5 hb5).cell; dsimp only at d0 d1 d2 d3 d4 d5 d6 d7 d8; clear hb5))
        go_roundg g2
        case measure => omega
        case rel => exact ⟨j + 1, by simp; try exact n7, ⟨HJG.out⟩, ⟨HB5.out⟩, ⟨HX.out⟩⟩
      | true =>
        cases ho2 : im.openB z j with
        | false =>
          have HX := Lib.hid (HGOODJ.out (by rw [HHF.out, if_neg (fun hh => by rw [ho2] at hh; cases hh.2.2)]))
          have HO1 := Lib.hid ho1
          have HO2 := Lib.hid ho2
          clear ho1 ho2
          go_wp2_with (first | (go_at_call 30; refine (HPOW.out _).mono ?_; rintro e w5 ⟨rfl, rfl⟩) | (go_at_call 73; clear TK1; refine (open_in HVL.out HFA.out HBI.out HK.out HO1.out).mono ?_; rintro e w5 ⟨rfl, hb5⟩; have HB5 := Lib.hid hb5; obtain ⟨d0, d1, d2, d3, d4, d5, d6, d7, d8⟩ := (HVL.out w5 hb5).cell; dsimp only at d0 d1 d2 d3 d4 d5 d6 d7 d8; clear hb5) | (go_at_call 73; refine (open_in HVL.out HFA.out HB5.out HZ.out HO2.out).mono ?_; rintro e w6 ⟨rfl, hb6⟩; have HB6 := Lib.hid hb6; clear hb6))
          go_roundg g2
          case measure => omega
          case rel => exact ⟨j + 1, by simp; try exact n7, ⟨HJG.out⟩, ⟨HB6.out⟩, ⟨HX.out⟩⟩
        | true =>
          have HX := Lib.hid (HBADJ.out (by rw [HHF.out, if_pos ⟨HR0.out, ho1, ho2⟩]))
          have HO1 := Lib.hid ho1
          have HO2 := Lib.hid ho2
          clear ho1 ho2
          go_wp2_with (first | (go_at_call 30; refine (HPOW.out _).mono ?_; rintro e w5 ⟨rfl, rfl⟩) | (go_at_call 73; clear TK1; refine (open_in HVL.out HFA.out HBI.out HK.out HO1.out).mono ?_; rintro e w5 ⟨rfl, hb5⟩; have HB5 := Lib.hid hb5; obtain ⟨d0, d1, d2, d3, d4, d5, d6, d7, d8⟩ := (HVL.out w5 hb5).cell; dsimp only at d0 d1 d2 d3 d4 d5 d6 d7 d8; clear hb5) | (go_at_call 73; refine (open_in HVL.out HFA.out HB5.out HZ.out HO2.out).mono ?_; rintro e w6 ⟨rfl, hb6⟩; have HB6 := Lib.hid hb6; clear hb6))
          go_ret
          exact ⟨by rw [HX.out]; rfl, HBL.out _ HB6.out⟩
end
end Go.Proofs.Ytkgedpcipaogjaa.WB
end
section
namespace Go.Proofs.Ytkgedpcipaogjaa.WB
open Go Go.RowKit Go.Proofs.YtkgedpcipaogjaaW.PrintWords Go.Proofs.YtkgedpcipaogjaaW.PrintLast Go.Proofs.YtkgedpcipaogjaaW.PrintMore
set_option linter.unusedVariables false
set_option linter.unusedSimpArgs false
theorem numS_spec {im : Im} {p i : Int} (h : numS im p = some i) : ∃ n : Nat, i = n ∧ n < im.n ∧ p = im.base + 4096 * (n : Int) := by
  obtain ⟨n, -, h2, h3⟩ := scan_some h
  split at h3
  · injection h3 with h3
    exact ⟨n, h3.symm, by omega, by assumption⟩
  · cases h3
theorem rf_none {L : Ln} {g : Nat} {p b : Int} (h : L.idx p = none) : L.rf (g + 1) p b = false := by
  rw [Ln.rf, h]
theorem rf_bad {L : Ln} {g i : Nat} {p b : Int} (h : L.idx p = some i) (h2 : ¬ L.pv i = b) : L.rf (g + 1) p b = false := by
  rw [Ln.rf, h]
  exact if_neg h2
theorem rf_next {L : Ln} {g i : Nat} {p b : Int} (h : L.idx p = some i) (h2 : L.pv i = b) : L.rf (g + 1) p b = L.rf g (L.nx i) p := by
  rw [Ln.rf, h]
  exact if_pos h2
def d8F (im : Im) (k : Nat) : Option Int := if (freeL im k).folB (im.heads.getD k 0) = true then none else some k
theorem free_offs {im : Im} {o r : Nat} (g : Geo im o r) {n o0 o1 : Nat} (hn : n < im.pages.length) (h0 : o0 = 4096 * n) (h1 : o1 = o0 + 8) : o0 + 8 ≤ im.mem.length ∧ o1 + 8 ≤ im.mem.length ∧ IntKind.u64.wrap (n : Int) = (n : Int) ∧ IntKind.u64.wrap (4096 * (n : Int)) = (o0 : Int) ∧ IntKind.u64.wrap ((o0 : Int) + 8) = (o1 : Int) ∧ IntKind.u64.wrap ((o0 : Int)) = (o0 : Int) ∧ IntKind.u64.wrap ((o1 : Int)) = (o1 : Int) ∧ (n : Int) < 1024 := by
  have hm := g.mem
  have h3 := g.n
  have h4 := g.n1024
  unfold Im.n at h3 h4
  refine ⟨by omega, by omega, ?_, ?_, ?_, ?_, ?_, by omega⟩ <;> rw [wrap_u64] <;> omega
theorem lt_dec {a b : Nat} (h : a < b) : decide ((a : Int) < (b : Int)) = true ∧ decide (a < b) = true := ⟨decide_eq_true (by omega), decide_eq_true h⟩
theorem nlt_dec {a b : Nat} (h : ¬ a < b) : decide ((a : Int) < (b : Int)) = false ∧ decide (a < b) = false := ⟨decide_eq_false (by omega), decide_eq_false h⟩
theorem up1 {a : Nat} (h : a ≤ 140737488355328) : wrap64 ((a : Int) + 1) = (a : Int) + 1 := by unfold wrap64; omega
section
variable {F : Nat → Prop} {im : Im} {s : Sl} {w : World}
set_option maxRecDepth 100000 in
set_option maxHeartbeats 4000000 in
theorem free_d (h : ImAt F w im s) (hF : ∀ b, F b → b < w.heap.size) {o r : Nat} (g : Geo im o r) : Calls Try.prog 47 #[.agg (im.cells s)] w (DocP w (.int .i64 (doc (R8 im)))) := by
  obtain ⟨A, a, B, b, C, c, D, d, E, e⟩ := s
  obtain ⟨WA, hWA⟩ : ∃ W, w.alloc (imO im ⟨A, a, B, b, C, c, D, d, E, e⟩) = W := ⟨_, rfl⟩
  obtain ⟨hsa, hbl, hvl⟩ := box_facts h hF hWA
  have HBL := Lib.hid hbl
  have HVL := Lib.hid hvl
  have HFA := Lib.hid (show ∀ b, F b → b < WA.heap.size from fun b hb => by have := hF b hb; omega)
  have HWF := Lib.hid h.wf
  have hl := len_i64 h.wf
  obtain ⟨c0, c1, c2, c3, c4, c5, c6, c7, c8⟩ := (hvl WA (Below.refl _ _)).cell
  dsimp only at c0 c1 c2 c3 c4 c5 c6 c7 c8
  unfold imO Im.cells at hWA
  unfold Im.cells
  clear h hF hvl hbl
  have HGEO := Lib.hid g
  have HO := Lib.hid g.order
  have HO8 := Lib.hid g.o8
  have HN := Lib.hid (show im.pages.length ≤ 1024 from g.n1024)
  have HH := Lib.hid g.heads
  have HTOP := Lib.hid (show im.base ≤ 9223372036854775808 by have := g.top; omega)
  obtain ⟨RR, hRR⟩ : ∃ R, R8 im = R := ⟨_, rfl⟩
  have HRR := Lib.hid (show scan (d8F im) (o + 1) 0 = RR by rw [← hRR, ← g.heads]; rfl)
  rw [hRR]
  clear hRR g
  go_enter Try.func47, Try.ntmps47
  go_wp2
  clear hWA c0 c1 c2 c3 c4 c5 c6 c7 c8
  go_loopg [3] (o + 1) (fun g v wr => ∃ k : Nat, v = .int .i64 (k : Int) ∧ Aside0 (k + g = o + 1) ∧ Aside0 (Below WA.heap.size WA wr) ∧ Aside0 (scan (d8F im) g k = RR))
  case atStart => exact ⟨0, rfl, ⟨by omega⟩, ⟨Below.refl _ _⟩, ⟨HRR.out⟩⟩
  case round =>
    obtain ⟨k, rfl, hkg, hbe, hsc⟩ := hrel
    obtain ⟨-, -, c2, -, -, -, -, -, -⟩ := (HVL.out wr hbe.out).cell
    by_cases hk : k < o + 1
    case neg =>
      have hkd : decide ((k : Int) ≤ im.order) = false := decide_eq_false (by have := HO.out; omega)
      have HX := Lib.hid (show RR = none by have h := hsc.out; rw [show gk = 0 by have := hkg.out; omega, scan] at h; exact h.symm)
      clear hk
      go_wp2
      go_ret
      exact ⟨by rw [HX.out]; rfl, HBL.out _ hbe.out⟩
    have hkd : decide ((k : Int) ≤ im.order) = true := decide_eq_true (by have := HO.out; omega)
    obtain ⟨g1, rfl⟩ : ∃ g1, gk = g1 + 1 := ⟨gk - 1, by have := hkg.out; omega⟩
    have HK := Lib.hid (show k < im.heads.length by have := HH.out; omega)
    have HG := Lib.hid (show k + 1 + g1 = o + 1 by have := hkg.out; omega)
    have HBAD := Lib.hid (show (freeL im k).folB (im.heads.getD k 0) = false → RR = some (k : Int) from fun h => hsc.out.symm.trans (scan_bad (if_neg (by rw [h]; decide))))
    have HGOOD := Lib.hid (show (freeL im k).folB (im.heads.getD k 0) = true → scan (d8F im) g1 (k + 1) = RR from fun h => (scan_ok (if_pos h)).symm.trans hsc.out)
    have HFE := Lib.hid (free_eq HGEO.out k (im.heads.getD k 0))
    have HBE := Lib.hid hbe.out
    have hk1 : wrap64 ((k : Int) + 1) = (k : Int) + 1 := by have := HO8.out; unfold wrap64; omega
    clear hk hbe hsc hkg
    go_wp2
    go_loopg [4, 5, 17, 18, 19, 20, 21, 22, 23, 24, 25, 26, 27, 28, 29] im.pages.length (fun g u v _ _ _ _ _ _ _ _ _ _ _ _ _ wi => ∃ i n : Nat, v = .int .i64 (i : Int) ∧ u = .int .i64 (n : Int) ∧ Aside0 (i + g = im.pages.length) ∧ Aside0 (cnt (fun i => im.openB i k) i = n) ∧ Aside0 (Below WA.heap.size WA wi))
    case atStart => exact ⟨0, 0, rfl, rfl, ⟨by omega⟩, ⟨rfl⟩, ⟨HBE.out⟩⟩
    case round =>
      obtain ⟨i, n, rfl, rfl, hig, hn, hbi⟩ := hrel
      obtain ⟨c0, c1, c2, c3, c4, c5, c6, c7, c8⟩ := (HVL.out wr hbi.out).cell
      dsimp only at c0 c1 c2 c3 c4 c5 c6 c7 c8
      have HBI := Lib.hid hbi.out
      have HCN := Lib.hid hn.out
      by_cases hi : i < im.pages.length
      case pos =>
        obtain ⟨hid1, hid2⟩ := lt_dec hi
        obtain ⟨g2, rfl⟩ : ∃ g2, gk = g2 + 1 := ⟨gk - 1, by have := hig.out; omega⟩
        have HIG := Lib.hid (show i + 1 + g2 = im.pages.length by have := hig.out; omega)
        have HI := Lib.hid hi
        have hi1 : wrap64 ((i : Int) + 1) = (i : Int) + 1 := up1 (by have := HN.out; omega)
        have hn1 : wrap64 ((n : Int) + 1) = (n : Int) + 1 := up1 (by have h1 := HN.out; have h2 := cnt_le (fun i => im.openB i k) i; rw [HCN.out] at h2; have h3 := HI.out; omega)
        clear hi hbi hn hig
        cases ho : im.openB i k with
        | false =>
          have HO1 := Lib.hid ho
          have HNX := Lib.hid (show cnt (fun i => im.openB i k) (i + 1) = n by rw [cnt, HCN.out, HO1.out]; rfl)
          clear ho
          go_wp2_with (go_at_call 73; refine (open_in HVL.out HFA.out HBI.out HI.out HO1.out).mono ?_; rintro e w5 ⟨rfl, hb5⟩; have HB5 := Lib.hid hb5; clear hb5)
          go_roundg g2
          case measure => omega
          case rel => exact ⟨i + 1, n, by simp; try exact hi1, rfl, ⟨HIG.out⟩, ⟨HNX.out⟩, ⟨HB5.out⟩⟩
        | true =>
          have HO1 := Lib.hid ho
          have HNX := Lib.hid (show cnt (fun i => im.openB i k) (i + 1) = n + 1 by rw [cnt, HCN.out, HO1.out]; rfl)
          clear ho
          go_wp2_with (go_at_call 73; refine (open_in HVL.out HFA.out HBI.out HI.out HO1.out).mono ?_; rintro e w5 ⟨rfl, hb5⟩; have HB5 := Lib.hid hb5; clear hb5)
          go_roundg g2
          case measure => omega
          case rel => exact ⟨i + 1, n + 1, by simp; try exact hi1, by simp; try exact hn1, ⟨HIG.out⟩, ⟨HNX.out⟩, ⟨HB5.out⟩⟩
      case neg =>
        obtain ⟨hid1, hid2⟩ := nlt_dec hi
        have hin : i = im.n := by have := hig.out; unfold Im.n; omega
        have HRF := Lib.hid (show (freeL im k).rf n (im.heads.getD k 0) 0 = (freeL im k).folB (im.heads.getD k 0) by rw [HFE.out, ← HCN.out, hin])
        obtain ⟨hd, hhd⟩ : ∃ hd, im.heads.getD k 0 = hd := ⟨_, rfl⟩
        have hu : U64 hd := by rw [← hhd, List.getD_eq_getElem?_getD, List.getElem?_eq_getElem HK.out]; exact HWF.out.heads _ (List.getElem_mem HK.out)
        obtain ⟨adh, he, -, hxh⟩ := (HVL.out wr hbi.out).im.heads (by have := HK.out; omega)
        have hkc := hxh k HK.out
        rw [hhd] at HRF hkc HBAD HGOOD
        have HU := Lib.hid hu
        have hkI : (k : Int) < (im.heads.length : Int) := by have := HK.out; omega
        dsimp only at he
        subst he
        obtain ⟨R, hR⟩ : ∃ R, (freeL im k).folB hd = R := ⟨_, rfl⟩
        rw [hR] at HRF HBAD HGOOD
        have hn1024 : n ≤ 1024 := by have := HN.out; have h2 := cnt_le (fun i => im.openB i k) i; rw [HCN.out] at h2; unfold Im.n at hin; omega
        have HN1024 := Lib.hid hn1024
        clear hi hig hn hin hu hxh hhd hR hn1024
        go_wp2
        clear c0 c1 c2 c3 c4 c5 c6 c7 c8 hkc hid1 hid2
        go_loopg [6, 7, 8, 9, 35, 36, 37, 38, 39, 40, 41, 42, 43, 44, 45, 46, 47, 48, 49, 50, 51, 52, 53, 54, 55, 56, 57, 58, 59, 60, 61, 62, 63, 64, 65, 66, 67, 68, 69, 70, 71, 72] n (fun g v6 v7 v8 _ _ _ _ _ _ _ _ _ _ _ _ _ _ _ _ _ _ _ _ _ _ _ _ _ _ _ _ _ _ _ _ _ _ _ _ _ _ _ wi => ∃ (t : Nat) (p b : Int), v6 = .int .u64 p ∧ v7 = .int .u64 b ∧ v8 = .int .i64 (t : Int) ∧ Aside0 (t + g = n) ∧ Aside0 (U64 p) ∧ Aside0 ((freeL im k).rf g p b = R) ∧ Aside0 (Below WA.heap.size WA wi))
        case atStart => exact ⟨0, hd, 0, rfl, rfl, rfl, ⟨by omega⟩, ⟨HU.out⟩, ⟨HRF.out⟩, ⟨HBI.out⟩⟩
        case round =>
          obtain ⟨t, p, b2, rfl, rfl, rfl, htg, hpu, hrf, hbi⟩ := hrel
          obtain ⟨c0, c1, c2, c3, c4, c5, c6, c7, c8⟩ := (HVL.out wr hbi.out).cell
          dsimp only at c0 c1 c2 c3 c4 c5 c6 c7 c8
          have HBJ := Lib.hid hbi.out
          have HRFT := Lib.hid hrf.out
          by_cases ht : t < n
          case neg =>
            obtain ⟨ht1, ht2⟩ := nlt_dec ht
            have hR0 : (p == 0) = R := by have h := hrf.out; rw [show gk = 0 by have := htg.out; omega, Ln.rf] at h; exact h
            clear ht hbi hrf htg hpu
            by_cases hp0 : p = 0
            · have p0 : (p != 0) = false := by simpa using hp0
              have HX := Lib.hid (HGOOD.out (by rw [← hR0]; simpa using hp0))
              clear hR0 hp0
              go_wp2
              go_roundg g1
              case measure => omega
              case rel => exact ⟨k + 1, by simp; try exact hk1, ⟨HG.out⟩, ⟨HBJ.out⟩, ⟨HX.out⟩⟩
            · have p0 : (p != 0) = true := by simpa using hp0
              have HX := Lib.hid (HBAD.out (by rw [← hR0]; simpa using hp0))
              clear hR0 hp0
              go_wp2
              go_ret
              exact ⟨by rw [HX.out]; rfl, HBL.out _ HBJ.out⟩
          obtain ⟨ht1, ht2⟩ := lt_dec ht
          obtain ⟨g2, rfl⟩ : ∃ g2, gk = g2 + 1 := ⟨gk - 1, by have := htg.out; omega⟩
          have HTG := Lib.hid (show t + 1 + g2 = n by have := htg.out; omega)
          have ht3 : wrap64 ((t : Int) + 1) = (t : Int) + 1 := up1 (by have := HN1024.out; omega)
          clear ht hbi hrf htg
          have HIDX := Lib.hid (idx_doc HGEO.out k p)
          cases hnum : numS im p with
          | none =>
            rw [hnum] at HIDX
            have HX := Lib.hid (HBAD.out (HRFT.out.symm.trans (rf_none HIDX.out)))
            have HNUM := Lib.hid (show doc (numS im p) = -1 by rw [hnum]; rfl)
            clear hnum hpu
            by_cases hp0 : p = 0
            · have p0 : (p == 0) = true := by simpa using hp0
              have HP0 := Lib.hid hp0
              clear hp0
              go_wp2_with (go_at_call 74; refine (number_in HVL.out HFA.out HBJ.out p HN.out HTOP.out HNUM.out).mono ?_; rintro e w5 ⟨rfl, hb5⟩; have HB5 := Lib.hid hb5; obtain ⟨d0, d1, d2, d3, d4, d5, d6, d7, d8⟩ := (HVL.out w5 hb5).cell; dsimp only at d0 d1 d2 d3 d4 d5 d6 d7 d8; clear hb5)
              go_ret
              exact ⟨by rw [HX.out]; rfl, HBL.out _ HB5.out⟩
            · have p0 : (p == 0) = false := by simpa using hp0
              clear hp0
              go_wp2_with (go_at_call 74; refine (number_in HVL.out HFA.out HBJ.out p HN.out HTOP.out HNUM.out).mono ?_; rintro e w5 ⟨rfl, hb5⟩; have HB5 := Lib.hid hb5; obtain ⟨d0, d1, d2, d3, d4, d5, d6, d7, d8⟩ := (HVL.out w5 hb5).cell; dsimp only at d0 d1 d2 d3 d4 d5 d6 d7 d8; clear hb5)
              go_ret
              exact ⟨by rw [HX.out]; rfl, HBL.out _ HB5.out⟩
          | some i2 =>
            rw [hnum] at HIDX
            obtain ⟨m, rfl, hmn, hp⟩ := numS_spec hnum
            have HNUM := Lib.hid (show doc (numS im p) = (m : Int) by rw [hnum]; rfl)
            have hpn : ¬ p = 0 := by have := HGEO.out.base0; omega
            have p0 : (p == 0) = false := by simpa using hpn
            have HMN := Lib.hid (show m < im.pages.length from hmn)
            obtain ⟨o0, ho0⟩ : ∃ o0, o0 = 4096 * m := ⟨_, rfl⟩
            obtain ⟨o1, ho1⟩ : ∃ o1, o1 = o0 + 8 := ⟨_, rfl⟩
            obtain ⟨x1, x2, x3, x4, x5, x6, x7, x8⟩ := free_offs HGEO.out HMN.out ho0 ho1
            have HX1 := Lib.hid x1
            have HX2 := Lib.hid x2
            have m0 : decide ((m : Int) < 0) = false := decide_eq_false (by omega)
            have e1 : (freeL im k).pv m = wordM im.mem o1 := by show wordM im.mem (4096 * m + 8) = _; rw [ho1, ho0]
            have e2 : (freeL im k).nx m = wordM im.mem o0 := by show wordM im.mem (4096 * m) = _; rw [ho0]
            have HE1 := Lib.hid e1
            have HE2 := Lib.hid e2
            have hnn : (m : Int).toNat = m := Int.toNat_natCast m
            simp only [hnn] at HIDX
            clear hnum hmn hp hpn ho0 ho1 x1 x2 e1 e2 hpu hnn
            cases ho : im.openB m k with
            | false =>
              rw [ho] at HIDX
              have HX := Lib.hid (HBAD.out (HRFT.out.symm.trans (rf_none (by have := HIDX.out; simpa using this))))
              have HO1 := Lib.hid ho
              clear ho
              go_wp2_with (first | (go_at_call 74; refine (number_in HVL.out HFA.out HBJ.out p HN.out HTOP.out HNUM.out).mono ?_; rintro e w5 ⟨rfl, hb5⟩; have HB5 := Lib.hid hb5; obtain ⟨d0, d1, d2, d3, d4, d5, d6, d7, d8⟩ := (HVL.out w5 hb5).cell; dsimp only at d0 d1 d2 d3 d4 d5 d6 d7 d8; clear hb5) | (go_at_call 73; refine (open_in HVL.out HFA.out HB5.out HMN.out HO1.out).mono ?_; rintro e w6 ⟨rfl, hb6⟩; have HB6 := Lib.hid hb6; clear d0 d1 d2 d3 d4 d5 d6 d7 d8; obtain ⟨d0, d1, d2, d3, d4, d5, d6, d7, d8⟩ := (HVL.out w6 hb6).cell; dsimp only at d0 d1 d2 d3 d4 d5 d6 d7 d8; clear hb6))
              go_ret
              exact ⟨by rw [HX.out]; rfl, HBL.out _ HB6.out⟩
            | true =>
              rw [ho] at HIDX
              have HO1 := Lib.hid ho
              have HIX := Lib.hid (show (freeL im k).idx p = some m by have := HIDX.out; simpa using this)
              obtain ⟨y1, hy1⟩ : ∃ y, wordM im.mem o1 = y := ⟨_, rfl⟩
              obtain ⟨y0, hy0⟩ : ∃ y, wordM im.mem o0 = y := ⟨_, rfl⟩
              have HY1 := Lib.hid hy1
              have HY0 := Lib.hid hy0
              have HYU := Lib.hid (show U64 y0 by rw [← hy0]; exact wordM_bd HWF.out.mem o0)
              have TK1 : True := trivial
              clear ho hy1 hy0
              by_cases hb : y1 = b2
              · have b0 : (y1 != b2) = false := by simpa using hb
                have HX := Lib.hid (show (freeL im k).rf g2 y0 p = R by
                  rw [← HRFT.out, rf_next HIX.out (by rw [HE1.out, HY1.out]; exact hb), HE2.out, HY0.out])
                clear hb
                go_wp2_with (first | (go_at_call 74; refine (number_in HVL.out HFA.out HBJ.out p HN.out HTOP.out HNUM.out).mono ?_; rintro e w5 ⟨rfl, hb5⟩; have HB5 := Lib.hid hb5; obtain ⟨d0, d1, d2, d3, d4, d5, d6, d7, d8⟩ := (HVL.out w5 hb5).cell; dsimp only at d0 d1 d2 d3 d4 d5 d6 d7 d8; clear hb5) | (go_at_call 73; refine (open_in HVL.out HFA.out HB5.out HMN.out HO1.out).mono ?_; rintro e w6 ⟨rfl, hb6⟩; have HB6 := Lib.hid hb6; clear d0 d1 d2 d3 d4 d5 d6 d7 d8; obtain ⟨d0, d1, d2, d3, d4, d5, d6, d7, d8⟩ := (HVL.out w6 hb6).cell; dsimp only at d0 d1 d2 d3 d4 d5 d6 d7 d8; clear hb6) | (go_at_call 75; clear TK1; refine (word_in HVL.out HFA.out HB6.out HX2.out HY1.out).mono ?_; rintro e w7 ⟨rfl, hb7⟩; have HB7 := Lib.hid hb7; clear d0 d1 d2 d3 d4 d5 d6 d7 d8; obtain ⟨d0, d1, d2, d3, d4, d5, d6, d7, d8⟩ := (HVL.out w7 hb7).cell; dsimp only at d0 d1 d2 d3 d4 d5 d6 d7 d8; clear hb7) | (go_at_call 75; refine (word_in HVL.out HFA.out HB7.out HX1.out HY0.out).mono ?_; rintro e w8 ⟨rfl, hb8⟩; have HB8 := Lib.hid hb8; clear hb8))
                go_roundg g2
                case measure => omega
                case rel => exact ⟨t + 1, y0, p, rfl, rfl, by simp; try exact ht3, ⟨HTG.out⟩, ⟨HYU.out⟩, ⟨HX.out⟩, ⟨HB8.out⟩⟩
              · have b0 : (y1 != b2) = true := by simpa using hb
                have HX := Lib.hid (HBAD.out (HRFT.out.symm.trans (rf_bad HIX.out (by rw [HE1.out, HY1.out]; exact hb))))
                clear hb
                go_wp2_with (first | (go_at_call 74; refine (number_in HVL.out HFA.out HBJ.out p HN.out HTOP.out HNUM.out).mono ?_; rintro e w5 ⟨rfl, hb5⟩; have HB5 := Lib.hid hb5; obtain ⟨d0, d1, d2, d3, d4, d5, d6, d7, d8⟩ := (HVL.out w5 hb5).cell; dsimp only at d0 d1 d2 d3 d4 d5 d6 d7 d8; clear hb5) | (go_at_call 73; refine (open_in HVL.out HFA.out HB5.out HMN.out HO1.out).mono ?_; rintro e w6 ⟨rfl, hb6⟩; have HB6 := Lib.hid hb6; clear d0 d1 d2 d3 d4 d5 d6 d7 d8; obtain ⟨d0, d1, d2, d3, d4, d5, d6, d7, d8⟩ := (HVL.out w6 hb6).cell; dsimp only at d0 d1 d2 d3 d4 d5 d6 d7 d8; clear hb6) | (go_at_call 75; clear TK1; refine (word_in HVL.out HFA.out HB6.out HX2.out HY1.out).mono ?_; rintro e w7 ⟨rfl, hb7⟩; have HB7 := Lib.hid hb7; clear d0 d1 d2 d3 d4 d5 d6 d7 d8; obtain ⟨d0, d1, d2, d3, d4, d5, d6, d7, d8⟩ := (HVL.out w7 hb7).cell; dsimp only at d0 d1 d2 d3 d4 d5 d6 d7 d8; clear hb7) | (go_at_call 75; refine (word_in HVL.out HFA.out HB7.out HX1.out HY0.out).mono ?_; rintro e w8 ⟨rfl, hb8⟩; have HB8 := Lib.hid hb8; clear hb8))
                go_ret
                exact ⟨by rw [HX.out]; rfl, HBL.out _ HB7.out⟩
end
end Go.Proofs.Ytkgedpcipaogjaa.WB
end
section
namespace Go.Proofs.Ytkgedpcipaogjaa.WB
open Go Go.RowKit Go.Proofs.YtkgedpcipaogjaaW.PrintWords Go.Proofs.YtkgedpcipaogjaaW.PrintLast Go.Proofs.YtkgedpcipaogjaaW.PrintMore
set_option linter.unusedVariables false
set_option linter.unusedSimpArgs false
def d10F (im : Im) (k : Nat) : Option Int := if (partL im k).folB (im.parts.getD k 0) = true then none else some k
theorem part_none {im : Im} {k : Nat} {p : Int} (h : p < 0 ∨ (im.pages.length : Int) ≤ p) : (partL im k).idx p = none := by
  simp only [partL, Im.n]
  exact if_neg (by omega)
theorem part_room {im : Im} {k m : Nat} (hm : m < im.pages.length) {r : Bool} (h : im.roomB m k = r) : (partL im k).idx (m : Int) = if r = true then some m else none := by
  simp only [partL, Im.n, Int.toNat_natCast, h]
  cases r with
  | false => rw [if_neg (fun hh => by cases hh.2.2), if_neg (by decide)]
  | true => rw [if_pos ⟨by omega, by omega, rfl⟩, if_pos rfl]
section
variable {F : Nat → Prop} {im : Im} {s : Sl} {w : World}
set_option maxRecDepth 100000 in
set_option maxHeartbeats 4000000 in
theorem partial_d (h : ImAt F w im s) (hF : ∀ b, F b → b < w.heap.size) {o r : Nat} (g : Geo im o r) (hR : ∀ i, i < im.pages.length → Rng im.order ((im.n : Int) - 1) (im.pg i)) : Calls Try.prog 49 #[.agg (im.cells s)] w (DocP w (.int .i64 (doc (R10 im)))) := by
  obtain ⟨A, a, B, b, C, c, D, d, E, e⟩ := s
  obtain ⟨WA, hWA⟩ : ∃ W, w.alloc (imO im ⟨A, a, B, b, C, c, D, d, E, e⟩) = W := ⟨_, rfl⟩
  obtain ⟨hsa, hbl, hvl⟩ := box_facts h hF hWA
  have HBL := Lib.hid hbl
  have HVL := Lib.hid hvl
  have HFA := Lib.hid (show ∀ b, F b → b < WA.heap.size from fun b hb => by have := hF b hb; omega)
  have HWF := Lib.hid h.wf
  have hl := len_i64 h.wf
  obtain ⟨c0, c1, c2, c3, c4, c5, c6, c7, c8⟩ := (hvl WA (Below.refl _ _)).cell
  dsimp only at c0 c1 c2 c3 c4 c5 c6 c7 c8
  unfold imO Im.cells at hWA
  unfold Im.cells
  clear h hF hvl hbl
  have HN := Lib.hid (show im.pages.length ≤ 1024 from g.n1024)
  have HH := Lib.hid g.parts
  have HRG := Lib.hid (show ∀ i, i < im.pages.length → 0 ≤ (im.pg i).cl ∧ (im.pg i).cl ≤ 7 from fun i hi => (hR i hi).cl)
  obtain ⟨RR, hRR⟩ : ∃ R, R10 im = R := ⟨_, rfl⟩
  have HRR := Lib.hid (show scan (d10F im) 8 0 = RR by rw [← hRR, ← g.parts]; rfl)
  rw [hRR]
  clear hRR g hR
  go_enter Try.func49, Try.ntmps49
  go_wp2
  clear hWA c0 c1 c2 c3 c4 c5 c6 c7 c8
  go_loopg [3] 8 (fun g v wr => ∃ k : Nat, v = .int .i64 (k : Int) ∧ Aside0 (k + g = 8) ∧ Aside0 (Below WA.heap.size WA wr) ∧ Aside0 (scan (d10F im) g k = RR))
  case atStart => exact ⟨0, rfl, ⟨by omega⟩, ⟨Below.refl _ _⟩, ⟨HRR.out⟩⟩
  case round =>
    obtain ⟨k, rfl, hkg, hbe, hsc⟩ := hrel
    by_cases hk : k < 8
    case neg =>
      have hkd : decide ((k : Int) < 8) = false := decide_eq_false (by omega)
      have hkd' : decide (k < 8) = false := decide_eq_false hk
      have HX := Lib.hid (show RR = none by have h := hsc.out; rw [show gk = 0 by have := hkg.out; omega, scan] at h; exact h.symm)
      clear hk
      go_wp2
      go_ret
      exact ⟨by rw [HX.out]; rfl, HBL.out _ hbe.out⟩
    have hkd : decide ((k : Int) < 8) = true := decide_eq_true (by omega)
    have hkd' : decide (k < 8) = true := decide_eq_true hk
    obtain ⟨g1, rfl⟩ : ∃ g1, gk = g1 + 1 := ⟨gk - 1, by have := hkg.out; omega⟩
    have HK := Lib.hid (show k < im.parts.length by have := HH.out; omega)
    have HG := Lib.hid (show k + 1 + g1 = 8 by have := hkg.out; omega)
    have HBAD := Lib.hid (show (partL im k).folB (im.parts.getD k 0) = false → RR = some (k : Int) from fun h => hsc.out.symm.trans (scan_bad (if_neg (by rw [h]; decide))))
    have HGOOD := Lib.hid (show (partL im k).folB (im.parts.getD k 0) = true → scan (d10F im) g1 (k + 1) = RR from fun h => (scan_ok (if_pos h)).symm.trans hsc.out)
    have HFE := Lib.hid (part_eq im k (im.parts.getD k 0))
    have HBE := Lib.hid hbe.out
    have hk1 : wrap64 ((k : Int) + 1) = (k : Int) + 1 := by unfold wrap64; omega
    clear hk hbe hsc hkg
    go_wp2
    go_loopg [4, 5, 13, 14, 15, 16, 17, 18, 19, 20, 21, 22, 23, 24, 25] im.pages.length (fun g u v _ _ _ _ _ _ _ _ _ _ _ _ _ wi => ∃ i n : Nat, v = .int .i64 (i : Int) ∧ u = .int .i64 (n : Int) ∧ Aside0 (i + g = im.pages.length) ∧ Aside0 (cnt (fun i => im.roomB i k) i = n) ∧ Aside0 (Below WA.heap.size WA wi))
    case atStart => exact ⟨0, 0, rfl, rfl, ⟨by omega⟩, ⟨rfl⟩, ⟨HBE.out⟩⟩
    case round =>
      obtain ⟨i, n, rfl, rfl, hig, hn, hbi⟩ := hrel
      obtain ⟨c0, c1, c2, c3, c4, c5, c6, c7, c8⟩ := (HVL.out wr hbi.out).cell
      dsimp only at c0 c1 c2 c3 c4 c5 c6 c7 c8
      have HBI := Lib.hid hbi.out
      have HCN := Lib.hid hn.out
      by_cases hi : i < im.pages.length
      case pos =>
        obtain ⟨hid1, hid2⟩ := lt_dec hi
        obtain ⟨g2, rfl⟩ : ∃ g2, gk = g2 + 1 := ⟨gk - 1, by have := hig.out; omega⟩
        have HIG := Lib.hid (show i + 1 + g2 = im.pages.length by have := hig.out; omega)
        have HI := Lib.hid hi
        have hi1 : wrap64 ((i : Int) + 1) = (i : Int) + 1 := up1 (by have := HN.out; omega)
        have hn1 : wrap64 ((n : Int) + 1) = (n : Int) + 1 := up1 (by have h1 := HN.out; have h2 := cnt_le (fun i => im.roomB i k) i; rw [HCN.out] at h2; have h3 := HI.out; omega)
        clear hi hbi hn hig
        cases ho : im.roomB i k with
        | false =>
          have HO1 := Lib.hid ho
          have HNX := Lib.hid (show cnt (fun i => im.roomB i k) (i + 1) = n by rw [cnt, HCN.out, HO1.out]; rfl)
          clear ho
          go_wp2_with (go_at_call 76; refine (room_in HVL.out HFA.out HBI.out HI.out (HRG.out i HI.out) HO1.out).mono ?_; rintro e w5 ⟨rfl, hb5⟩; have HB5 := Lib.hid hb5; clear hb5)
          go_roundg g2
          case measure => omega
          case rel => exact ⟨i + 1, n, by simp; try exact hi1, rfl, ⟨HIG.out⟩, ⟨HNX.out⟩, ⟨HB5.out⟩⟩
        | true =>
          have HO1 := Lib.hid ho
          have HNX := Lib.hid (show cnt (fun i => im.roomB i k) (i + 1) = n + 1 by rw [cnt, HCN.out, HO1.out]; rfl)
          clear ho
          go_wp2_with (go_at_call 76; refine (room_in HVL.out HFA.out HBI.out HI.out (HRG.out i HI.out) HO1.out).mono ?_; rintro e w5 ⟨rfl, hb5⟩; have HB5 := Lib.hid hb5; clear hb5)
          go_roundg g2
          case measure => omega
          case rel => exact ⟨i + 1, n + 1, by simp; try exact hi1, by simp; try exact hn1, ⟨HIG.out⟩, ⟨HNX.out⟩, ⟨HB5.out⟩⟩
      case neg =>
        obtain ⟨hid1, hid2⟩ := nlt_dec hi
        have hin : i = im.n := by have := hig.out; unfold Im.n; omega
        have HRF := Lib.hid (show (partL im k).rf n (im.parts.getD k 0) (-1) = (partL im k).folB (im.parts.getD k 0) by rw [HFE.out, ← HCN.out, hin])
        obtain ⟨hd, hhd⟩ : ∃ hd, im.parts.getD k 0 = hd := ⟨_, rfl⟩
        obtain ⟨adh, he, -, hxh⟩ := (HVL.out wr hbi.out).im.parts (by have := HK.out; omega)
        have hkc := hxh k HK.out
        rw [hhd] at HRF hkc HBAD HGOOD
        have hkI : (k : Int) < (im.parts.length : Int) := by have := HK.out; omega
        dsimp only at he
        subst he
        obtain ⟨R, hR⟩ : ∃ R, (partL im k).folB hd = R := ⟨_, rfl⟩
        rw [hR] at HRF HBAD HGOOD
        have hn1024 : n ≤ 1024 := by have := HN.out; have h2 := cnt_le (fun i => im.roomB i k) i; rw [HCN.out] at h2; unfold Im.n at hin; omega
        have HN1024 := Lib.hid hn1024
        clear hi hig hn hin hxh hhd hR hn1024
        go_wp2
        clear c0 c1 c2 c3 c4 c5 c6 c7 c8 hkc hid1 hid2
        go_loopg [6, 7, 8, 31, 32, 33, 34, 35, 36, 37, 38, 39, 40, 41, 42, 43, 44, 45, 46, 47, 48, 49, 50, 51, 52, 53, 54, 55, 56, 57, 58, 59, 60, 61, 62, 63, 64, 65, 66, 67, 68, 69] n (fun g v6 v7 v8 _ _ _ _ _ _ _ _ _ _ _ _ _ _ _ _ _ _ _ _ _ _ _ _ _ _ _ _ _ _ _ _ _ _ _ _ _ _ _ wi => ∃ (t : Nat) (p b : Int), v6 = .int .i64 p ∧ v7 = .int .i64 b ∧ v8 = .int .i64 (t : Int) ∧ Aside0 (t + g = n) ∧ Aside0 ((partL im k).rf g p b = R) ∧ Aside0 (Below WA.heap.size WA wi))
        case atStart => exact ⟨0, hd, -1, rfl, rfl, rfl, ⟨by omega⟩, ⟨HRF.out⟩, ⟨HBI.out⟩⟩
        case round =>
          obtain ⟨t, p, b2, rfl, rfl, rfl, htg, hrf, hbi⟩ := hrel
          obtain ⟨c0, c1, c2, c3, c4, c5, c6, c7, c8⟩ := (HVL.out wr hbi.out).cell
          dsimp only at c0 c1 c2 c3 c4 c5 c6 c7 c8
          have HBJ := Lib.hid hbi.out
          have HRFT := Lib.hid hrf.out
          by_cases ht : t < n
          case neg =>
            obtain ⟨ht1, ht2⟩ := nlt_dec ht
            have hR0 : (p == -1) = R := by have h := hrf.out; rw [show gk = 0 by have := htg.out; omega, Ln.rf] at h; exact h
            clear ht hbi hrf htg
            by_cases hp0 : p = -1
            · have p0 : (p != -1) = false := by simpa using hp0
              have HX := Lib.hid (HGOOD.out (by rw [← hR0]; simpa using hp0))
              clear hR0 hp0
              go_wp2
              go_roundg g1
              case measure => omega
              case rel => exact ⟨k + 1, by simp; try exact hk1, ⟨HG.out⟩, ⟨HBJ.out⟩, ⟨HX.out⟩⟩
            · have p0 : (p != -1) = true := by simpa using hp0
              have HX := Lib.hid (HBAD.out (by rw [← hR0]; simpa using hp0))
              clear hR0 hp0
              go_wp2
              go_ret
              exact ⟨by rw [HX.out]; rfl, HBL.out _ HBJ.out⟩
          obtain ⟨ht1, ht2⟩ := lt_dec ht
          obtain ⟨g2, rfl⟩ : ∃ g2, gk = g2 + 1 := ⟨gk - 1, by have := htg.out; omega⟩
          have HTG := Lib.hid (show t + 1 + g2 = n by have := htg.out; omega)
          have ht3 : wrap64 ((t : Int) + 1) = (t : Int) + 1 := up1 (by have := HN1024.out; omega)
          clear ht hrf htg
          by_cases hp1 : p < 0
          case pos =>
            have p0 : decide (p < 0) = true := decide_eq_true hp1
            have HX := Lib.hid (HBAD.out (HRFT.out.symm.trans (rf_none (part_none (Or.inl hp1)))))
            clear hp1
            go_wp2
            go_ret
            exact ⟨by rw [HX.out]; rfl, HBL.out _ HBJ.out⟩
          obtain ⟨m, rfl⟩ : ∃ m : Nat, p = m := ⟨p.toNat, by omega⟩
          have p0 : decide ((m : Int) < 0) = false := decide_eq_false (by omega)
          by_cases hm : m < im.pages.length
          case neg =>
            have p1 : decide ((im.pages.length : Int) ≤ (m : Int)) = true := decide_eq_true (by omega)
            have p2 : decide ((m : Int) ≥ (im.pages.length : Int)) = true := decide_eq_true (by omega)
            have p3 : decide (im.pages.length ≤ m) = true := decide_eq_true (by omega)
            have HX := Lib.hid (HBAD.out (HRFT.out.symm.trans (rf_none (part_none (Or.inr (by omega))))))
            clear hm hp1
            go_wp2
            go_ret
            exact ⟨by rw [HX.out]; rfl, HBL.out _ HBJ.out⟩
          have p1 : decide ((im.pages.length : Int) ≤ (m : Int)) = false := decide_eq_false (by omega)
          have p2 : decide ((m : Int) ≥ (im.pages.length : Int)) = false := decide_eq_false (by omega)
          have p3 : decide (im.pages.length ≤ m) = false := decide_eq_false (by omega)
          have hmI : (m : Int) < (im.pages.length : Int) := by omega
          have HM := Lib.hid hm
          obtain ⟨adp, hep, -⟩ := (HVL.out wr hbi.out).page m hm
          dsimp only at hep
          subst hep
          clear hm hp1 hbi
          cases ho : im.roomB m k with
          | false =>
            have HX := Lib.hid (HBAD.out (HRFT.out.symm.trans (rf_none (part_room HM.out ho))))
            have HO1 := Lib.hid ho
            clear ho
            go_wp2_with (go_at_call 76; refine (room_in HVL.out HFA.out HBJ.out HM.out (HRG.out m HM.out) HO1.out).mono ?_; rintro e w5 ⟨rfl, hb5⟩; have HB5 := Lib.hid hb5; clear c0 c1 c2 c3 c4 c5 c6 c7 c8; obtain ⟨d0, d1, d2, d3, d4, d5, d6, d7, d8⟩ := (HVL.out w5 hb5).cell; dsimp only at d0 d1 d2 d3 d4 d5 d6 d7 d8; obtain ⟨adq, heq, -, q0, q1, q2, q3, q4, q5, q6, q7, q8, q9, q10⟩ := (HVL.out w5 hb5).page m HM.out; dsimp only at heq; injection heq with heq; subst heq; clear hb5)
            go_ret
            exact ⟨by rw [HX.out]; rfl, HBL.out _ HB5.out⟩
          | true =>
            have HIX := Lib.hid (show (partL im k).idx (m : Int) = some m from part_room HM.out ho)
            have HO1 := Lib.hid ho
            clear ho
            obtain ⟨y1, hy1⟩ : ∃ y, (im.pg m).pv = y := ⟨_, rfl⟩
            obtain ⟨y0, hy0⟩ : ∃ y, (im.pg m).nx = y := ⟨_, rfl⟩
            have HY1 := Lib.hid hy1
            have HY0 := Lib.hid hy0
            clear hy1 hy0
            by_cases hb : y1 = b2
            · have b0 : (y1 != b2) = false := by simpa using hb
              have HX := Lib.hid (show (partL im k).rf g2 y0 (m : Int) = R by
                rw [← HRFT.out, rf_next HIX.out (by show (im.pg m).pv = b2; rw [HY1.out]; exact hb)]
                show _ = (partL im k).rf g2 (im.pg m).nx (m : Int)
                rw [HY0.out])
              clear hb
              go_wp2_with (go_at_call 76; refine (room_in HVL.out HFA.out HBJ.out HM.out (HRG.out m HM.out) HO1.out).mono ?_; rintro e w5 ⟨rfl, hb5⟩; have HB5 := Lib.hid hb5; clear c0 c1 c2 c3 c4 c5 c6 c7 c8; obtain ⟨d0, d1, d2, d3, d4, d5, d6, d7, d8⟩ := (HVL.out w5 hb5).cell; dsimp only at d0 d1 d2 d3 d4 d5 d6 d7 d8; obtain ⟨adq, heq, -, q0, q1, q2, q3, q4, q5, q6, q7, q8, q9, q10⟩ := (HVL.out w5 hb5).page m HM.out; dsimp only at heq; injection heq with heq; subst heq; rw [HY0.out] at q4; rw [HY1.out] at q5; clear hb5)
              go_roundg g2
              case measure => omega
              case rel => exact ⟨t + 1, y0, (m : Int), rfl, rfl, by simp; try exact ht3, ⟨HTG.out⟩, ⟨HX.out⟩, ⟨HB5.out⟩⟩
            · have b0 : (y1 != b2) = true := by simpa using hb
              have HX := Lib.hid (HBAD.out (HRFT.out.symm.trans (rf_bad HIX.out (by show ¬ (im.pg m).pv = b2; rw [HY1.out]; exact hb))))
              clear hb
              go_wp2_with (go_at_call 76; refine (room_in HVL.out HFA.out HBJ.out HM.out (HRG.out m HM.out) HO1.out).mono ?_; rintro e w5 ⟨rfl, hb5⟩; have HB5 := Lib.hid hb5; clear c0 c1 c2 c3 c4 c5 c6 c7 c8; obtain ⟨d0, d1, d2, d3, d4, d5, d6, d7, d8⟩ := (HVL.out w5 hb5).cell; dsimp only at d0 d1 d2 d3 d4 d5 d6 d7 d8; obtain ⟨adq, heq, -, q0, q1, q2, q3, q4, q5, q6, q7, q8, q9, q10⟩ := (HVL.out w5 hb5).page m HM.out; dsimp only at heq; injection heq with heq; subst heq; rw [HY0.out] at q4; rw [HY1.out] at q5; clear hb5)
              go_ret
              exact ⟨by rw [HX.out]; rfl, HBL.out _ HB5.out⟩
end
end Go.Proofs.Ytkgedpcipaogjaa.WB
end
section
namespace Go.Proofs.Ytkgedpcipaogjaa.WB
open Go Go.RowKit Go.Proofs.YtkgedpcipaogjaaW.PrintWords Go.Proofs.YtkgedpcipaogjaaW.PrintLast Go.Proofs.YtkgedpcipaogjaaW.PrintMore
set_option linter.unusedVariables false
set_option linter.unusedSimpArgs false
theorem qg_same {P : Program} {f : FuncId} {args : Array Value} {W w : World} {v : Value} (hw : Gr W w) (h : Calls P f args w fun e w' => e = .returned v ∧ w' = w) : Calls P f args w fun e w' => e = .returned v ∧ Gr W w' :=
  h.mono fun _ _ ⟨he, hb⟩ => ⟨he, hb ▸ hw⟩
theorem open_in2 {F : Nat → Prop} {g : Nat} {im : Im} {s : Sl} {WA wx : World} (hv : ∀ wr, Below WA.heap.size WA wr → VI F g im s wr) (hF : ∀ b, F b → b < WA.heap.size) (hx : Below WA.heap.size WA wx) {i : Nat} (hi : i < im.pages.length) {k : Int} {r : Bool} (hr : im.openB i k = r) :
    Calls Try.prog 73 #[.agg (im.cells s), .int .i64 (i : Int), .int .i64 k] wx fun e w' => e = .returned (.bool r) ∧ Below wx.heap.size wx w' :=
  hr ▸ open_d (hv wx hx).im (fun b hb => Nat.lt_of_lt_of_le (hF b hb) hx.size) i hi k
theorem pair_nums {im : Im} {o r : Nat} (g : Geo im o r) {k y x np : Nat} (hk : k < o) (hy : 2 ^ (k + 1) = y) (hx : 2 ^ k = x) (hnp : im.np k = np) :
    Int.tdiv (im.pages.length : Int) (y : Int) = (np : Int) ∧ wrap64 (np : Int) = (np : Int) ∧ ¬ y = 0 ∧ wrap64 ((k : Int) + 1) = (k : Int) + 1 ∧ np ≤ 1024 ∧ y = 2 * x ∧ x ≤ 256 ∧ (im.row k).length ≤ 17 ∧ k + 1 ≤ 61 ∧ k ≤ 61 ∧ im.pages.length ≤ 1024 ∧ (im.pages.length : Int) / (y : Int) = (np : Int) := by
  have h8 := g.o8
  have hn := g.n1024
  have hrow := g.rows k hk
  have hy0 : 0 < y := by rw [← hy]; exact Nat.pow_pos (by decide)
  have hd : im.pages.length / y = np := by rw [← hnp, ← hy]; rfl
  have hle : np ≤ im.pages.length := by rw [← hd]; exact Nat.div_le_self _ _
  have hyx : y = 2 * x := by rw [← hy, ← hx, Nat.pow_succ]; omega
  have hx8 : x ≤ 2 ^ 8 := by rw [← hx]; exact Nat.pow_le_pow_right (by decide) (by omega)
  have hdI : (im.pages.length : Int) / (y : Int) = (np : Int) := by rw [← hd]; rfl
  rw [hnp] at hrow
  unfold Im.n at hn
  refine ⟨by rw [Int.tdiv_eq_ediv_of_nonneg (by omega)]; exact hdI, ?_, by omega, ?_, by omega, hyx, by omega, by rw [hrow]; omega, by omega, by omega, hn, hdI⟩
  · clear hdI; unfold wrap64; omega
  · clear hdI; unfold wrap64; omega
theorem pair_idx {im : Im} {o r : Nat} (g : Geo im o r) {k y x np i p q : Nat} (hk : k < o) (hy : 2 ^ (k + 1) = y) (hx : 2 ^ k = x) (hnp : im.np k = np) (hi : i < np) (hp : p = i * y) (hq : q = p + x) :
    p < im.pages.length ∧ q < im.pages.length ∧ (i : Int) * (y : Int) = (p : Int) ∧ wrap64 (p : Int) = (p : Int) ∧ wrap64 ((p : Int) + (x : Int)) = (q : Int) := by
  have h1 := g.np hk (i := i) (by omega)
  obtain ⟨-, -, -, -, -, n6, n7, -, -, -, n11, -⟩ := pair_nums g hk hy hx hnp
  rw [hy, ← hp] at h1
  unfold Im.n at h1
  have hx0 : 0 < x := by rw [← hx]; exact Nat.pow_pos (by decide)
  have e : (i : Int) * (y : Int) = (p : Int) := by rw [hp]; simp
  refine ⟨by omega, by omega, e, ?_, ?_⟩
  · clear e hp; unfold wrap64; omega
  · clear e hp; unfold wrap64; omega
theorem bit_step {x : Int} (hx : U64 x) (j : Nat) : Int.tdiv (x / ((2 ^ j : Nat) : Int)) 2 = x / ((2 ^ (j + 1) : Nat) : Int) ∧ IntKind.u64.wrap (x / ((2 ^ (j + 1) : Nat) : Int)) = x / ((2 ^ (j + 1) : Nat) : Int) := by
  have h0 : ∀ j : Nat, 0 ≤ x / ((2 ^ j : Nat) : Int) := fun j => Int.ediv_nonneg hx.1 (Int.natCast_nonneg _)
  constructor
  · rw [Int.tdiv_eq_ediv_of_nonneg (h0 j), Nat.pow_succ, Int.natCast_mul, Int.ediv_ediv_of_nonneg (Int.natCast_nonneg _)]
    rfl
  · exact wrap_u64_in (h0 _) (Int.lt_of_le_of_lt (Int.ediv_le_self _ hx.1) hx.2)
theorem bit_last {l : List Int} {i : Nat} {x y : Int} (hx : l.getD (i / 64) 0 = x) (hxu : U64 x) (hy : x / ((2 ^ (i % 64) : Nat) : Int) = y) : (y % 2 == 1) = bitL l i ∧ Int.tmod y 2 = y % 2 ∧ IntKind.u64.wrap (y % 2) = y % 2 ∧ 0 ≤ y := by
  have h0 : 0 ≤ y := by rw [← hy]; exact Int.ediv_nonneg hxu.1 (Int.natCast_nonneg _)
  refine ⟨?_, Int.tmod_eq_emod_of_nonneg h0, wrap_u64_in (by omega) (by omega), h0⟩
  unfold bitL
  rw [hx, ← hy]
  have : ((2 ^ (i % 64) : Nat) : Int) = 2 ^ (i % 64) := by simp
  rw [this]
theorem pair_i {i len : Nat} (hi : i < 64 * len) (hl : len ≤ 17) {q r : Nat} (hq : i / 64 = q) (hr : i % 64 = r) : Int.tdiv (i : Int) 64 = (q : Int) ∧ Int.tmod (i : Int) 64 = (r : Int) ∧ q < len ∧ (q : Int) < (len : Int) ∧ wrap64 (q : Int) = (q : Int) ∧ wrap64 (r : Int) = (r : Int) ∧ wrap64 ((i : Int) + 1) = (i : Int) + 1 ∧ r < 64 ∧ (i : Int) / 64 = (q : Int) ∧ (i : Int) % 64 = (r : Int) := by
  have h1 : (i : Int) / 64 = (q : Int) := by omega
  have h2 : (i : Int) % 64 = (r : Int) := by omega
  refine ⟨by rw [Int.tdiv_eq_ediv_of_nonneg (by omega)]; exact h1, by rw [Int.tmod_eq_emod_of_nonneg (by omega)]; exact h2, by omega, by omega, by unfold wrap64; omega, by unfold wrap64; omega, by unfold wrap64; omega, by omega, h1, h2⟩
theorem lp_pos {j g n : Nat} (h : j + g = n) (hj : j < n) : ∃ g1, g = g1 + 1 := ⟨g - 1, by omega⟩
theorem lp_step {j g n : Nat} (h : j + (g + 1) = n) : j + 1 + g = n := by omega
theorem lp_le {j n : Nat} (h : j < n) (hn : n < 64) : j ≤ 140737488355328 := by omega
theorem lp_end {j g n : Nat} (h : j + g = n) (hj : ¬ j < n) : j = n := by omega
theorem len64 {len : Nat} (hl : len ≤ 17) {m : Nat} (hm : m = 64 * len) : wrap64 (64 * (len : Int)) = (m : Int) ∧ m ≤ 1088 := by
  refine ⟨by unfold wrap64; omega, by omega⟩
theorem np_ge {np i : Nat} (h : np ≤ i) : decide ((i : Int) ≥ (np : Int)) = true ∧ decide (np ≤ i) = true ∧ decide ((i : Int) < (np : Int)) = false ∧ decide (i < np) = false := ⟨decide_eq_true (by omega), decide_eq_true h, decide_eq_false (by omega), decide_eq_false (by omega)⟩
theorem np_lt {np i : Nat} (h : ¬ np ≤ i) : decide ((i : Int) ≥ (np : Int)) = false ∧ decide (np ≤ i) = false ∧ decide ((i : Int) < (np : Int)) = true ∧ decide (i < np) = true := ⟨decide_eq_false (by omega), decide_eq_false h, decide_eq_true (by omega), decide_eq_true (by omega)⟩
section
variable {F : Nat → Prop} {im : Im} {s : Sl} {w : World}
set_option maxRecDepth 100000 in
set_option maxHeartbeats 8000000 in
theorem paired_d (h : ImAt F w im s) (hF : ∀ b, F b → b < w.heap.size) {o r : Nat} (g : Geo im o r) : Calls Try.prog 46 #[.agg (im.cells s)] w (DocP w (.int .i64 (doc (R7 im)))) := by
  obtain ⟨A, a, B, b, C, c, D, d, E, e⟩ := s
  obtain ⟨WA, hWA⟩ : ∃ W, w.alloc (imO im ⟨A, a, B, b, C, c, D, d, E, e⟩) = W := ⟨_, rfl⟩
  obtain ⟨hsa, hbl, hvl⟩ := box_facts h hF hWA
  have HBL := Lib.hid hbl
  have HVL := Lib.hid hvl
  have HFA := Lib.hid (show ∀ b, F b → b < WA.heap.size from fun b hb => by have := hF b hb; omega)
  have HWF := Lib.hid h.wf
  have hl := len_i64 h.wf
  obtain ⟨c0, c1, c2, c3, c4, c5, c6, c7, c8⟩ := (hvl WA (Below.refl _ _)).cell
  dsimp only at c0 c1 c2 c3 c4 c5 c6 c7 c8
  unfold imO Im.cells at hWA
  unfold Im.cells
  clear h hF hvl hbl
  have HGEO := Lib.hid g
  have HO := Lib.hid g.order
  have HO8 := Lib.hid g.o8
  have HPL := Lib.hid g.pairs
  obtain ⟨RR, hRR⟩ : ∃ R, R7 im = R := ⟨_, rfl⟩
  have HRR := Lib.hid (show scan (pairR im) o 0 = RR by rw [← hRR, ← g.pairs]; rfl)
  rw [hRR]
  clear hRR g
  go_enter Try.func46, Try.ntmps46
  go_wp2
  clear hWA c0 c1 c2 c3 c4 c5 c6 c7 c8
  go_loopg [3] o (fun g v wr => ∃ k : Nat, v = .int .i64 (k : Int) ∧ Aside0 (k + g = o) ∧ Aside0 (Below WA.heap.size WA wr) ∧ Aside0 (scan (pairR im) g k = RR))
  case atStart => exact ⟨0, rfl, ⟨by omega⟩, ⟨Below.refl _ _⟩, ⟨HRR.out⟩⟩
  case round =>
    obtain ⟨k, rfl, hkg, hbe, hsc⟩ := hrel
    obtain ⟨-, -, c2, -, -, -, -, -, -⟩ := (HVL.out wr hbe.out).cell
    by_cases hk : k < o
    case neg =>
      have hkd : decide ((k : Int) < im.order) = false := decide_eq_false (by have := HO.out; omega)
      have HX := Lib.hid (show RR = none by have h := hsc.out; rw [show gk = 0 by have := hkg.out; omega, scan] at h; exact h.symm)
      clear hk
      go_wp2
      go_ret
      exact ⟨by rw [HX.out]; rfl, HBL.out _ hbe.out⟩
    have hkd : decide ((k : Int) < im.order) = true := decide_eq_true (by have := HO.out; omega)
    obtain ⟨g1, rfl⟩ : ∃ g1, gk = g1 + 1 := ⟨gk - 1, by have := hkg.out; omega⟩
    have HK := Lib.hid hk
    have hkp : k < im.pairs.length := by have := HPL.out; omega
    have HKP := Lib.hid hkp
    have HG := Lib.hid (show k + 1 + g1 = o by have := hkg.out; omega)
    have HBAD := Lib.hid (show ∀ pl, pairR im k = some pl → RR = some pl from fun pl h => hsc.out.symm.trans (scan_bad h))
    have HGOOD := Lib.hid (show pairR im k = none → scan (pairR im) g1 (k + 1) = RR from fun h => (scan_ok h).symm.trans hsc.out)
    have HPE := Lib.hid (pair_eq (HGEO.out.rows k hk))
    have HBE := Lib.hid hbe.out
    have hkI : (k : Int) < (im.pairs.length : Int) := by omega
    obtain ⟨adc, hec, -⟩ := (HVL.out wr hbe.out).im.pairs (by omega)
    dsimp only at hec
    subst hec
    obtain ⟨y, hy⟩ : ∃ y, 2 ^ (k + 1) = y := ⟨_, rfl⟩
    obtain ⟨x, hx⟩ : ∃ x, 2 ^ k = x := ⟨_, rfl⟩
    obtain ⟨np, hnp⟩ : ∃ np, im.np k = np := ⟨_, rfl⟩
    obtain ⟨n1, n2, n3, n4, n5, -, -, n8, n9, n10, n11, n12⟩ := pair_nums HGEO.out hk hy hx hnp
    have n4' : IntKind.i64.wrap ((k : Int) + 1) = (k : Int) + 1 := by rw [i64_w]; exact n4
    have n2' : IntKind.i64.wrap (np : Int) = (np : Int) := by rw [i64_w]; exact n2
    have HPW1 := Lib.hid (fun wx => (power_x hy n9 wx : Calls Try.prog 30 #[.int .i64 ((k : Int) + 1)] wx _))
    have HPW0 := Lib.hid (fun wx => power_x hx n10 wx)
    have HIDX := Lib.hid (fun (i p q : Nat) (h1 : i < np) (h2 : p = i * y) (h3 : q = p + x) => pair_idx HGEO.out hk hy hx hnp h1 h2 h3)
    obtain ⟨row, hrow⟩ : ∃ row, im.row k = row := ⟨_, rfl⟩
    have HROW := Lib.hid hrow
    have hrow2 : im.pairs.getD k [] = row := hrow
    have HROW2 := Lib.hid hrow2
    rw [hrow] at n8 HPE
    have HPF := Lib.hid (show ∀ i, docPair im k i = if np ≤ i then (if bitL row i = true then some (im.pages.length : Int) else none) else if bitL row i = (im.openB (i * y) k != im.openB (i * y + x) k) then none else some ((i * y : Nat) : Int) from fun i => by unfold docPair; rw [hnp, hrow, hy, hx]; rfl)
    have N8 := Lib.hid n8
    have N5 := Lib.hid n5
    have HRW := Lib.hid (show ∀ v ∈ row, U64 v from fun v hv => HWF.out.pairs row (by rw [← hrow2, List.getD_eq_getElem?_getD, List.getElem?_eq_getElem hkp]; exact List.getElem_mem hkp) v hv)
    obtain ⟨m, hm⟩ : ∃ m, m = 64 * row.length := ⟨_, rfl⟩
    obtain ⟨l1, l2⟩ := len64 n8 hm
    have HM := Lib.hid hm
    rw [← hm] at HPE
    have N4 := Lib.hid n4
    clear hk hbe hsc hkg hy hx hnp hrow hrow2 n5 n8 n9 n10 n12 hm hkp l2
    go_upto_region 4 with (fail)
    clear c2
    refine qg_region (by kernel_rfl) (by kernel_rfl) ?_
    iterate 1 (refine qg_want (by kernel_rfl) (fun K hK => ?_); go_simp; first | refine ⟨_, fun _ _ => rfl, hK _ ?_⟩ | refine hK _ ?_; clear hK K)
    iterate 1 (refine qg_want (by kernel_rfl) (fun K hK => ?_); go_simp; apply Exists.intro; refine ⟨fun wx hx => ?_, hK _ ?_⟩; ((obtain ⟨d0, d1, d2, d3, d4, d5, d6, d7, d8⟩ := (HVL.out wx (HBE.out.trans (hx.mono HBE.out.size))).cell; dsimp only at d0 d1 d2 d3 d4 d5 d6 d7 d8); go_simp; try rfl); clear hK K)
    iterate 3 (refine qg_want (by kernel_rfl) (fun K hK => ?_); go_simp; first | refine ⟨_, fun _ _ => rfl, hK _ ?_⟩ | refine hK _ ?_; clear hK K)
    (refine qg_want (by kernel_rfl) (fun K hK => ?_); go_simp; apply Exists.intro; refine ⟨fun wx hx => qg_same hx (HPW1.out wx), hK _ ?_⟩; clear hK K)
    iterate 2 (refine qg_want (by kernel_rfl) (fun K hK => ?_); go_simp; first | refine ⟨_, fun _ _ => rfl, hK _ ?_⟩ | refine hK _ ?_; clear hK K)
    refine qg_nil (fun w9 hw9 => ?_)
    have HB9 := Lib.hid (show Below WA.heap.size WA w9 from HBE.out.trans (hw9.mono HBE.out.size))
    clear hw9 n1 n2 n3 n2'
    go_wp2
    clear n11 hkI
    go_loopg [5, 6, 7, 8, 9, 10, 11, 26, 27, 28, 29, 30, 31, 32, 33, 34, 35, 36, 37, 38, 39, 40, 41, 42, 43, 44, 45, 46, 47, 48, 49, 50, 51, 52, 53, 54, 55, 56, 57, 58, 59, 60, 61, 62, 63, 64, 65, 66, 67, 68, 69, 70, 71, 72, 73, 74, 75, 76, 77, 78, 79, 80, 81, 82, 83, 84, 85, 86, 87, 88, 89, 90, 91, 92, 93, 94, 95, 96, 97, 98, 99] m (fun g v _ _ _ _ _ _ _ _ _ _ _ _ _ _ _ _ _ _ _ _ _ _ _ _ _ _ _ _ _ _ _ _ _ _ _ _ _ _ _ _ _ _ _ _ _ _ _ _ _ _ _ _ _ _ _ _ _ _ _ _ _ _ _ _ _ _ _ _ _ _ _ _ _ _ _ _ _ _ _ _ wi => ∃ i : Nat, v = .int .i64 (i : Int) ∧ Aside0 (i + g = m) ∧ Aside0 (scan (docPair im k) g i = pairR im k) ∧ Aside0 (Below WA.heap.size WA wi))
    case atStart => exact ⟨0, rfl, ⟨by omega⟩, ⟨HPE.out⟩, ⟨HB9.out⟩⟩
    case round =>
      obtain ⟨i, rfl, hig, hsc, hbi⟩ := hrel
      obtain ⟨c0, c1, c2, c3, c4, c5, c6, c7, c8⟩ := (HVL.out wr hbi.out).cell
      dsimp only at c0 c1 c2 c3 c4 c5 c6 c7 c8
      obtain ⟨adq, heq, -, hrows⟩ := (HVL.out wr hbi.out).im.pairs (Nat.lt_of_le_of_lt (Nat.zero_le _) HKP.out)
      obtain ⟨B2, cc, hcc, hcell, hri⟩ := hrows k HKP.out
      dsimp only at heq
      injection heq with heq
      subst heq
      rw [HROW2.out] at hcc hcell hri
      have hkI2 : (k : Int) < (im.pairs.length : Int) := by have := HKP.out; omega
      have HBI := Lib.hid hbi.out
      have HSC := Lib.hid hsc.out
      clear hbi hsc hrows
      by_cases hi : i < m
      case neg =>
        obtain ⟨t1, t2⟩ := nlt_dec hi
        have HX := Lib.hid (HGOOD.out (by have h := HSC.out; rw [show gk = 0 by have := hig.out; omega, scan] at h; exact h.symm))
        clear hi hig hri
        go_wp2
        go_roundg g1
        case measure => omega
        case rel => exact ⟨k + 1, by simp; try exact N4.out, ⟨HG.out⟩, ⟨HBI.out⟩, ⟨HX.out⟩⟩
      obtain ⟨t1, t2⟩ := lt_dec hi
      obtain ⟨g2, rfl⟩ : ∃ g2, gk = g2 + 1 := ⟨gk - 1, by have := hig.out; omega⟩
      have HIG := Lib.hid (show i + 1 + g2 = m by have := hig.out; omega)
      obtain ⟨q, hq⟩ : ∃ q, i / 64 = q := ⟨_, rfl⟩
      obtain ⟨rr, hrr⟩ : ∃ r, i % 64 = r := ⟨_, rfl⟩
      obtain ⟨i1, i2, i3, i4, i5, i6, hi1, i8, i9, i10⟩ := pair_i (i := i) (len := row.length) (by rw [← HM.out]; exact hi) N8.out hq hrr
      obtain ⟨adr, her, -, hrx⟩ := hri (Nat.lt_of_le_of_lt (Nat.zero_le _) i3)
      subst her
      obtain ⟨v0, hv0⟩ : ∃ v, row.getD q 0 = v := ⟨_, rfl⟩
      have hvc := hrx q i3
      rw [hv0] at hvc
      have HVU := Lib.hid (show U64 v0 by rw [← hv0, List.getD_eq_getElem?_getD, List.getElem?_eq_getElem i3]; exact HRW.out _ (List.getElem_mem i3))
      obtain ⟨yb, hyb⟩ : ∃ y, v0 / ((2 ^ rr : Nat) : Int) = y := ⟨_, rfl⟩
      obtain ⟨bl1, bl2, bl3, bl4⟩ := bit_last (l := row) (i := i) (x := v0) (y := yb) (by rw [hq]; exact hv0) HVU.out (by rw [hrr]; exact hyb)
      have HYB := Lib.hid hyb
      obtain ⟨u, hu⟩ : ∃ u, yb % 2 = u := ⟨_, rfl⟩
      rw [hu] at bl1 bl2 bl3
      have HBL1 := Lib.hid bl1
      have HPFI := Lib.hid (HPF.out i)
      have HBADI := Lib.hid (show ∀ pl, docPair im k i = some pl → RR = some pl from fun pl h => HBAD.out _ (HSC.out.symm.trans (scan_bad h)))
      have HGOODI := Lib.hid (show docPair im k i = none → scan (docPair im k) g2 (i + 1) = pairR im k from fun h => (scan_ok h).symm.trans HSC.out)
      have HI8 := Lib.hid i8
      have HI3 := Lib.hid i3
      clear hi hig hri hrx hq hrr hv0 hyb hu bl1 bl4 i3 i8
      go_wp2
      clear hcell hvc hcc t1 t2 l1
      go_loopg [6, 7, 46, 47, 48, 49, 50, 51, 52, 53] rr (fun g v6 v7 _ _ _ _ _ _ _ _ wi => ∃ (j : Nat) (z : Int), v6 = .int .u64 z ∧ v7 = .int .i64 (j : Int) ∧ Aside0 (z = v0 / ((2 ^ j : Nat) : Int)) ∧ Aside0 (j + g = rr) ∧ wi = wr)
      case atStart => exact ⟨0, v0, rfl, rfl, ⟨by simp⟩, ⟨Nat.zero_add _⟩, rfl⟩
      case round =>
        obtain ⟨j, z, rfl, rfl, hz, hjg, rfl⟩ := hrel
        by_cases hj : j < rr
        case pos =>
          obtain ⟨t1, t2⟩ := lt_dec hj
          obtain ⟨g3, rfl⟩ := lp_pos hjg.out hj
          have HJG := Lib.hid (lp_step hjg.out)
          have hj1 : wrap64 ((j : Int) + 1) = (j : Int) + 1 := up1 (lp_le hj HI8.out)
          have hbs := bit_step HVU.out j
          rw [← hz.out] at hbs
          obtain ⟨z2, hz2⟩ : ∃ z2, v0 / ((2 ^ (j + 1) : Nat) : Int) = z2 := ⟨_, rfl⟩
          rw [hz2] at hbs
          obtain ⟨b1, b2⟩ := hbs
          have HZ2 := Lib.hid hz2
          clear hj hz hz2 hjg
          go_wp2
          go_roundg g3
          case measure => first | exact Nat.lt_succ_self _ | omega
          case rel => exact ⟨j + 1, z2, rfl, by simp; try exact hj1, ⟨HZ2.out.symm⟩, ⟨HJG.out⟩, rfl⟩
        case neg =>
          obtain ⟨t1, t2⟩ := nlt_dec hj
          have hjr : j = rr := lp_end hjg.out hj
          have hzy : z = yb := by rw [hz.out, hjr]; exact HYB.out
          clear hjr
          subst hzy
          clear hj hz hjg
          have TK1 : True := trivial
          by_cases hni : np ≤ i
          case pos =>
            obtain ⟨s1, s2, s3, s4⟩ := np_ge hni
            by_cases hu1 : u = 1
            · have u1 : (u == 1) = true := by simpa using hu1
              have HX := Lib.hid (HBADI.out (im.pages.length : Int) (by rw [HPFI.out, if_pos hni, if_pos (by rw [← HBL1.out]; exact u1)]))
              clear hni hu1
              go_wp2
              go_ret
              exact ⟨by rw [HX.out]; rfl, HBL.out _ HBI.out⟩
            · have u1 : (u == 1) = false := by simpa using hu1
              have HX := Lib.hid (HGOODI.out (by rw [HPFI.out, if_pos hni, if_neg (by rw [← HBL1.out, u1]; decide)]))
              clear hni hu1
              go_wp2
              go_roundg g2
              case measure => omega
              case rel => exact ⟨i + 1, by simp; try exact hi1, ⟨HIG.out⟩, ⟨HX.out⟩, ⟨HBI.out⟩⟩
          case neg =>
            obtain ⟨s1, s2, s3, s4⟩ := np_lt hni
            obtain ⟨p, hp⟩ : ∃ p, p = i * y := ⟨_, rfl⟩
            obtain ⟨p2, hp2⟩ : ∃ q, q = p + x := ⟨_, rfl⟩
            obtain ⟨e1, e2, e3, e4, e5⟩ := HIDX.out i p p2 (Nat.lt_of_not_le hni) hp hp2
            have HE1 := Lib.hid e1
            have e4' : IntKind.i64.wrap (p : Int) = (p : Int) := by rw [i64_w]; exact e4
            have e5' : IntKind.i64.wrap ((p : Int) + (x : Int)) = (p2 : Int) := by rw [i64_w]; exact e5
            have HE2 := Lib.hid e2
            have hpf : docPair im k i = if bitL row i = (im.openB p k != im.openB p2 k) then none else some (p : Int) := by rw [HPFI.out, if_neg hni, ← hp, ← hp2]
            rw [← HBL1.out] at hpf
            obtain ⟨one, hone⟩ : ∃ b, (u == 1) = b := ⟨_, rfl⟩
            obtain ⟨oa, hoa⟩ : ∃ b, im.openB p k = b := ⟨_, rfl⟩
            obtain ⟨ob, hob⟩ : ∃ b, im.openB p2 k = b := ⟨_, rfl⟩
            rw [hone, hoa, hob] at hpf
            have HPFJ := Lib.hid hpf
            have HOA := Lib.hid hoa
            have HOB := Lib.hid hob
            clear hni hp hp2 e1 e2 hpf hoa hob
            go_upto_region 19 with (first | (go_at_call 30; refine (HPW1.out _).mono ?_; rintro e w4 ⟨rfl, rfl⟩) | (go_at_call 73; clear TK1; refine (open_in HVL.out HFA.out HBI.out HE1.out HOA.out).mono ?_; rintro e w5 ⟨rfl, hb5⟩; have HB5 := Lib.hid hb5; obtain ⟨d0, d1, d2, d3, d4, d5, d6, d7, d8⟩ := (HVL.out w5 hb5).cell; dsimp only at d0 d1 d2 d3 d4 d5 d6 d7 d8; clear hb5 c0 c1 c2 c3 c4 c5 c6 c7 c8))
            refine qg_region (by kernel_rfl) (by kernel_rfl) ?_
            iterate 1 (refine qg_want (by kernel_rfl) (fun K hK => ?_); go_simp; apply Exists.intro; refine ⟨fun wx hx => ?_, hK _ ?_⟩; ((obtain ⟨f0, f1, f2, f3, f4, f5, f6, f7, f8⟩ := (HVL.out wx (HB5.out.trans (hx.mono HB5.out.size))).cell; dsimp only at f0 f1 f2 f3 f4 f5 f6 f7 f8); go_simp; try rfl); clear hK K)
            iterate 2 (refine qg_want (by kernel_rfl) (fun K hK => ?_); go_simp; first | refine ⟨_, fun _ _ => rfl, hK _ ?_⟩ | refine hK _ ?_; clear hK K)
            (refine qg_want (by kernel_rfl) (fun K hK => ?_); go_simp; apply Exists.intro; refine ⟨fun wx hx => qg_same hx (HPW0.out wx), hK _ ?_⟩; clear hK K)
            iterate 2 (refine qg_want (by kernel_rfl) (fun K hK => ?_); go_simp; first | refine ⟨_, fun _ _ => rfl, hK _ ?_⟩ | refine hK _ ?_; clear hK K)
            (refine qg_want (by kernel_rfl) (fun K hK => ?_); go_simp; apply Exists.intro; refine ⟨fun wx hx => qg_calls hx (open_in2 HVL.out HFA.out (HB5.out.trans (hx.mono HB5.out.size)) HE2.out HOB.out), hK _ ?_⟩; clear hK K)
            iterate 1 (refine qg_want (by kernel_rfl) (fun K hK => ?_); go_simp; first | refine ⟨_, fun _ _ => rfl, hK _ ?_⟩ | refine hK _ ?_; clear hK K)
            refine qg_nil (fun w9 hw9 => ?_)
            have HBZ := Lib.hid (show Below WA.heap.size WA w9 from HB5.out.trans (hw9.mono HB5.out.size))
            clear hw9 d0 d1 d2 d3 d4 d5 d6 d7 d8
            cases one with
            | true =>
              cases oa with
              | true =>
                cases ob with
                | true =>
                  have HX := Lib.hid (HBADI.out (p : Int) (by rw [HPFJ.out]; rfl))
                  go_wp2
                  go_ret
                  exact ⟨by rw [HX.out]; rfl, HBL.out _ HBZ.out⟩
                | false =>
                  have HX := Lib.hid (HGOODI.out (by rw [HPFJ.out]; rfl))
                  go_wp2
                  go_roundg g2
                  case measure => omega
                  case rel => exact ⟨i + 1, by simp; try exact hi1, ⟨HIG.out⟩, ⟨HX.out⟩, ⟨HBZ.out⟩⟩
              | false =>
                cases ob with
                | true =>
                  have HX := Lib.hid (HGOODI.out (by rw [HPFJ.out]; rfl))
                  go_wp2
                  go_roundg g2
                  case measure => omega
                  case rel => exact ⟨i + 1, by simp; try exact hi1, ⟨HIG.out⟩, ⟨HX.out⟩, ⟨HBZ.out⟩⟩
                | false =>
                  have HX := Lib.hid (HBADI.out (p : Int) (by rw [HPFJ.out]; rfl))
                  go_wp2
                  go_ret
                  exact ⟨by rw [HX.out]; rfl, HBL.out _ HBZ.out⟩
            | false =>
              cases oa with
              | true =>
                cases ob with
                | true =>
                  have HX := Lib.hid (HGOODI.out (by rw [HPFJ.out]; rfl))
                  go_wp2
                  go_roundg g2
                  case measure => omega
                  case rel => exact ⟨i + 1, by simp; try exact hi1, ⟨HIG.out⟩, ⟨HX.out⟩, ⟨HBZ.out⟩⟩
                | false =>
                  have HX := Lib.hid (HBADI.out (p : Int) (by rw [HPFJ.out]; rfl))
                  go_wp2
                  go_ret
                  exact ⟨by rw [HX.out]; rfl, HBL.out _ HBZ.out⟩
              | false =>
                cases ob with
                | true =>
                  have HX := Lib.hid (HBADI.out (p : Int) (by rw [HPFJ.out]; rfl))
                  go_wp2
                  go_ret
                  exact ⟨by rw [HX.out]; rfl, HBL.out _ HBZ.out⟩
                | false =>
                  have HX := Lib.hid (HGOODI.out (by rw [HPFJ.out]; rfl))
                  go_wp2
                  go_roundg g2
                  case measure => omega
                  case rel => exact ⟨i + 1, by simp; try exact hi1, ⟨HIG.out⟩, ⟨HX.out⟩, ⟨HBZ.out⟩⟩
end
end Go.Proofs.Ytkgedpcipaogjaa.WB
end
section
namespace Go.Proofs.Ytkgedpcipaogjaa.WB
open Go Go.RowKit Go.Proofs.YtkgedpcipaogjaaW.PrintWords Go.Proofs.YtkgedpcipaogjaaW.PrintLast Go.Proofs.YtkgedpcipaogjaaW.PrintMore Go.Proofs.Ytkgedpcipaogjaa.PWalkChecks Go.Proofs.Ytkgedpcipaogjaa.Mem
set_option linter.unusedVariables false
set_option linter.unusedSimpArgs false
def listO (sp : Nat) (h : Int) : Obj := .cells #[.pointer (some ⟨sp, 0, none⟩), .int .u64 h] 162 (0, 0)
theorem linksNew_c (sp : Nat) (h : Int) (w : World) : Calls Try.prog 99 #[.pointer (some ⟨sp, 0, none⟩), .int .u64 h] w fun e w' => e = .returned (.pointer (some ⟨w.heap.size, 0, none⟩)) ∧ w' = w.alloc (listO sp h) := by
  unfold listO
  go_enter Try.func99, Try.ntmps99
  go_wp2
  go_ret
  exact ⟨rfl, rfl⟩
def buddyO (b l : Int) (o sp mp : Nat) (v : Value) : Obj := .cells #[.int .u64 b, .int .i64 l, .int .i64 (o : Int), .pointer (some ⟨sp, 0, none⟩), .pointer (some ⟨mp, 0, none⟩), v] 150 (0, 0)
structure BudL where
  bd : Nat
  lv : Value
  ls : List Nat
def BudL.blks (L : BudL) : List Nat := rowBlks L.bd L.lv L.ls
structure BudR (w : World) (L : BudL) (b l : Int) (o sp mp : Nat) (heads : List Int) (n : Nat) : Prop where
  at_ : w.heap[L.bd]? = some (buddyO b l o sp mp L.lv)
  own : w.ownsRow 0 151 1 L.lv L.ls.length (L.ls.map ptrV)
  len : L.ls.length = n
  list : ∀ i p, L.ls[i]? = some p → w.heap[p]? = some (listO sp (heads.getD i 0))
  nodup : L.blks.Nodup
theorem BudR.lt {w : World} {L : BudL} {b l : Int} {o sp mp n : Nat} {heads : List Int} (h : BudR w L b l o sp mp heads n) : ∀ k ∈ L.blks, k < w.heap.size := by
  intro k hk
  unfold BudL.blks rowBlks at hk
  rcases List.mem_cons.1 hk with rfl | hk
  · exact blk_lt h.at_
  rcases List.mem_append.1 hk with hk | hk
  · exact (own_lt h.own (by simpa using hk)).2
  · obtain ⟨i, hi⟩ := List.mem_iff_getElem?.1 hk
    exact blk_lt (h.list i k hi)
theorem BudR.keep {w w' : World} {L : BudL} {b l : Int} {o sp mp n : Nat} {heads : List Int} (h : BudR w L b l o sp mp heads n) (hk : ∀ k ∈ L.blks, w'.heap[k]? = w.heap[k]?) : BudR w' L b l o sp mp heads n :=
  ⟨(hk _ (by unfold BudL.blks rowBlks; simp)).trans h.at_, own_move h.own (fun k hx => hk _ (by unfold BudL.blks rowBlks; simp [hx])), h.len, fun i p hp => (hk p (by unfold BudL.blks rowBlks; simp [List.mem_of_getElem? hp])).trans (h.list i p hp), h.nodup⟩
theorem infoPL : (Try.prog.info? 151).map (fun i => (i.zero, i.size, i.bytes)) = some (some (.pointer none), 1, 8) := by kernel_rfl
theorem BudR.step {w wi w1 w4 : World} {L : BudL} {b l : Int} {o sp mp k g2 cap : Nat} {heads : List Int} (h : BudR wi L b l o sp mp heads k) (hb : Below w.heap.size w wi) (hB : ∀ x ∈ L.blks, w.heap.size ≤ x) (h1 : w1.heap = (wi.alloc (listO sp (heads.getD k 0))).heap) (ha : AppOut wi w1 w4 L.bd 5 g2 cap L.lv L.ls wi.heap.size 151) :
    BudR w4 ⟨L.bd, .slice (some ⟨g2, 0, none⟩) (k + 1) cap, L.ls ++ [wi.heap.size]⟩ b l o sp mp heads (k + 1) ∧ Below w.heap.size w w4 ∧ ∀ x ∈ (⟨L.bd, .slice (some ⟨g2, 0, none⟩) (k + 1) cap, L.ls ++ [wi.heap.size]⟩ : BudL).blks, w.heap.size ≤ x := by
  have hl := h.len
  have hs1 : w1.heap.size = wi.heap.size + 1 := by rw [h1]; simp
  have hbs := hb.size
  have hlt := h.lt
  have hnd := h.nodup
  subst hl
  refine ⟨⟨?_, ha.own, by simp, fun i p hp => ?_, ha.nodup⟩, ha.below hb (by omega) hB, ha.blks (by omega) hB hbs⟩
  · have := h.at_
    unfold buddyO at this ⊢
    exact ha.at_ _ _ _ this rfl
  · by_cases hi : i < L.ls.length
    · rw [List.getElem?_append_left hi] at hp
      have hpm := List.mem_of_getElem? hp
      unfold BudL.blks rowBlks at hnd
      obtain ⟨hn1, hn2⟩ := List.nodup_cons.1 hnd
      obtain ⟨hn3, hn4, hn5⟩ := List.nodup_append.1 hn2
      exact (ha.old p (hlt p (by unfold BudL.blks rowBlks; simp [hpm])) (fun e => hn1 (by rw [← e]; exact List.mem_append_right _ hpm)) (fun e => hn5 p (by simp [← e]) p hpm rfl)).trans (h.list i p hp)
    · rw [List.getElem?_append_right (by omega)] at hp
      have hi2 : i = L.ls.length := by
        rcases Nat.lt_or_ge (i - L.ls.length) 1 with h | h
        · omega
        · rw [List.getElem?_eq_none (by simpa using h)] at hp; cases hp
      subst hi2
      simp at hp
      subst hp
      rw [ha.new _ (Nat.le_refl _) (by omega), h1]
      exact blk_new _ _
theorem linksNew_d (sp : Nat) (h : Int) (w : World) : Calls Try.prog 99 #[.pointer (some ⟨sp, 0, none⟩), .int .u64 h] w.drew fun e w' => e = .returned (.pointer (some ⟨w.heap.size, 0, none⟩)) ∧ w'.heap = (w.alloc (listO sp h)).heap ∧ Upd No w w' := by
  refine (linksNew_c sp h w.drew).mono ?_
  rintro e w' ⟨rfl, rfl⟩
  exact ⟨rfl, rfl, ((Upd.refl _ _).drew).alloc _⟩
set_option maxRecDepth 100000 in
set_option maxHeartbeats 2000000 in
theorem buddyOpen_c {F : Nat → Prop} {w : World} {b l : Int} {o sp mp : Nat} {heads : List Int} {A : Option Addr} {cap : Nat} (ho : o ≤ 8) (hh : heads.length = o + 1) (hx : RowI F w A .u64 heads) (hF : ∀ k, F k → k < w.heap.size) :
    Calls Try.prog 70 #[cfgV b l (o : Int), .pointer (some ⟨sp, 0, none⟩), .pointer (some ⟨mp, 0, none⟩), .slice A heads.length cap] w fun e w' => ∃ L : BudL, e = .returned (.tuple #[.pointer (some ⟨L.bd, 0, none⟩), .int .i64 0]) ∧ BudR w' L b l o sp mp heads (o + 1) ∧ (∀ k ∈ L.blks, w.heap.size ≤ k) ∧ Below w.heap.size w w' := by
  unfold cfgV
  obtain ⟨W1, hW1⟩ : ∃ W1, w.alloc (.cells #[.int .u64 b, .int .i64 l, .int .i64 (o : Int)] 24) = W1 := ⟨_, rfl⟩
  have hs1 : W1.heap.size = w.heap.size + 1 := by rw [← hW1]; simp
  have hv1 : W1.heap[w.heap.size]? = some (.cells #[.int .u64 b, .int .i64 l, .int .i64 (o : Int)] 24 (0, 0)) := by rw [← hW1]; exact blk_new w _
  have c0 := blk_cell hv1 0
  have c1 := blk_cell hv1 1
  have c2 := blk_cell hv1 2
  simp at c0 c1 c2
  obtain ⟨W2, hW2⟩ : ∃ W2, W1.alloc (buddyO b l o sp mp (.slice none 0 0)) = W2 := ⟨_, rfl⟩
  have hb2 : Below w.heap.size w W2 := by rw [← hW2, ← hW1]; exact ((Below.refl _ _).alloc (Nat.le_refl _) _).alloc (by simp) _
  have HB2 := Lib.hid (show BudR W2 ⟨W1.heap.size, .slice none 0 0, []⟩ b l o sp mp heads 0 from ⟨by rw [← hW2]; exact blk_new W1 _, World.ownsRow_nil _ _ _ _, rfl, fun i p hp => by simp at hp, by simp [BudL.blks, rowBlks, Value.ownBlock]⟩)
  have HBW := Lib.hid hb2
  have HF1 := Lib.hid (show ∀ x ∈ (⟨W1.heap.size, .slice none 0 0, []⟩ : BudL).blks, w.heap.size ≤ x from fun x hx => by simp [BudL.blks, rowBlks, Value.ownBlock] at hx; omega)
  have HX := Lib.hid hx
  have HFF := Lib.hid hF
  have hle : wrap64 ((o : Int) + 1) = (heads.length : Int) := by rw [hh]; unfold wrap64; omega
  have hle' : IntKind.i64.wrap ((o : Int) + 1) = (heads.length : Int) := by rw [i64_w]; exact hle
  have HH := Lib.hid hh
  have HO := Lib.hid ho
  have hl64 : heads.length ≤ 9223372036854775807 := by omega
  have HS1 := Lib.hid hs1
  unfold buddyO at hW2
  clear hb2 hx hF hv1 hh ho hs1
  go_enter Try.func70, Try.ntmps70
  go_wp2
  clear hW1 hW2 c0 c1 c2
  generalize W1.heap.size = bd at *
  go_loopg [12, 26, 27, 28, 29, 30, 31, 32, 33, 34, 35, 36, 37, 38, 39, 40, 41, 42] heads.length (fun g v12 v26 _ _ _ _ _ _ _ _ _ _ _ _ _ _ _ _ wi => ∃ (k : Nat) (L : BudL), v26 = .int .i64 (k : Int) ∧ Aside0 (L.bd = bd) ∧ Aside0 (k + g = heads.length) ∧ Aside0 (BudR wi L b l o sp mp heads k) ∧ Aside0 (Below w.heap.size w wi) ∧ Aside0 (∀ x ∈ L.blks, w.heap.size ≤ x))
  case atStart => exact ⟨0, _, rfl, ⟨rfl⟩, ⟨by omega⟩, ⟨HB2.out⟩, ⟨HBW.out⟩, ⟨HF1.out⟩⟩
  case round =>
    obtain ⟨k, L, rfl, hbd, hkg, hbud, hbel, hblk⟩ := hrel
    by_cases hk : k < heads.length
    case neg =>
      obtain ⟨t1, t2⟩ := nlt_dec hk
      have HKE := Lib.hid (show k = o + 1 by have := hkg.out; have := HH.out; omega)
      have HBE := Lib.hid hbd.out
      have HBU := Lib.hid hbud.out
      have HBEL := Lib.hid hbel.out
      have HBLK := Lib.hid hblk.out
      clear hk hkg hbud hbel hblk hbd
      go_wp2
      go_ret2
      exact ⟨L, by rw [HBE.out]; rfl, by have := HBU.out; rw [HKE.out] at this; exact this, HBLK.out, HBEL.out⟩
    obtain ⟨t1, t2⟩ := lt_dec hk
    have hkI : (k : Int) < (heads.length : Int) := by omega
    obtain ⟨g1, rfl⟩ : ∃ g1, gk = g1 + 1 := ⟨gk - 1, by have := hkg.out; omega⟩
    have HG := Lib.hid (lp_step hkg.out)
    obtain ⟨ad, hA, hFa, hcell⟩ := (HX.out.keep (w' := wr) (fun x hx => hbel.out.block x (HFF.out x hx))) (by omega)
    subst hA
    have ck := hcell k hk
    have hv := hbud.out.at_
    rw [hbd.out] at hv
    have HAT := Lib.hid hv
    have HFR := Lib.hid (show ∀ wx : World, wx.heap[bd]? = some (buddyO b l o sp mp L.lv) → wx.cell? ⟨bd, 5, none⟩ = some L.lv ∧ wx.frozen? ⟨bd, 5, none⟩ = false from fun wx hx => by
      unfold buddyO at hx
      exact ⟨blk_cell hx 5, blk_frozen hx 5⟩)
    obtain ⟨a4, fa⟩ := HFR.out wr hv
    obtain ⟨hd, hhd⟩ : ∃ hd, heads.getD k 0 = hd := ⟨_, rfl⟩
    rw [hhd] at ck
    have HLN := Lib.hid (linksNew_d sp hd wr)
    have HBU := Lib.hid hbud.out
    have HBEL := Lib.hid hbel.out
    have HBLK := Lib.hid hblk.out
    have HHD := Lib.hid hhd
    have HBD := Lib.hid hbd.out
    have HNE := Lib.hid (show some bd ≠ L.lv.ownBlock from fun e => by
      have := HBU.out.nodup
      unfold BudL.blks rowBlks at this
      rw [← e, HBD.out] at this
      simp at this)
    have HOWL := Lib.hid (show L.ls.length = k from HBU.out.len)
    have HLT := Lib.hid (blk_lt hv)
    obtain ⟨i0, hi0, hz0, hz1, hz2⟩ := info_parts infoPL
    have HI0 := Lib.hid hi0
    have HML := Lib.hid (show k + 1 ≤ maxLen by have := HH.out; have := HO.out; unfold maxLen; omega)
    have HBY := Lib.hid (show (k + 1) * 8 ≤ 140737488355328 by have := HH.out; have := HO.out; omega)
    clear hk hkg hbud hbel hblk hbd hFa hcell hv hhd hi0
    go_upto_region 7 with (fail)
    clear ck
    go_region_law
      (first
        | (refine step_append_lies _ (by rfl) _ _ _ (by rfl) 0 151 i0 _ 1 8 Try.underlying148 HI0.out hz0 hz1 hz2 rfl (by omega) L.lv k (L.ls.map ptrV) (by rfl) (HOW.out.alloc _) ⟨w1.heap.size, 0, none⟩ 1 1 [.pointer (some ⟨wr.heap.size, 0, none⟩)] (by rfl) (by rfl) (World.news_of_block (cs := #[.pointer (some ⟨wr.heap.size, 0, none⟩)]) (t := 151) (fr := (0, 0)) (heap_alloc_new w1 _)) (by simp [Value.oneCell']) (by omega) HML.out HBY.out (Nat.zero_le _) (w1.heap.size + 1) (by simp) ?_; intro g cap w2 hown2 hgrow2 hat2 hlt2; have HOWN2 := Lib.hid hown2; have HGROW2 := Lib.hid hgrow2; have HAT2 := Lib.hid hat2; obtain ⟨k92, f92⟩ := HFR.out w2 (blk_grown (blk_alloc HAT1.out _) hgrow2 HNE.out); clear hown2 hgrow2 hat2 hlt2)
        | (go_simp; go_at_call 99; refine HLN.out.mono ?_; rintro e w1 ⟨rfl, hh1, hu1⟩; have HH1 := Lib.hid hh1; have HU1 := Lib.hid hu1; have hat1 : w1.heap[bd]? = some (buddyO b l o sp mp L.lv) := (hu1.block bd HLT.out (fun h => h.elim)).trans HAT.out; have HAT1 := Lib.hid hat1; obtain ⟨k91, f91⟩ := HFR.out w1 hat1; obtain ⟨k91a, f91a⟩ := HFR.out (w1.alloc (.cells #[.pointer (some ⟨wr.heap.size, 0, none⟩)] 151 (0, 0))) (blk_alloc hat1 _); have HOW := Lib.hid (show w1.ownsRow 0 151 1 L.lv k (L.ls.map ptrV) by rw [← HOWL.out]; exact own_move HBU.out.own (fun x hx => hu1.block x (own_lt HBU.out.own hx).2 (fun h => h.elim))); clear hh1 hu1 hat1))
    all_goals
      have n1 : wrap64 ((k : Int) + 1) = (k : Int) + 1 := up1 (by have := HBY.out; omega)
      have st := BudR.step HBU.out HBEL.out HBLK.out (by rw [HHD.out]; exact HH1.out) (app_out (g := L.bd) (j := 5) (p := wr.heap.size) HOWL.out HBU.out.nodup HBU.out.lt HU1.out (Nat.le_refl _) (by rw [HH1.out]; simp) HOWN2.out HGROW2.out HAT2.out)
      rw [HBD.out] at st
      have HST := Lib.hid st
      clear st a4 fa k91 f91 k91a f91a k92 f92
      go_wp2
      go_roundg g1
      case measure => omega
      case rel => exact ⟨k + 1, _, by simp; try exact n1, ⟨rfl⟩, ⟨HG.out⟩, ⟨HST.out.1⟩, ⟨HST.out.2.1⟩, ⟨HST.out.2.2⟩⟩
theorem infoU64 : (Try.prog.info? 22).map (fun i => (i.zero, i.size, i.bytes)) = some (some (.int .u64 0), 1, 8) := by kernel_rfl
def zeroU (n : Nat) : Obj := .cells (madeCells #[.int .u64 0] n) 22 (0, 0)
theorem makeU {n : Nat} (hn : n ≤ 67108864) (kl : IntKind) (w : World) : (Instr.makeSlice 28 (.int kl (n : Int)) (.int kl (n : Int))).run Try.prog w = .ok (.slice (some ⟨w.heap.size, 0, none⟩) n n) (w.alloc (zeroU n)) := by
  obtain ⟨i, hi, h1, h2, h3⟩ := info_parts infoU64
  have := run_make (P := Try.prog) w 28 22 i (.int .u64 0) Try.underlying28 hi h1 kl kl (n : Int) (n : Int) (by omega) (Int.le_refl _) (by rw [h3]; omega) (by omega)
  rw [this, h2]
  simp [zeroU, Value.cells]
theorem zeroU_row (n : Nat) (w : World) : RowI (fun k => k = w.heap.size) (w.alloc (zeroU n)) (some ⟨w.heap.size, 0, none⟩) .u64 (List.replicate n 0) := by
  refine fun _ => ⟨_, rfl, rfl, fun i hi => ?_⟩
  have e5 : (⟨w.heap.size, 0, none⟩ : Addr).add i = ⟨w.heap.size, i, none⟩ := by unfold Addr.add; split <;> simp_all
  rw [List.length_replicate] at hi
  rw [e5, blk_cell (blk_new w (zeroU n)) i, ← Array.getElem?_toList, toList_madeCells_one, List.getElem?_replicate, if_pos hi, List.getD_eq_getElem?_getD, List.getElem?_replicate, if_pos hi]
  rfl
set_option maxRecDepth 100000 in
set_option maxHeartbeats 1000000 in
theorem buddyNew_c {w : World} {b l : Int} {o sp mp : Nat} (ho : o ≤ 8) :
    Calls Try.prog 66 #[cfgV b l (o : Int), .pointer (some ⟨sp, 0, none⟩), .pointer (some ⟨mp, 0, none⟩)] w fun e w' => ∃ L : BudL, e = .returned (.pointer (some ⟨L.bd, 0, none⟩)) ∧ BudR w' L b l o sp mp (List.replicate (o + 1) 0) (o + 1) ∧ (∀ k ∈ L.blks, w.heap.size ≤ k) ∧ Below w.heap.size w w' := by
  have HOP := Lib.hid (fun (F : Nat → Prop) (wx : World) (A : Option Addr) (hx : RowI F wx A .u64 (List.replicate (o + 1) 0)) (hF : ∀ k, F k → k < wx.heap.size) => buddyOpen_c (b := b) (l := l) (sp := sp) (mp := mp) (cap := o + 1) ho (by simp) hx hF)
  unfold cfgV at HOP ⊢
  rw [List.length_replicate] at HOP
  obtain ⟨W1, hW1⟩ : ∃ W1, w.alloc (.cells #[.int .u64 b, .int .i64 l, .int .i64 (o : Int)] 24) = W1 := ⟨_, rfl⟩
  have hs1 : W1.heap.size = w.heap.size + 1 := by rw [← hW1]; simp
  have HBW := Lib.hid (show Below w.heap.size w W1 by rw [← hW1]; exact (Below.refl _ _).alloc (Nat.le_refl _) _)
  have hv1 : W1.heap[w.heap.size]? = some (.cells #[.int .u64 b, .int .i64 l, .int .i64 (o : Int)] 24 (0, 0)) := by rw [← hW1]; exact blk_new w _
  have c0 := blk_cell hv1 0
  have c1 := blk_cell hv1 1
  have c2 := blk_cell hv1 2
  simp at c0 c1 c2
  have hv2 := blk_alloc hv1 (zeroU (o + 1))
  have e0 := blk_cell hv2 0
  have e1 := blk_cell hv2 1
  have e2 := blk_cell hv2 2
  simp at e0 e1 e2
  have hle : wrap64 ((o : Int) + 1) = ((o + 1 : Nat) : Int) := by unfold wrap64; omega
  have hle' : IntKind.i64.wrap ((o : Int) + 1) = ((o + 1 : Nat) : Int) := by rw [i64_w]; exact hle
  have hmax : max (0 : Int) ((o : Int) + 1) = ((o + 1 : Nat) : Int) := by omega
  have HMK : ∀ wx : World, (Instr.makeSlice 28 (.int .i64 ((o : Int) + 1)) (.int .i64 ((o : Int) + 1))).run Try.prog wx = .ok (.slice (some ⟨wx.heap.size, 0, none⟩) (o + 1) (o + 1)) (wx.alloc (zeroU (o + 1))) := fun wx => by
    have := makeU (n := o + 1) (by omega) .i64 wx
    rw [show ((o + 1 : Nat) : Int) = (o : Int) + 1 by omega] at this
    exact this
  have HS1 := Lib.hid hs1
  have HOQ := Lib.hid (HOP.out _ (W1.alloc (zeroU (o + 1))).drew _ ((zeroU_row (o + 1) W1).keep (fun _ _ => rfl)) (fun k hk => by rw [hk]; show W1.heap.size < (W1.alloc (zeroU (o + 1))).heap.size; simp))
  clear hs1 hv1 hv2 ho HOP
  go_enter Try.func66, Try.ntmps66
  go_wp2
  go_region_law (go_simp; go_at_call 70; refine HOQ.out.mono ?_; rintro e w3 ⟨L, rfl, hL, hB, hbel⟩; have HL := Lib.hid hL; have HB := Lib.hid hB; have HBE := Lib.hid hbel; clear hL hB hbel)
  all_goals
    go_wp2
    go_ret
    refine ⟨L, rfl, HL.out, fun k hk => ?_, ?_⟩
    · have h1 : (W1.alloc (zeroU (o + 1))).heap.size ≤ k := HB.out k hk
      have := HS1.out
      simp at h1; omega
    · have h1 : Below (W1.alloc (zeroU (o + 1))).heap.size (W1.alloc (zeroU (o + 1))).drew w3 := HBE.out
      have := HS1.out
      exact ((HBW.out.alloc (by omega) (zeroU (o + 1))).drew).trans (h1.mono (by simp; omega))
end Go.Proofs.Ytkgedpcipaogjaa.WB
end
section
namespace Go.Proofs.Ytkgedpcipaogjaa.WB
open Go Go.RowKit Go.Proofs.YtkgedpcipaogjaaW.PrintWords Go.Proofs.YtkgedpcipaogjaaW.PrintLast Go.Proofs.YtkgedpcipaogjaaW.PrintMore Go.Proofs.Ytkgedpcipaogjaa.PWalkChecks Go.Proofs.Ytkgedpcipaogjaa.Mem
set_option linter.unusedVariables false
set_option linter.unusedSimpArgs false
theorem pmWithin_t {v lo hi : Int} (h1 : lo ≤ v) (h2 : v ≤ hi) (w : World) : Calls Try.prog 92 #[.int .i64 v, .int .i64 lo, .int .i64 hi] w fun e w' => e = .returned (.bool true) ∧ w' = w := by
  have d1 : decide (v ≥ lo) = true := decide_eq_true h1
  have d2 : decide (v ≤ hi) = true := decide_eq_true h2
  go_enter Try.func92, Try.ntmps92
  go_wp2
  go_ret
  exact ⟨rfl, rfl⟩
set_option maxRecDepth 100000 in
theorem fits_t {p : Pg} {o n : Int} (h : Rng o (n - 1) p) (hn : 0 ≤ n ∧ n ≤ 1024) (w : World) : Calls Try.prog 93 #[.agg p.cells.toArray, .int .i64 o, .int .i64 n] w fun e w' => e = .returned (.bool true) ∧ Below w.heap.size w w' := by
  unfold Pg.cells
  have HW1 := Lib.hid (fun wx => pmWithin_t h.kd.1 h.kd.2 wx)
  have HW2 := Lib.hid (fun wx => pmWithin_t h.od.1 h.od.2 wx)
  have HW3 := Lib.hid (fun wx => pmWithin_t h.cl.1 h.cl.2 wx)
  have HW4 := Lib.hid (fun wx => pmWithin_t h.lv.1 h.lv.2 wx)
  have HW5 := Lib.hid (fun wx => pmWithin_t h.nx.1 h.nx.2 wx)
  have HW6 := Lib.hid (fun wx => pmWithin_t h.pv.1 h.pv.2 wx)
  have HW7 := Lib.hid (fun wx => pmWithin_t h.fs.1 h.fs.2 wx)
  obtain ⟨q0, q1, q2, q3, q4, q5, q6, q7, q8, q9, q10⟩ := page_var (blk_new w (pageO p))
  have n1 : wrap64 (n - 1) = n - 1 := by unfold wrap64; omega
  have n2 : IntKind.i64.wrap (n - 1) = n - 1 := by rw [i64_w]; exact n1
  unfold pageO at q0 q1 q2 q3 q4 q5 q6 q7 q8 q9 q10
  have T1 : True := trivial
  have T2 : True := trivial
  have T3 : True := trivial
  have T4 : True := trivial
  have T5 : True := trivial
  have T6 : True := trivial
  clear h hn
  go_enter Try.func93, Try.ntmps93
  go_wp2_with (first
    | (go_at_call 92; clear T1; refine (HW1.out _).mono ?_; rintro e w1 ⟨rfl, rfl⟩)
    | (go_at_call 92; clear T2; refine (HW2.out _).mono ?_; rintro e w1 ⟨rfl, rfl⟩)
    | (go_at_call 92; clear T3; refine (HW3.out _).mono ?_; rintro e w1 ⟨rfl, rfl⟩)
    | (go_at_call 92; clear T4; refine (HW4.out _).mono ?_; rintro e w1 ⟨rfl, rfl⟩)
    | (go_at_call 92; clear T5; refine (HW5.out _).mono ?_; rintro e w1 ⟨rfl, rfl⟩)
    | (go_at_call 92; clear T6; refine (HW6.out _).mono ?_; rintro e w1 ⟨rfl, rfl⟩)
    | (go_at_call 92; refine (HW7.out _).mono ?_; rintro e w1 ⟨rfl, rfl⟩))
  go_ret
  exact ⟨rfl, (Below.refl _ _).alloc (Nat.le_refl _) _⟩
def mapO (o : Nat) (pv rv : Value) : Obj := .cells #[.int .i64 (o : Int), pv, rv] 142 (0, 0)
theorem infoPS : (Try.prog.info? 129).map (fun i => (i.zero, i.size, i.bytes)) = some (some (.pointer none), 1, 8) := by kernel_rfl
structure MapI (w : World) (mp o k : Nat) (pv rv : Value) (ps : List Nat) (wi : World) : Prop where
  at_ : wi.heap[mp]? = some (mapO o pv rv)
  own : wi.ownsRow 0 129 1 rv ps.length (ps.map ptrV)
  len : ps.length = k
  lt : ∀ x ∈ rowBlks mp rv ps, w.heap.size ≤ x ∧ x < wi.heap.size
  nodup : (rowBlks mp rv ps).Nodup
  below : Below w.heap.size w wi
theorem MapI.step {w wi w1 w4 : World} {mp o k p g2 cap : Nat} {pv rv : Value} {ps : List Nat} (h : MapI w mp o k pv rv ps wi) (h1 : wi.heap.size ≤ w1.heap.size) (hp : wi.heap.size ≤ p) (hp1 : p < w1.heap.size) (ha : AppOut wi w1 w4 mp 2 g2 cap rv ps p 129) :
    MapI w mp o (k + 1) pv (.slice (some ⟨g2, 0, none⟩) (k + 1) cap) (ps ++ [p]) w4 := by
  have hl := h.len
  subst hl
  have hbs := h.below.size
  have hs4 := ha.size
  have hB : ∀ x ∈ rowBlks mp rv ps, w.heap.size ≤ x := fun x hx => (h.lt x hx).1
  refine ⟨?_, ha.own, by simp, fun x hx => ⟨ha.blks (by omega) hB (by omega) x hx, ?_⟩, ha.nodup, ha.below h.below h1 hB⟩
  · have := h.at_
    unfold mapO at this ⊢
    exact ha.at_ _ _ _ this rfl
  · change x ∈ mp :: g2 :: (ps ++ [p]) at hx
    simp at hx
    have hm : ∀ y, y ∈ rowBlks mp rv ps → y < w4.heap.size := fun y hy => by have := (h.lt y hy).2; omega
    rcases hx with rfl | rfl | hx | rfl
    · exact hm _ (by unfold rowBlks; simp)
    · exact ha.lt
    · exact hm _ (by unfold rowBlks; simp [hx])
    · omega
theorem newSet_d (n : Int) (w : World) : Calls Try.prog 85 #[.int .i64 n] w.drew fun e w' => ∃ p, e = .returned (.pointer (some ⟨p, 0, none⟩)) ∧ w.heap.size ≤ p ∧ p < w'.heap.size ∧ Upd No w w' := by
  refine (Sets.NewSet_calls w.drew n).mono ?_
  rintro e w' ⟨p, rfl, hs, hu⟩
  obtain ⟨h1, h2, h3, h4, v, h5, h6⟩ := hs
  exact ⟨p, rfl, h1, blk_lt h5, ⟨hu.os, hu.tape, hu.output, hu.size, hu.block⟩⟩
set_option maxRecDepth 100000 in
set_option maxHeartbeats 2000000 in
theorem pmNew_c {w : World} {o : Nat} (ho : o ≤ 8) :
    Calls Try.prog 65 #[.int .i64 (o : Int)] w fun e w' => ∃ mp rv ps, e = .returned (.pointer (some ⟨mp, 0, none⟩)) ∧ MapI w mp o o (.slice none 0 0) rv ps w' := by
  have hmin : min (o : Int) 8 = (o : Int) := by omega
  have hmax : max (0 : Int) (o : Int) = (o : Int) := by omega
  have HO := Lib.hid ho
  have HI0 := Lib.hid (show MapI w w.heap.size o 0 (.slice none 0 0) (.slice none 0 0) [] (w.alloc (mapO o (.slice none 0 0) (.slice none 0 0))) from ⟨blk_new w _, World.ownsRow_nil _ _ _ _, rfl, fun x hx => by simp [rowBlks, Value.ownBlock] at hx; subst hx; simp, by simp [rowBlks, Value.ownBlock], (Below.refl _ _).alloc (Nat.le_refl _) _⟩)
  unfold mapO at HI0
  have hoI : (o : Int) ≤ 8 := by omega
  by_cases h0 : 0 < o
  case neg =>
    obtain rfl : o = 0 := by omega
    clear h0 hoI hmin hmax ho
    go_enter Try.func65, Try.ntmps65
    go_wp2
    go_loopg [13, 14, 15, 16, 17, 18, 19, 20, 21, 22, 23, 24, 25] 0 (fun _ v13 _ _ _ _ _ _ _ _ _ _ _ _ wi => v13 = .int .i64 0 ∧ Aside0 (MapI w w.heap.size 0 0 (.slice none 0 0) (.slice none 0 0) [] wi))
    case atStart => exact ⟨rfl, ⟨HI0.out⟩⟩
    case round =>
      obtain ⟨rfl, hm⟩ := hrel
      go_wp2
      go_ret
      exact ⟨_, _, _, rfl, hm.out⟩
  have h0I : (0 : Int) < (o : Int) := by omega
  go_enter Try.func65, Try.ntmps65
  go_wp2
  clear h0 h0I hoI ho hmin hmax
  generalize w.heap.size = mp at HI0 ⊢
  go_loopg [13, 14, 15, 16, 17, 18, 19, 20, 21, 22, 23, 24, 25] o (fun g v13 _ _ _ _ _ _ _ _ _ _ _ _ wi => ∃ (k : Nat) (rv : Value) (ps : List Nat), v13 = .int .i64 (k : Int) ∧ Aside0 (k + g = o) ∧ Aside0 (MapI w mp o k (.slice none 0 0) rv ps wi))
  case atStart => exact ⟨0, _, [], rfl, ⟨by omega⟩, ⟨HI0.out⟩⟩
  case round =>
    obtain ⟨k, rv, ps, rfl, hkg, hm⟩ := hrel
    by_cases hk : k < o
    case neg =>
      obtain ⟨t1, t2⟩ := nlt_dec hk
      have HM := Lib.hid (show MapI w mp o o (.slice none 0 0) rv ps wr by have := hkg.out; have := hm.out; rwa [show k = o by omega] at this)
      clear hk hkg hm
      go_wp2
      go_ret
      exact ⟨_, _, _, rfl, HM.out⟩
    obtain ⟨t1, t2⟩ := lt_dec hk
    have hkI : (k : Int) < (o : Int) := by omega
    obtain ⟨g1, rfl⟩ : ∃ g1, gk = g1 + 1 := ⟨gk - 1, by have := hkg.out; omega⟩
    have HG := Lib.hid (lp_step hkg.out)
    have HM := Lib.hid hm.out
    have HAT := Lib.hid hm.out.at_
    have HFR := Lib.hid (show ∀ wx : World, wx.heap[mp]? = some (mapO o (.slice none 0 0) rv) → wx.cell? ⟨mp, 2, none⟩ = some rv ∧ wx.frozen? ⟨mp, 2, none⟩ = false from fun wx hx => by
      unfold mapO at hx
      exact ⟨blk_cell hx 2, blk_frozen hx 2⟩)
    obtain ⟨a4, fa⟩ := HFR.out wr hm.out.at_
    have HLN := Lib.hid (newSet_d 0 wr)
    have HNE := Lib.hid (show some mp ≠ rv.ownBlock from fun e => by
      have := HM.out.nodup
      unfold rowBlks at this
      rw [← e] at this
      simp at this)
    have HLT := Lib.hid (blk_lt hm.out.at_)
    have HOWL := Lib.hid (show ps.length = k from HM.out.len)
    obtain ⟨i0, hi0, hz0, hz1, hz2⟩ := info_parts infoPS
    have HI1 := Lib.hid hi0
    have HML := Lib.hid (show k + 1 ≤ maxLen by have := HO.out; unfold maxLen; omega)
    have HBY := Lib.hid (show (k + 1) * 8 ≤ 140737488355328 by have := HO.out; omega)
    clear hk hkg hm hi0
    go_upto_region 4 with (fail)
    go_region_law
      (first
        | (refine step_append_lies _ (by rfl) _ _ _ (by rfl) 0 129 i0 _ 1 8 Try.underlying59 HI1.out hz0 hz1 hz2 rfl (by omega) rv k (ps.map ptrV) (by rfl) (HOW.out.alloc _) ⟨w1.heap.size, 0, none⟩ 1 1 [.pointer (some ⟨p, 0, none⟩)] (by rfl) (by rfl) (World.news_of_block (cs := #[.pointer (some ⟨p, 0, none⟩)]) (t := 129) (fr := (0, 0)) (heap_alloc_new w1 _)) (by simp [Value.oneCell']) (by omega) HML.out HBY.out (Nat.zero_le _) (w1.heap.size + 1) (by simp) ?_; intro g cap w2 hown2 hgrow2 hat2 hlt2; have HOWN2 := Lib.hid hown2; have HGROW2 := Lib.hid hgrow2; have HAT2 := Lib.hid hat2; obtain ⟨k92, f92⟩ := HFR.out w2 (blk_grown (blk_alloc HAT1.out _) hgrow2 HNE.out); clear hown2 hgrow2 hat2 hlt2)
        | (go_simp; go_at_call 85; refine HLN.out.mono ?_; rintro e w1 ⟨p, rfl, hp0, hp1, hu1⟩; have HP0 := Lib.hid hp0; have HP1 := Lib.hid hp1; have HU1 := Lib.hid hu1; have hat1 : w1.heap[mp]? = some (mapO o (.slice none 0 0) rv) := (hu1.block mp HLT.out (fun h => h.elim)).trans HAT.out; have HAT1 := Lib.hid hat1; obtain ⟨k91, f91⟩ := HFR.out w1 hat1; obtain ⟨k91a, f91a⟩ := HFR.out (w1.alloc (.cells #[.pointer (some ⟨p, 0, none⟩)] 129 (0, 0))) (blk_alloc hat1 _); have HOW := Lib.hid (show w1.ownsRow 0 129 1 rv k (ps.map ptrV) by rw [← HOWL.out]; exact own_move HM.out.own (fun x hx => hu1.block x (own_lt HM.out.own hx).2 (fun h => h.elim))); clear hp0 hp1 hu1 hat1))
    all_goals
      have n1 : wrap64 ((k : Int) + 1) = (k : Int) + 1 := up1 (by have := HBY.out; omega)
      have HST := Lib.hid (MapI.step HM.out HU1.out.size HP0.out HP1.out (app_out (g := mp) (j := 2) (p := p) HOWL.out HM.out.nodup (fun x hx => (HM.out.lt x hx).2) HU1.out HP0.out HP1.out HOWN2.out HGROW2.out HAT2.out))
      clear a4 fa k91 f91 k91a f91a k92 f92
      go_wp2
      go_roundg g1
      case measure => omega
      case rel => exact ⟨k + 1, _, _, by simp; try exact n1, ⟨HG.out⟩, ⟨HST.out⟩⟩
end Go.Proofs.Ytkgedpcipaogjaa.WB
end
