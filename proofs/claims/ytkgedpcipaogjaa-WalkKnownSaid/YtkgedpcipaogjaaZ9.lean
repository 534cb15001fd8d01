/- Part 9 of what the rows of this seat rest on: words of the print that they need; how images, spaces, sets lie in memory; the functions walked. -/
import Derived.StillTail
import Derived.Deep.Quiet
import Derived.Deep.QuietTactic
import Derived.BigQuiet
import Derived.Test.YtkgedpcipaogjaaZ2
import Derived.Test.YtkgedpcipaogjaaZ4
import Derived.Test.YtkgedpcipaogjaaZ8
section
namespace Go.Proofs.Ytkgedpcipaogjaa.WB
open Go Go.RowKit Go.Proofs.YtkgedpcipaogjaaW.PrintWords Go.Proofs.YtkgedpcipaogjaaW.PrintLast Go.Proofs.YtkgedpcipaogjaaW.PrintMore Go.Proofs.Ytkgedpcipaogjaa.SetF Go.Proofs.Ytkgedpcipaogjaa.Sets
set_option linter.unusedVariables false
set_option linter.unusedSimpArgs false
def pairF (im : Im) (k i : Nat) : Option Int := if bitL (im.row k) i = (im.openB (i * 2 ^ (k + 1)) k != im.openB (i * 2 ^ (k + 1) + 2 ^ k) k) then none else some ((i * 2 ^ (k + 1) : Nat) : Int)
theorem pairR_eq {im : Im} {k : Nat} : pairR im k = match scan (pairF im k) (im.np k) 0 with
  | some p => some p
  | none => if ∀ j, j < 64 * (im.row k).length → im.np k ≤ j → bitL (im.row k) j = false then none else some im.n := rfl
theorem set_get {F : Nat → Prop} {w : World} {sb n : Nat} {ws : List Int} (h : SetR F w sb (n : Int) ws) (i : Nat) (hi : i < n) {b : Bool} (hb : bitN ws i = b) :
    Calls Try.prog 83 #[.pointer (some ⟨sb, 0, none⟩), .int .i64 (i : Int)] w fun e w' => e = .returned (.bool b) ∧ w' = w := by
  refine (Get_in h (i : Int) (by omega) (by omega)).mono ?_
  rintro e w' ⟨rfl, rfl⟩
  exact ⟨by rw [bitI_bitN h.2.2.2.1, hb], rfl⟩
theorem open_b {F : Nat → Prop} {gv : Nat} {im : Im} {s : Sl} {P : Value} {w : World} (h : V F gv im s P w) (i : Nat) (hi : i < im.pages.length) (k : Int) {b : Bool} (hb : im.openB i k = b) :
    Calls Try.prog 81 #[.pointer (some ⟨gv, 0, none⟩), .int .i64 (i : Int), .int .i64 k] w fun e w' => e = .returned (.bool b) ∧ w' = w := hb ▸ open_c h i hi k
theorem r7_nums {q z q2 n : Nat} (hq2 : q + z = q2) (hf : q + 2 * z ≤ n) (hz : 0 < z) (hn : n ≤ 1024) : wrap64 ((q : Int) + (z : Int)) = (q2 : Int) ∧ IntKind.i64.wrap ((q : Int) + (z : Int)) = (q2 : Int) ∧ q < n ∧ q2 < n ∧ (q : Int) ≤ 1024 ∧ (z : Int) ≤ 1024 := by
  have h : wrap64 ((q : Int) + (z : Int)) = (q2 : Int) := by unfold wrap64; omega
  exact ⟨h, by rw [i64_w]; exact h, by omega, by omega, by omega, by omega⟩
theorem fit_le {a b n : Nat} (h : a + b ≤ n) (hn : n ≤ 1024) : a ≤ 1024 := by omega
theorem le_1024 {i np : Nat} (hi : i < np) (hn : np ≤ 1024) : (i : Int) ≤ 1024 := by omega
theorem r7_end {g i np : Nat} (h : i + g = np) (hi : ¬ i < np) : g = 0 := by omega
theorem r7_len {l : List Int} {np : Nat} (hn : np ≤ 1024) (hr : l.length = (np + 63) / 64) : (ofW l (np : Int)).length = l.length ∧ l.length ≤ 17 ∧ np ≤ 1048576 := by
  refine ⟨?_, by omega, by omega⟩
  rw [ofW_length, hr]
  unfold wdsN
  rw [fit_nat (by omega)]
  omega
theorem sh_mul {i k1 : Nat} (h : i * 2 ^ k1 ≤ 1024) : IntKind.i64.wrap ((i : Int) * 2 ^ k1) = ((i * 2 ^ k1 : Nat) : Int) := by
  have e1 : (i : Int) * 2 ^ k1 = ((i * 2 ^ k1 : Nat) : Int) := by simp
  rw [e1, i64_w]
  generalize i * 2 ^ k1 = x at *
  unfold wrap64; omega
set_option maxRecDepth 100000 in
set_option maxHeartbeats 4000000 in
theorem paired_c {F : Nat → Prop} {gv : Nat} {im : Im} {s : Sl} {P : Value} {w : World} (h : V F gv im s P w) (hs : SetsAt F w im P) (hF : ∀ b, F b → b < w.heap.size) (hgv : gv < w.heap.size) {o r : Nat} (hgeo : Geo im o r) :
    RuleB 58 gv w (R7 im) := by
  show Calls Try.prog 58 #[.pointer (some ⟨gv, 0, none⟩)] w (RuleP w (R7 im))
  have HV := Lib.hid h
  have HS := Lib.hid hs
  obtain ⟨c0, c1, c2, c3, c4, c5, c6, c7, c8, c9⟩ := h.cell
  have hn9 : im.pages.length ≤ 1024 := hgeo.n1024
  have ho8 := hgeo.o8
  have hpl : im.pairs.length = o := hgeo.pairs
  have hp8 : im.pairs.length ≤ 8 := by omega
  obtain ⟨AP, cap, rfl, hset⟩ := hs.at_
  have HSET := Lib.hid hset
  have HF := Lib.hid hF
  have HG := Lib.hid hgv
  have HGEO := Lib.hid hgeo
  have HWF := Lib.hid h.im.wf
  clear h hs hF hgv hgeo hset hpl c0 c1 c2 c3 c4 c5 c6 c7 c8
  go_enter Try.func58, Try.ntmps58
  go_wp2
  clear c9
  go_loopg [13] im.pairs.length (fun g v wr => ∃ k : Nat, v = .int .i64 (k : Int) ∧ Aside0 (k + g = im.pairs.length) ∧ Aside0 (scan (pairR im) g k = R7 im) ∧ Aside0 (Below w.heap.size w wr))
  case atStart => exact ⟨0, rfl, ⟨by omega⟩, ⟨rfl⟩, ⟨Below.refl _ _⟩⟩
  case round =>
    obtain ⟨k, rfl, hkg, hsc, hbe⟩ := hrel
    by_cases hk : k < im.pairs.length
    · have hkI : (k : Int) < (im.pairs.length : Int) := by omega
      have hkd : decide ((k : Int) < (im.pairs.length : Int)) = true := decide_eq_true hkI
      have hkd' : decide (k < im.pairs.length) = true := decide_eq_true hk
      obtain ⟨g1, rfl⟩ : ∃ g1, gk = g1 + 1 := ⟨gk - 1, by have := hkg.out; omega⟩
      obtain ⟨ad, sb, rfl, a2, a3, a4⟩ := HSET.out k hk
      have a3' : wr.cell? (ad.add k) = some (.pointer (some ⟨sb, 0, none⟩)) := (cell_keep (hbe.out.block _ (HF.out _ a2))).trans a3
      have a4' : SetR F wr sb (im.np k : Int) (ofW (im.row k) (im.np k : Int)) := a4.step (fun b hb _ => hbe.out.block b (HF.out b hb))
      have hrow := HWF.out.row hk
      have hko : k < o := by have := HGEO.out.pairs; omega
      have hrl := HGEO.out.rows k hko
      obtain ⟨np, hnp⟩ : ∃ np, im.np k = np := ⟨_, rfl⟩
      obtain ⟨l, hl⟩ : ∃ l, im.row k = l := ⟨_, rfl⟩
      have hnp1 : np * 2 ^ (k + 1) ≤ im.pages.length := by rw [← hnp]; exact Nat.div_mul_le_self _ _
      have hnp2 : np ≤ 1024 := by
        have h1 : np * 1 ≤ np * 2 ^ (k + 1) := Nat.mul_le_mul_left np (Nat.pow_pos (by decide))
        omega
      have HNPB := Lib.hid (show ∀ i, i < np → i * 2 ^ (k + 1) + 2 ^ (k + 1) ≤ im.pages.length from fun i hi => HGEO.out.np hko (by rw [hnp]; exact hi))
      have HPR := Lib.hid (show pairR im k = match scan (pairF im k) np 0 with
        | some p => some p
        | none => if ∀ j, j < 64 * l.length → np ≤ j → bitL l j = false then none else some im.n by rw [pairR_eq, hnp, hl])
      have HPF := Lib.hid (show ∀ i, pairF im k i = if bitL l i = (im.openB (i * 2 ^ (k + 1)) k != im.openB (i * 2 ^ (k + 1) + 2 ^ k) k) then none else some ((i * 2 ^ (k + 1) : Nat) : Int) from fun i => by unfold pairF; rw [hl])
      rw [hnp, hl] at a4'
      rw [hl] at hrow
      rw [hl, hnp] at hrl
      have HSET4 := Lib.hid a4'
      have HROW := Lib.hid hrow
      have HRL := Lib.hid hrl
      have HL := Lib.hid hl
      have HNP := Lib.hid hnp
      have HSC := Lib.hid hsc.out
      have HK := Lib.hid hk
      have HBE := Lib.hid hbe.out
      have HKO := Lib.hid hko
      have HNP2 := Lib.hid hnp2
      have HK8 := Lib.hid (show k ≤ 8 by omega)
      have hbitl : ∀ i, i < np → bitN (ofW l (np : Int)) i = bitL l i := fun i hi => by
        rw [ofW_bit hrow.1, fit_nat (by omega), decide_eq_true (by omega), bitL_N hrow.1]; rfl
      have HBITL := Lib.hid hbitl
      clear a2 a3 a4 a4' hrow hrl hl hnp hsc hk hbe hko hbitl
      obtain ⟨k1, hk1⟩ : ∃ k1 : Nat, k1 = k + 1 := ⟨_, rfl⟩
      have hkk : wrap64 ((k : Int) + 1) = (k1 : Int) := by unfold wrap64; omega
      have hkk' : IntKind.i64.wrap ((k : Int) + 1) = (k1 : Int) := by rw [i64_w]; exact hkk
      have hk19 : (k1 : Int) ≤ 9 := by omega
      have HK1 := Lib.hid hk1
      clear hk1
      go_wp2_with (go_at_call 82; refine (Len_calls HSET4.out).mono ?_; rintro e w6 ⟨rfl, rfl⟩)
      obtain ⟨wo, hwo⟩ : ∃ wo, wo = wr := ⟨_, rfl⟩
      subst hwo
      go_loopg [4, 5, 20, 21, 22, 23, 24, 25, 26, 27, 28, 29, 30, 31, 32, 33, 34, 35, 36, 37, 38, 39, 40, 41, 42, 43, 44, 45] np (fun g _ _ v20 _ _ _ _ _ _ _ _ _ _ _ _ _ _ _ _ _ _ _ _ _ _ _ _ _ wi => ∃ i : Nat, v20 = .int .i64 (i : Int) ∧ Aside0 (i + g = np) ∧ Aside0 (scan (pairF im k) g i = scan (pairF im k) np 0) ∧ Aside0 (wi.heap = wo.heap) ∧ Aside0 (Below w.heap.size w wi))
      case atStart => exact ⟨0, rfl, ⟨by omega⟩, ⟨rfl⟩, ⟨rfl⟩, ⟨HBE.out⟩⟩
      case round =>
        obtain ⟨i, rfl, hig, hscn, hheap, hbel⟩ := hrel
        by_cases hi : i < np
        · have hid : decide (i < np) = true := decide_eq_true hi
          have hid' : decide ((i : Int) < (np : Int)) = true := decide_eq_true (by omega)
          obtain ⟨g2, rfl⟩ : ∃ g2, gk = g2 + 1 := ⟨gk - 1, by have := hig.out; omega⟩
          have hi1024 := le_1024 hi HNP2.out
          have hfit := HNPB.out i hi
          have hfit0 := hfit
          obtain ⟨q, hq⟩ : ∃ q, i * 2 ^ (k + 1) = q := ⟨_, rfl⟩
          obtain ⟨z, hz⟩ : ∃ z, 2 ^ k = z := ⟨_, rfl⟩
          have hz0 : 0 < z := by rw [← hz]; exact Nat.pow_pos (by decide)
          have hz2 : 2 ^ (k + 1) = 2 * z := by rw [Nat.pow_succ, hz]; omega
          rw [hq, hz2] at hfit
          have hsh : IntKind.i64.wrap ((i : Int) * 2 ^ k1) = (q : Int) := by
            rw [HK1.out, ← hq]
            exact sh_mul (fit_le hfit0 hn9)
          have hs1 : IntKind.i64.wrap (2 ^ k) = (z : Int) := by
            rw [i64_w, sh1 HK8.out, hz]
          have hs1' : wrap64 (2 ^ k) = (z : Int) := by rw [← i64_w]; exact hs1
          have hsh' : wrap64 ((i : Int) * 2 ^ k1) = (q : Int) := by rw [← i64_w]; exact hsh
          obtain ⟨q2, hq2⟩ : ∃ q2, q + z = q2 := ⟨_, rfl⟩
          obtain ⟨hsm, hsm', hqn, hq2n, hq1024, hz1024⟩ := r7_nums hq2 hfit hz0 hn9
          obtain ⟨w2, hw2⟩ : ∃ w2, wr.drew = w2 := ⟨_, rfl⟩
          have hh2 : w2.heap = wo.heap := by rw [← hw2]; exact hheap.out
          have hb2 : Below w.heap.size w w2 := hw2 ▸ below_drew1 hbel.out
          have hv2 : V F gv im s (.slice (some ad) im.pairs.length cap) w2 := HV.out.keep (hb2.block _ HG.out) (fun b hb => hb2.block b (HF.out b hb))
          have hset2 : SetR F w2 sb (np : Int) (ofW l (np : Int)) := HSET4.out.step (fun b _ _ => by rw [hh2])
          obtain ⟨b1, hb1⟩ : ∃ b, bitL l i = b := ⟨_, rfl⟩
          obtain ⟨b2, hb2o⟩ : ∃ b, im.openB q (k : Int) = b := ⟨_, rfl⟩
          obtain ⟨b3, hb3o⟩ : ∃ b, im.openB q2 (k : Int) = b := ⟨_, rfl⟩
          have HGE := Lib.hid (set_get hset2 i hi (b := b1) (by rw [HBITL.out i hi, hb1]))
          have HO1 := Lib.hid (open_b hv2 q hqn (k : Int) hb2o)
          have HO2 := Lib.hid (open_b hv2 q2 hq2n (k : Int) hb3o)
          have hpf := HPF.out i
          rw [hq, hz, hq2, hb1, hb2o, hb3o] at hpf
          have HPFI := Lib.hid hpf
          have HW2 := Lib.hid hw2
          have HB2 := Lib.hid hb2
          have HH2 := Lib.hid hh2
          clear hi hfit hfit0 hq hz hz2 hq2 hqn hq2n hw2 hh2 hb2 hv2 hset2 hb1 hb2o hb3o hpf
          by_cases hso : b1 = (b2 != b3)
          · have HSO := Lib.hid (show (b1 == (b2 != b3)) = true by rw [beq_iff_eq]; exact hso)
            have HX := Lib.hid (show scan (pairF im k) g2 (i + 1) = scan (pairF im k) np 0 from (scan_ok (by rw [HPFI.out, if_pos hso])).symm.trans hscn.out)
            clear hso
            go_wp2
            refine bx_tail 17 HW2.out (by kernel_rfl) (by kernel_rfl) ?_
            simp only [List.take_succ_cons, List.take_zero, List.drop_succ_cons, List.drop_zero]
            iterate 2 (refine bx_want (by kernel_rfl) (fun K hK => ?_); go_simp; refine hK _ ?_; clear hK K)
            (refine bx_want (by kernel_rfl) (fun K hK => ?_); go_simp; refine ⟨_, HGE.out, hK _ ?_⟩; clear hK K)
            iterate 3 (refine bx_want (by kernel_rfl) (fun K hK => ?_); go_simp; refine hK _ ?_; clear hK K)
            (refine bx_want (by kernel_rfl) (fun K hK => ?_); go_simp; refine ⟨_, HO1.out, hK _ ?_⟩; clear hK K)
            iterate 6 (refine bx_want (by kernel_rfl) (fun K hK => ?_); go_simp; refine hK _ ?_; clear hK K)
            (refine bx_want (by kernel_rfl) (fun K hK => ?_); go_simp; refine ⟨_, HO2.out, hK _ ?_⟩; clear hK K)
            iterate 3 (refine bx_want (by kernel_rfl) (fun K hK => ?_); go_simp; refine hK _ ?_; clear hK K)
            refine bx_nil ?_
            go_wp2_with (go_at_call 77; refine (must_c _ _ _).mono ?_; rintro e w5 ⟨m1, m2, rfl⟩; obtain rfl := m1 HSO.out; clear m1 m2)
            go_roundg g2
            case measure => omega
            case rel => exact ⟨i + 1, by simp, ⟨by have := hig.out; omega⟩, ⟨HX.out⟩, ⟨HH2.out⟩, ⟨HB2.out⟩⟩
          · have HSO := Lib.hid (show (b1 == (b2 != b3)) = false by rw [beq_eq_false_iff_ne]; exact hso)
            have HX := Lib.hid (show R7 im = some (q : Int) by
              rw [← HSC.out]
              refine scan_bad ?_
              rw [HPR.out, ← hscn.out, scan_bad (by rw [HPFI.out, if_neg hso])])
            clear hso
            go_wp2
            refine bx_tail 17 HW2.out (by kernel_rfl) (by kernel_rfl) ?_
            simp only [List.take_succ_cons, List.take_zero, List.drop_succ_cons, List.drop_zero]
            iterate 2 (refine bx_want (by kernel_rfl) (fun K hK => ?_); go_simp; refine hK _ ?_; clear hK K)
            (refine bx_want (by kernel_rfl) (fun K hK => ?_); go_simp; refine ⟨_, HGE.out, hK _ ?_⟩; clear hK K)
            iterate 3 (refine bx_want (by kernel_rfl) (fun K hK => ?_); go_simp; refine hK _ ?_; clear hK K)
            (refine bx_want (by kernel_rfl) (fun K hK => ?_); go_simp; refine ⟨_, HO1.out, hK _ ?_⟩; clear hK K)
            iterate 6 (refine bx_want (by kernel_rfl) (fun K hK => ?_); go_simp; refine hK _ ?_; clear hK K)
            (refine bx_want (by kernel_rfl) (fun K hK => ?_); go_simp; refine ⟨_, HO2.out, hK _ ?_⟩; clear hK K)
            iterate 3 (refine bx_want (by kernel_rfl) (fun K hK => ?_); go_simp; refine hK _ ?_; clear hK K)
            refine bx_nil ?_
            go_wp2_with (go_at_call 77; refine (must_c _ _ _).mono ?_; rintro e w5 ⟨m1, m2, rfl⟩; obtain rfl := m2 HSO.out; clear m1 m2)
            exact ⟨rfl, RuleP_bad HX.out HB2.out⟩
        · have hid : decide (i < np) = false := decide_eq_false hi
          have hid' : decide ((i : Int) < (np : Int)) = false := decide_eq_false (by omega)
          have hg0 : gk = 0 := r7_end hig.out hi
          have hpr : pairR im k = if ∀ j, j < 64 * l.length → np ≤ j → bitL l j = false then none else some (im.n : Int) := by
            have h1 := hscn.out
            rw [hg0, scan] at h1
            rw [HPR.out, ← h1]
          have HPR2 := Lib.hid hpr
          obtain ⟨hlenW, hl16, hnp6⟩ := r7_len HNP2.out HRL.out
          have HTAIL := Lib.hid (tail_iff HROW.out.1 hnp6 HRL.out)
          have HLW := Lib.hid hlenW
          have HSET5 := Lib.hid (show SetR F wr sb (np : Int) (ofW l (np : Int)) from HSET4.out.step (fun b _ _ => by rw [hheap.out]))
          have HBEL := Lib.hid hbel.out
          clear hi hg0 hpr hlenW hnp6 hscn hheap hbel
          go_wp2_with (go_at_call 84; refine (Words_calls HSET5.out).mono ?_; rintro e w6 ⟨vw, rfl, hrow6, hbe6⟩; obtain ⟨AW, cw, rfl, hcw, hrd⟩ := Kd.R_reads hrow6; have HRD := Lib.hid hrd; have HBE6 := Lib.hid (HBEL.out.trans (hbe6.mono HBEL.out.size)); rw [HLW.out]; clear hrow6 hbe6 hrd hcw)
          obtain ⟨wo2, hwo2⟩ : ∃ wo2, wo2 = wr := ⟨_, rfl⟩
          subst hwo2
          go_loopg [7, 50, 51, 52, 53, 54, 55, 56, 57, 58, 59, 60, 61, 62, 63, 64, 65, 66, 67, 68, 69, 70, 71, 72, 73, 74, 75, 76] l.length (fun g _ v50 _ _ _ _ _ _ _ _ _ _ _ _ _ _ _ _ _ _ _ _ _ _ _ _ _ _ wi => ∃ i : Nat, v50 = .int .i64 (i : Int) ∧ Aside0 (i + g = l.length) ∧ Aside0 (∀ j, j < i → (ofW l (np : Int)).getD j 0 = l.getD j 0) ∧ Aside0 (wi.heap = w6.heap) ∧ Aside0 (Below w.heap.size w wi))
          case atStart => exact ⟨0, rfl, ⟨by omega⟩, ⟨fun j h => absurd h (Nat.not_lt_zero _)⟩, ⟨rfl⟩, ⟨HBE6.out⟩⟩
          case round =>
            obtain ⟨i, rfl, hig, hall, hheap, hbel⟩ := hrel
            by_cases hi : i < l.length
            · have hid : decide (i < l.length) = true := decide_eq_true hi
              have hid' : decide ((i : Int) < (l.length : Int)) = true := decide_eq_true (by omega)
              have hiI : (i : Int) < (l.length : Int) := by omega
              obtain ⟨g2, rfl⟩ : ∃ g2, gk = g2 + 1 := ⟨gk - 1, by have := hig.out; omega⟩
              obtain ⟨aw, rfl, hxw⟩ := Kd.at_int HRD.out (i : Int) (by omega) (by rw [HLW.out]; omega)
              obtain ⟨w2, hw2⟩ : ∃ w2, wr.drew = w2 := ⟨_, rfl⟩
              have hh2 : w2.heap = w6.heap := by rw [← hw2]; exact hheap.out
              have hb2 : Below w.heap.size w w2 := hw2 ▸ below_drew1 hbel.out
              have hv2 : V F gv im s (.slice (some ad) im.pairs.length cap) w2 := HV.out.keep (hb2.block _ HG.out) (fun b hb => hb2.block b (HF.out b hb))
              obtain ⟨-, -, -, -, -, c5, c6, -, -, -⟩ := hv2.cell
              obtain ⟨ap, ep, hap, hrows⟩ := hv2.im.pairs (by have := HK.out; omega)
              obtain ⟨B, cB, hcB, hcell, hrowi⟩ := hrows k HK.out
              have hgd : im.pairs.getD k [] = l := HL.out
              rw [hgd] at hcB hcell hrowi
              obtain ⟨ab, eb, hab, hcl⟩ := hrowi (by omega)
              rw [eb] at hcell
              rw [ep] at c6
              have hy := hcl i hi
              rw [Int.toNat_natCast] at hxw
              have hxw2 : w2.cell? (aw.add i) = some (.int .u64 ((ofW l (np : Int)).getD i 0)) := by
                rw [World.cell?_of_block (w := w6) (w' := w2) (by rw [hh2])]
                rw [hxw]
                rfl
              obtain ⟨x, hx⟩ : ∃ x, (ofW l (np : Int)).getD i 0 = x := ⟨_, rfl⟩
              obtain ⟨y, hyy⟩ : ∃ y, l.getD i 0 = y := ⟨_, rfl⟩
              rw [hx] at hxw2
              rw [hyy] at hy
              have HXX := Lib.hid hx
              have HYY := Lib.hid hyy
              have HW2 := Lib.hid hw2
              have HB2 := Lib.hid hb2
              have HH2 := Lib.hid hh2
              have HI := Lib.hid hi
              clear hi hw2 hh2 hb2 hv2 ep hap hrows hcB hgd hrowi eb hab hcl hxw hx hyy
              by_cases hso : x = y
              · have hso' : (x == y) = true := by simpa using hso
                clear hso
                go_wp2
                refine bx_tail 22 HW2.out (by kernel_rfl) (by kernel_rfl) ?_
                simp only [List.take_succ_cons, List.take_zero, List.drop_succ_cons, List.drop_zero]
                iterate 22 (refine bx_want (by kernel_rfl) (fun K hK => ?_); go_simp; refine hK _ ?_; clear hK K)
                refine bx_nil ?_
                go_wp2_with (go_at_call 77; refine (must_c _ _ _).mono ?_; rintro e w5 ⟨m1, m2, rfl⟩; first | (obtain rfl := m1 rfl; clear m1 m2) | (obtain rfl := m2 rfl; clear m1 m2))
                go_roundg g2
                case measure => omega
                case rel =>
                  refine ⟨i + 1, by simp, ⟨by have := hig.out; omega⟩, ⟨fun j hj => ?_⟩, ⟨HH2.out⟩, ⟨HB2.out⟩⟩
                  rcases Nat.lt_succ_iff_lt_or_eq.1 hj with h | rfl
                  · exact hall.out j h
                  · rw [HXX.out, HYY.out]; simpa using hso'
              · have hso' : (x == y) = false := by simpa using hso
                have HX := Lib.hid (show R7 im = some (im.pages.length : Int) by
                  rw [← HSC.out]
                  refine scan_bad ?_
                  rw [HPR2.out, if_neg]
                  · rfl
                  · intro hcon
                    have := HTAIL.out.2 hcon i HI.out
                    rw [HXX.out, HYY.out] at this
                    exact hso this)
                clear hso
                go_wp2
                refine bx_tail 22 HW2.out (by kernel_rfl) (by kernel_rfl) ?_
                simp only [List.take_succ_cons, List.take_zero, List.drop_succ_cons, List.drop_zero]
                iterate 22 (refine bx_want (by kernel_rfl) (fun K hK => ?_); go_simp; refine hK _ ?_; clear hK K)
                refine bx_nil ?_
                go_wp2_with (go_at_call 77; refine (must_c _ _ _).mono ?_; rintro e w5 ⟨m1, m2, rfl⟩; first | (obtain rfl := m1 rfl; clear m1 m2) | (obtain rfl := m2 rfl; clear m1 m2))
                exact ⟨rfl, RuleP_bad HX.out HB2.out⟩
            · have hid : decide (i < l.length) = false := decide_eq_false hi
              have hid' : decide ((i : Int) < (l.length : Int)) = false := decide_eq_false (by omega)
              have HX := Lib.hid (show scan (pairR im) g1 (k + 1) = R7 im by
                rw [← HSC.out]
                refine (scan_ok ?_).symm
                rw [HPR2.out, if_pos]
                refine HTAIL.out.1 (fun j hj => hall.out j ?_)
                omega)
              have HBEL2 := Lib.hid hbel.out
              clear hi hall
              go_wp2
              go_roundg g1
              case measure => omega
              case rel => exact ⟨k + 1, by rw [HK1.out], ⟨by have := hkg.out; omega⟩, ⟨HX.out⟩, ⟨HBEL2.out⟩⟩
    · have hkd : decide ((k : Int) < (im.pairs.length : Int)) = false := decide_eq_false (by omega)
      have hkd' : decide (k < im.pairs.length) = false := decide_eq_false hk
      have HK := Lib.hid hk
      clear hk
      go_wp2
      go_end0
      refine RuleP_ok ?_ hbe.out
      have h := hsc.out
      rw [show gk = 0 from by have := HK.out; have := hkg.out; omega, scan] at h
      exact h.symm
end Go.Proofs.Ytkgedpcipaogjaa.WB
end
section
namespace Go.Proofs.Ytkgedpcipaogjaa.WB
open Go Go.RowKit Go.Proofs.YtkgedpcipaogjaaW.PrintWords Go.Proofs.YtkgedpcipaogjaaW.PrintLast Go.Proofs.YtkgedpcipaogjaaW.PrintMore
set_option linter.unusedVariables false
set_option linter.unusedSimpArgs false
section
variable {F : Nat → Prop} {gv : Nat} {im : Im} {s : Sl} {P : Value} {w : World}
theorem or_step {x b : Int} {k : Nat} (hx : 0 ≤ x ∧ x < 256 ^ k) (hb : 0 ≤ b ∧ b < 256) (hk : k < 8) : Go.bits .or .u64 x (IntKind.u64.wrap (b * 2 ^ (8 * k))) = x + b * 256 ^ k := by
  obtain ⟨n, rfl⟩ := Int.eq_ofNat_of_zero_le hx.1
  obtain ⟨m, rfl⟩ := Int.eq_ofNat_of_zero_le hb.1
  have hm : m < 256 := by omega
  have e256 : (256 : Nat) ^ k = 2 ^ (8 * k) := by rw [Nat.pow_mul]
  have hn : n < 2 ^ (8 * k) := by
    rw [← e256]
    have : ((256 : Int) ^ k) = ((256 ^ k : Nat) : Int) := by simp
    omega
  have e1 : ((m : Int)) * 2 ^ (8 * k) = ((m * 2 ^ (8 * k) : Nat) : Int) := by simp
  have hle : 2 ^ (8 * k) ≤ 2 ^ 56 := Nat.pow_le_pow_right (by decide) (by omega)
  have hm2 : m * 2 ^ (8 * k) ≤ 255 * 2 ^ 56 := Nat.mul_le_mul (by omega) hle
  rw [e1, wrap_u64_in (by omega) (by omega)]
  rw [Go.u64_or_nat _ _ (by omega) (by omega)]
  have e2 : n ||| m * 2 ^ (8 * k) = n + m * 2 ^ (8 * k) := by
    rw [Nat.or_comm, ← Nat.shiftLeft_eq, ← Nat.shiftLeft_add_eq_or_of_lt hn, Nat.add_comm]
  rw [e2]
  have e3 : ((256 : Int) ^ k) = ((2 ^ (8 * k) : Nat) : Int) := by rw [← e256]; simp
  rw [e3]
  simp
set_option maxRecDepth 100000 in
theorem word_c (h : V F gv im s P w) (off : Nat) (ho : off + 8 ≤ im.mem.length) (p : Int) (hp : p = im.base + off) (hpu : U64 p) :
    Calls Try.prog 87 #[.pointer (some ⟨gv, 0, none⟩), .int .u64 p] w fun e w' => e = .returned (.int .u64 (wordM im.mem off)) ∧ Drawn0 w w' := by
  obtain ⟨c0, c1, c2, c3, c4, c5, c6, c7, c8, c9⟩ := h.cell
  obtain ⟨ad, e, hF, hx⟩ := h.im.mem (by omega)
  have hl := h.im.wf.lmem
  have hca := h.im.cmem
  have hb := h.im.wf.mem
  rw [e] at c4
  have hw : IntKind.u64.wrap (p - im.base) = (off : Int) := by rw [hp, wrap_u64]; omega
  have hoI : (off : Int) ≤ (im.mem.length : Int) := by omega
  have HX := Lib.hid hx
  have HB := Lib.hid hb
  clear h hp hx hb
  go_enter Try.func87, Try.ntmps87
  go_wp2
  go_quiet (fail)
  go_wp2
  go_loopg [6, 22] 8 (fun g v u wr => ∃ k : Nat, v = .int .u64 (psum im.mem off k) ∧ u = .int .i64 (k : Int) ∧ Aside0 (k + g = 8) ∧ ∃ d, wr = w.drewN d)
  case atStart => exact ⟨0, rfl, rfl, ⟨rfl⟩, _, rfl⟩
  case round =>
    obtain ⟨k, rfl, rfl, hkg, d, rfl⟩ := hrel
    by_cases hk : k < 8
    · have hkI : (k : Int) < 8 := by omega
      have hkd : decide ((k : Int) < 8) = true := decide_eq_true hkI
      obtain ⟨g1, rfl⟩ : ∃ g1, gk = g1 + 1 := ⟨gk - 1, by have := hkg.out; omega⟩
      have hlen : k < im.mem.length - off := by omega
      have hlenI : (k : Int) < ((im.mem.length - off : Nat) : Int) := by omega
      obtain ⟨b, hb⟩ : ∃ b, im.mem.getD (off + k) 0 = b := ⟨_, rfl⟩
      have hbc : w.cell? ((ad.add off).add k) = some (.int .u8 b) := by rw [Addr.add_add, HX.out (off + k) (by omega), hb]
      have hbb : 0 ≤ b ∧ b < 256 := by
        rw [← hb]
        have : off + k < im.mem.length := by omega
        rw [List.getD_eq_getElem?_getD, List.getElem?_eq_getElem this]
        exact HB.out _ (List.getElem_mem this)
      have hbw : IntKind.u64.wrap b = b := wrap_u64_in hbb.1 (by omega)
      have hb2 : (w.drewN d).cell? ((ad.add off).add k) = some (.int .u8 b) := hbc
      have HBD := Lib.hid hb
      have HBB := Lib.hid hbb
      have HK := Lib.hid hk
      clear hb hbb hbc hk
      go_wp2
      go_roundg g1
      case measure => omega
      case rel =>
        refine ⟨k + 1, ?_, by simp, ⟨by have := hkg.out; omega⟩, _, rfl⟩
        congr 1
        rw [psum, HBD.out]
        exact or_step (psum_bd HB.out off k) HBB.out (by have := HK.out; omega)
    · have hkd : decide ((k : Int) < 8) = false := decide_eq_false (by omega)
      have HK := Lib.hid hk
      clear hk
      go_wp2
      go_ret
      refine ⟨?_, _, rfl⟩
      rw [wordM, show 8 = k from by have := HK.out; have := hkg.out; omega]
      rfl
end
end Go.Proofs.Ytkgedpcipaogjaa.WB
end
section
namespace Go.Proofs.Ytkgedpcipaogjaa.WB
open Go Go.RowKit Go.Proofs.YtkgedpcipaogjaaW.PrintWords Go.Proofs.YtkgedpcipaogjaaW.PrintLast Go.Proofs.YtkgedpcipaogjaaW.PrintMore Go.Proofs.Ytkgedpcipaogjaa.SetF
set_option linter.unusedVariables false
set_option linter.unusedSimpArgs false
def r8F (im : Im) (k : Nat) : Option Int := if (freeL im k).folB (im.heads.getD k 0) = true then none else some k
theorem open_one {im : Im} {i k k' : Nat} (h : im.openB i k = true) (h' : im.openB i k' = true) : k' = k := by
  have h1 := (open_t.1 h).2
  have h2 := (open_t.1 h').2
  omega
structure FolI (im : Im) (k g : Nat) (p b : Int) (acc : List Nat) : Prop where
  pu : U64 p
  bu : U64 b
  len : acc.length + g = im.n + 1
  fol : (freeL im k).fol g p b acc = (freeL im k).fol (im.n + 1) (im.heads.getD k 0) 0 []
  nodup : acc.Nodup
  sub : ∀ i ∈ acc, i < im.n ∧ im.openB i k = true
theorem FolI.pos {im : Im} {k g : Nat} {p b : Int} {acc : List Nat} (h : FolI im k g p b acc) : 0 < g := by
  have := nodup_len h.nodup (m := List.range im.n) (fun x hx => by simpa using (h.sub x hx).1)
  have h2 := h.len
  simp at this
  omega
theorem folB_none {im : Im} {k : Nat} (h : (freeL im k).fol (im.n + 1) (im.heads.getD k 0) 0 [] = none) : r8F im k = some (k : Int) := by
  unfold r8F
  have : (freeL im k).folB (im.heads.getD k 0) = false := by
    unfold Ln.folB
    have e : (freeL im k).fol ((freeL im k).n + 1) (im.heads.getD k 0) (freeL im k).bnul [] = none := h
    rw [e]
  rw [this]; rfl
theorem folB_some {im : Im} {k : Nat} {acc : List Nat} (h : (freeL im k).fol (im.n + 1) (im.heads.getD k 0) 0 [] = some acc) : (freeL im k).folB (im.heads.getD k 0) = true ↔ ∀ i, i < im.n → im.openB i k = true → i ∈ acc := by
  have e : (freeL im k).fol ((freeL im k).n + 1) (im.heads.getD k 0) (freeL im k).bnul [] = some acc := h
  unfold Ln.folB
  rw [e]
  simp only [List.all_eq_true, List.contains_eq_mem, decide_eq_true_eq, Ln.mem_all]
  exact ⟨fun h i h1 h2 => h i ⟨h1, h2⟩, fun h i h1 => h i h1.1 h1.2⟩
theorem fol_end {im : Im} {k g : Nat} {p b : Int} {acc : List Nat} (h : FolI im k g p b acc) (hp : p = 0) : (freeL im k).fol (im.n + 1) (im.heads.getD k 0) 0 [] = some acc := by
  have h0 := h.pos
  obtain ⟨g, rfl⟩ : ∃ m, g = m + 1 := ⟨g - 1, by omega⟩
  rw [← h.fol, Ln.fol, if_pos (show p = (freeL im k).nul from hp)]
theorem fol_no {im : Im} {k g : Nat} {p b : Int} {acc : List Nat} (h : FolI im k g p b acc) (hp : p ≠ 0) (hi : (freeL im k).idx p = none) : r8F im k = some (k : Int) := by
  have h0 := h.pos
  obtain ⟨g, rfl⟩ : ∃ m, g = m + 1 := ⟨g - 1, by omega⟩
  apply folB_none
  rw [← h.fol, Ln.fol, if_neg (show ¬ p = (freeL im k).nul from hp), hi]
theorem fol_bad {im : Im} {k g i : Nat} {p b : Int} {acc : List Nat} (h : FolI im k g p b acc) (hp : p ≠ 0) (hi : (freeL im k).idx p = some i) (hc : ¬ (acc.contains i = false ∧ wordM im.mem (4096 * i + 8) = b)) : r8F im k = some (k : Int) := by
  have h0 := h.pos
  obtain ⟨g, rfl⟩ : ∃ m, g = m + 1 := ⟨g - 1, by omega⟩
  apply folB_none
  rw [← h.fol, Ln.fol, if_neg (show ¬ p = (freeL im k).nul from hp), hi]
  exact if_neg hc
theorem fol_on {im : Im} {k g i : Nat} {p b : Int} {acc : List Nat} (hw : im.Wf) (h : FolI im k (g + 1) p b acc) (hp : p ≠ 0) (hi : (freeL im k).idx p = some i) (hin : i < im.n) (ho : im.openB i k = true) (hc : acc.contains i = false) (hb : wordM im.mem (4096 * i + 8) = b) : FolI im k g (wordM im.mem (4096 * i)) p (i :: acc) := by
  refine ⟨wordM_bd hw.mem _, h.pu, by have := h.len; simp only [List.length_cons]; omega, ?_, List.nodup_cons.2 ⟨by simpa using hc, h.nodup⟩, fun j hj => ?_⟩
  · rw [← h.fol, Ln.fol, if_neg (show ¬ p = (freeL im k).nul from hp), hi]
    exact (if_pos (show acc.contains i = false ∧ (freeL im k).pv i = b from ⟨hc, hb⟩)).symm
  · rcases List.mem_cons.1 hj with rfl | hj
    · exact ⟨hin, ho⟩
    · exact h.sub j hj
def SeenI (im : Im) (k : Nat) (acc : List Nat) (ws : List Int) : Prop := ∀ i, i < im.n → (bitN ws i = true ↔ (∃ k', k' < k ∧ im.openB i (k' : Nat) = true) ∨ i ∈ acc)
theorem SeenI.at_ {im : Im} {k : Nat} {acc : List Nat} {ws : List Int} (h : SeenI im k acc ws) {i : Nat} (hi : i < im.n) (ho : im.openB i k = true) : bitN ws i = acc.contains i := by
  rw [Bool.eq_iff_iff, h i hi, List.contains_eq_mem, decide_eq_true_eq]
  constructor
  · rintro (⟨k', h1, h2⟩ | h1)
    · have := open_one ho h2; omega
    · exact h1
  · exact Or.inr
theorem SeenI.put {im : Im} {k : Nat} {acc : List Nat} {ws : List Int} (h : SeenI im k acc ws) {i : Nat} (hl : i / 64 < ws.length) : SeenI im k (i :: acc) (Tz.putW ws i true) := by
  intro j hj
  rw [put_bit hl, Bool.or_eq_true, decide_eq_true_eq, h j hj, List.mem_cons]
  constructor
  · rintro (h | h | h)
    · exact Or.inr (Or.inl h)
    · exact Or.inl h
    · exact Or.inr (Or.inr h)
  · rintro (h | h | h)
    · exact Or.inr (Or.inl h)
    · exact Or.inl h
    · exact Or.inr (Or.inr h)
theorem SeenI.next {im : Im} {k g : Nat} {p b : Int} {acc : List Nat} {ws : List Int} (h : SeenI im k acc ws) (hf : FolI im k g p b acc) (ha : ∀ i, i < im.n → im.openB i k = true → i ∈ acc) : SeenI im (k + 1) [] ws := by
  intro j hj
  rw [h j hj]
  constructor
  · rintro (⟨k', h1, h2⟩ | h1)
    · exact Or.inl ⟨k', by omega, h2⟩
    · exact Or.inl ⟨k, by omega, (hf.sub j h1).2⟩
  · rintro (⟨k', h1, h2⟩ | h1)
    · by_cases e : k' = k
      · subst e; exact Or.inr (ha j hj h2)
      · exact Or.inl ⟨k', by omega, h2⟩
    · cases h1
theorem free_idx {im : Im} {k : Nat} {p : Int} (h : ¬ (im.base ≤ p ∧ p - im.base < im.mem.length ∧ p % 4096 = 0)) : (freeL im k).idx p = none := by
  simp only [freeL]
  rw [if_neg (fun hc => h ⟨hc.1, hc.2.1, hc.2.2.1⟩)]
theorem free_at {im : Im} {o r : Nat} (g : Geo im o r) {p : Int} (h : im.base ≤ p ∧ p - im.base < im.mem.length ∧ p % 4096 = 0) : ∃ i : Nat, p = im.base + 4096 * (i : Int) ∧ i < im.n ∧ 4096 * i + 16 ≤ im.mem.length ∧ ∀ k : Nat, (freeL im k).idx p = if im.openB i k = true then some i else none := by
  have hb := g.base
  have hm := g.mem
  rw [← g.n] at hm
  refine ⟨((p - im.base) / 4096).toNat, by omega, by omega, by omega, fun k => ?_⟩
  simp only [freeL]
  by_cases ho : im.openB ((p - im.base) / 4096).toNat k = true
  · rw [if_pos ⟨h.1, h.2.1, h.2.2, ho⟩, if_pos ho]
  · rw [if_neg (fun hc => ho hc.2.2.2), if_neg ho]
set_option maxRecDepth 100000 in
set_option maxHeartbeats 4000000 in
theorem free_c {F : Nat → Prop} {gv : Nat} {im : Im} {s : Sl} {P : Value} {w : World} (h : V F gv im s P w) (hF : ∀ b, F b → b < w.heap.size) (hgv : gv < w.heap.size) {o r : Nat} (hgeo : Geo im o r) :
    RuleB 59 gv w (R8 im) := by
  show Calls Try.prog 59 #[.pointer (some ⟨gv, 0, none⟩)] w (RuleP w (R8 im))
  have HV := Lib.hid h
  obtain ⟨c0, c1, c2, c3, c4, c5, c6, c7, c8, c9⟩ := h.cell
  have HWF := Lib.hid h.im.wf
  have hn9 : im.pages.length ≤ 1024 := hgeo.n1024
  have hhl : im.heads.length ≤ 9 := by have h1 := hgeo.heads; have h2 := hgeo.o8; omega
  have hp7 : im.heads.length = o + 1 := hgeo.heads
  obtain ⟨ah, eh, hFh, hxh⟩ := h.im.heads (by omega)
  rw [eh] at c7
  have HXH := Lib.hid hxh
  have HFH := Lib.hid hFh
  have HF := Lib.hid hF
  have HG := Lib.hid hgv
  have HGEO := Lib.hid hgeo
  have HN6 := Lib.hid (show im.pages.length ≤ 1048576 by omega)
  have HUH := Lib.hid (show ∀ k, k < im.heads.length → U64 (im.heads.getD k 0) from fun k hk => h.im.wf.heads _ (by rw [List.getD_eq_getElem?_getD, List.getElem?_eq_getElem hk]; exact List.getElem_mem hk))
  clear h hF hgv hgeo hxh hFh hp7 c0 c1 c2 c3 c4 c6 c8 c9
  go_enter Try.func59, Try.ntmps59
  go_wp2_with ((go_at_call 85; refine (newSN _ im.pages.length HN6.out).mono ?_; rintro e w1 ⟨sb, rfl, hsn⟩; have HSN := Lib.hid hsn; have k7 : w1.cell? ⟨gv, 7, none⟩ = some (.slice (some ah) im.heads.length s.d) := ((HV.out.keep (hsn.below.block _ HG.out) (fun b hb => hsn.below.block b (HF.out b hb))).cell.2.2.2.2.2.2.2.1).trans (by rw [eh]); clear hsn))
  clear c5 c7
  go_loopg [22] im.heads.length (fun g v wr => ∃ k : Nat, v = .int .i64 (k : Int) ∧ Aside0 (k + g = im.heads.length) ∧ Aside0 (scan (r8F im) g k = R8 im) ∧ ∃ ws, Aside0 (SN w sb im.pages.length ws wr) ∧ Aside0 (SeenI im k [] ws))
  case atStart =>
    refine ⟨0, rfl, ⟨by omega⟩, ⟨rfl⟩, _, ⟨HSN.out⟩, ⟨fun i _ => ?_⟩⟩
    rw [new_bit]
    simp
  case round =>
    obtain ⟨k, rfl, hkg, hsc, ws, hsn, hse⟩ := hrel
    by_cases hk : k < im.heads.length
    · have hkI : (k : Int) < (im.heads.length : Int) := by omega
      have hkd : decide ((k : Int) < (im.heads.length : Int)) = true := decide_eq_true hkI
      have hkd' : decide (k < im.heads.length) = true := decide_eq_true hk
      obtain ⟨g1, rfl⟩ : ∃ g1, gk = g1 + 1 := ⟨gk - 1, by have := hkg.out; omega⟩
      obtain ⟨hd, hhd⟩ : ∃ hd, im.heads.getD k 0 = hd := ⟨_, rfl⟩
      have ch : wr.cell? (ah.add k) = some (.int .u64 hd) := by
        rw [← hhd, ← HXH.out k hk]
        exact cell_keep (hsn.out.below.block _ (HF.out _ HFH.out))
      have HHD := Lib.hid hhd
      have HBAD := Lib.hid (show r8F im k = some (k : Int) → R8 im = some (k : Int) from fun h => hsc.out.symm.trans (scan_bad h))
      have HGOOD := Lib.hid (show r8F im k = none → scan (r8F im) g1 (k + 1) = R8 im from fun h => (scan_ok h).symm.trans hsc.out)
      have HF0 := Lib.hid (show FolI im k (im.n + 1) hd 0 [] from ⟨hhd ▸ HUH.out k hk, ⟨by omega, by omega⟩, by simp, by rw [hhd], List.nodup_nil, fun i hi => by cases hi⟩)
      have HK := Lib.hid hk
      have HSN1 := Lib.hid hsn.out
      have HSE1 := Lib.hid hse.out
      clear hk hhd hsc hsn hse
      go_wp2
      obtain ⟨wo, hwo⟩ : ∃ wo, wo = wr := ⟨_, rfl⟩
      subst hwo
      go_loopg [4, 5, 6, 7, 27, 28, 29, 30, 31, 32, 33, 34, 35, 36, 37, 38, 39, 40, 41, 42, 43, 44, 45, 46, 47, 48, 49, 50, 51, 52, 53, 54, 55, 56, 57, 58, 59, 60, 61, 62, 63, 64] (im.n + 1) (fun g v4 v5 _ _ _ _ _ _ _ _ _ _ _ _ _ _ _ _ _ _ _ _ _ _ _ _ _ _ _ _ _ _ _ _ _ _ _ _ _ _ _ _ wi => ∃ (p b : Int) (acc : List Nat) (ws2 : List Int), v4 = .int .u64 p ∧ v5 = .int .u64 b ∧ Aside0 (FolI im k g p b acc) ∧ Aside0 (SN w sb im.pages.length ws2 wi) ∧ Aside0 (SeenI im k acc ws2))
      case atStart => exact ⟨_, 0, [], ws, rfl, rfl, ⟨HF0.out⟩, ⟨HSN1.out⟩, ⟨HSE1.out⟩⟩
      case round =>
        obtain ⟨p, b, acc, ws2, rfl, rfl, hfo, hsn, hse⟩ := hrel
        have HFO := Lib.hid hfo.out
        have HSN2 := Lib.hid hsn.out
        have HSE2 := Lib.hid hse.out
        clear hfo hsn hse
        have HV2 := Lib.hid (show V F gv im s P wr from HV.out.keep (HSN2.out.below.block _ HG.out) (fun b hb => HSN2.out.below.block b (HF.out b hb)))
        obtain ⟨c0, c1, c2, c3, c4, c5, c6, c7, c8, c9⟩ := HV2.out.cell
        clear c0 c1 c2 c3 c4 c6 c7 c8 c9
        by_cases hp : p = 0
        · have hpd : (p != 0) = false := by simpa using hp
          have HP := Lib.hid hp
          have HFE := Lib.hid (fol_end HFO.out hp)
          have HBIT := Lib.hid (show ∀ i, i < im.n → im.openB i k = true → bitN ws2 i = acc.contains i from fun i h1 h2 => HSE2.out.at_ h1 h2)
          clear hp
          go_wp2
          clear c5
          obtain ⟨wo2, hwo2⟩ : ∃ wo2, wo2 = wr := ⟨_, rfl⟩
          subst hwo2
          go_loopg [8, 71, 72, 73, 74, 75, 76, 77, 78, 79, 80, 81, 82, 83, 84, 85, 86] im.pages.length (fun g _ v71 _ _ _ _ _ _ _ _ _ _ _ _ _ _ _ wi => ∃ j : Nat, v71 = .int .i64 (j : Int) ∧ Aside0 (j + g = im.pages.length) ∧ Aside0 (∀ i, i < j → im.openB i k = true → i ∈ acc) ∧ wi = wo2)
          case atStart => exact ⟨0, rfl, ⟨by omega⟩, ⟨fun i h => absurd h (Nat.not_lt_zero _)⟩, rfl⟩
          case round =>
            obtain ⟨j, rfl, hjg, hall, rfl⟩ := hrel
            by_cases hj : j < im.pages.length
            · have hjI : (j : Int) < (im.pages.length : Int) := by omega
              have hjd : decide ((j : Int) < (im.pages.length : Int)) = true := decide_eq_true hjI
              have hjd' : decide (j < im.pages.length) = true := decide_eq_true hj
              obtain ⟨g2, rfl⟩ : ∃ g2, gk = g2 + 1 := ⟨gk - 1, by have := hjg.out; omega⟩
              have hop := open_c HV2.out j hj (k : Int)
              have HGT := Lib.hid (HSN2.out.get j hj)
              have HJ := Lib.hid hj
              clear hj
              cases hb : im.openB j (k : Int) with
              | false =>
                rw [hb] at hop
                have HOP := Lib.hid hop
                have HB := Lib.hid hb
                clear hop hb
                go_wp2_with (first | (go_at_call 81; refine HOP.out.mono ?_; rintro e w7 ⟨rfl, rfl⟩) | (go_at_call 77; refine (must_c _ _ _).mono ?_; rintro e w5 ⟨m1, m2, rfl⟩; first | (obtain rfl := m1 rfl; clear m1 m2) | (obtain rfl := m2 rfl; clear m1 m2)))
                go_roundg g2
                case measure => omega
                case rel =>
                  refine ⟨j + 1, by simp, ⟨by have := hjg.out; omega⟩, ⟨fun i hi ho => ?_⟩, rfl⟩
                  rcases Nat.lt_succ_iff_lt_or_eq.1 hi with h | rfl
                  · exact hall.out i h ho
                  · rw [HB.out] at ho; cases ho
              | true =>
                rw [hb] at hop
                have HOP := Lib.hid hop
                have hgt := HGT.out
                have hbt := HBIT.out j HJ.out hb
                have HB := Lib.hid hb
                clear hop hb
                cases hc : bitN ws2 j with
                | false =>
                  rw [hc] at hgt hbt
                  have HGT2 := Lib.hid hgt
                  have HX := Lib.hid (HBAD.out (by
                    unfold r8F
                    rw [if_neg]
                    intro hcon
                    have hh := HFE.out
                    have := (folB_some hh).1 hcon j HJ.out HB.out
                    have h3 : acc.contains j = true := by simpa using this
                    rw [h3] at hbt; cases hbt))
                  clear hgt hbt hc
                  go_wp2_with (first | (go_at_call 81; refine HOP.out.mono ?_; rintro e w7 ⟨rfl, rfl⟩) | (go_at_call 83; refine HGT2.out.mono ?_; rintro e w8 ⟨rfl, rfl⟩) | (go_at_call 77; refine (must_c _ _ _).mono ?_; rintro e w5 ⟨m1, m2, rfl⟩; first | (obtain rfl := m1 rfl; clear m1 m2) | (obtain rfl := m2 rfl; clear m1 m2)))
                  exact ⟨rfl, RuleP_bad HX.out HSN2.out.below⟩
                | true =>
                  rw [hc] at hgt hbt
                  have HGT2 := Lib.hid hgt
                  have HM := Lib.hid (show j ∈ acc by simpa using hbt.symm)
                  clear hgt hbt hc
                  go_wp2_with (first | (go_at_call 81; refine HOP.out.mono ?_; rintro e w7 ⟨rfl, rfl⟩) | (go_at_call 83; refine HGT2.out.mono ?_; rintro e w8 ⟨rfl, rfl⟩) | (go_at_call 77; refine (must_c _ _ _).mono ?_; rintro e w5 ⟨m1, m2, rfl⟩; first | (obtain rfl := m1 rfl; clear m1 m2) | (obtain rfl := m2 rfl; clear m1 m2)))
                  go_roundg g2
                  case measure => omega
                  case rel =>
                    refine ⟨j + 1, by simp, ⟨by have := hjg.out; omega⟩, ⟨fun i hi ho => ?_⟩, rfl⟩
                    rcases Nat.lt_succ_iff_lt_or_eq.1 hi with h | rfl
                    · exact hall.out i h ho
                    · exact HM.out
            · have hjd : decide ((j : Int) < (im.pages.length : Int)) = false := decide_eq_false (by omega)
              have hjd' : decide (j < im.pages.length) = false := decide_eq_false hj
              have HALL := Lib.hid (show ∀ i, i < im.n → im.openB i k = true → i ∈ acc from fun i h1 h2 => hall.out i (Nat.lt_of_lt_of_le h1 (by unfold Im.n; omega)) h2)
              have HX := Lib.hid (HGOOD.out (by
                unfold r8F
                rw [if_pos]
                have hh := HFE.out
                exact (folB_some hh).2 HALL.out))
              have HSE3 := Lib.hid (HSE2.out.next HFO.out HALL.out)
              clear hj hall
              go_wp2
              go_roundg g1
              case measure => omega
              case rel => exact ⟨k + 1, by simp, ⟨by have := hkg.out; omega⟩, ⟨HX.out⟩, ws2, ⟨HSN2.out⟩, ⟨HSE3.out⟩⟩
        · have hpd : (p != 0) = true := by simpa using hp
          have HP := Lib.hid hp
          obtain ⟨g2, rfl⟩ : ∃ g2, gk = g2 + 1 := ⟨gk - 1, by have := HFO.out.pos; omega⟩
          have hpu := HFO.out.pu
          by_cases hin : im.base ≤ p ∧ p - im.base < im.mem.length ∧ p % 4096 = 0
          · obtain ⟨i, hpi, hi, h16, hidx⟩ := free_at HGEO.out hin
            have hidx := hidx k
            have HPG := Lib.hid (page_yes HV2.out p hpu i hpi (by omega) hin.2.2)
            have HOPW := Lib.hid (show ∀ wx : World, wx.heap = wr.heap → Calls Try.prog 81 #[.pointer (some ⟨gv, 0, none⟩), .int .i64 (i : Int), .int .i64 (k : Int)] wx fun e w' => e = .returned (.bool (im.openB i (k : Int))) ∧ w' = wx from fun wx hx => open_c (HV2.out.keep (by rw [hx]) (fun b _ => by rw [hx])) i hi (k : Int))
            have hw8 : IntKind.u64.wrap (p + 8) = p + 8 := wrap_u64_in (by have := hpu.1; omega) (by have h1 := HGEO.out.top; omega)
            have HW8 := Lib.hid (show ∀ wx : World, wx.heap = wr.heap → Calls Try.prog 87 #[.pointer (some ⟨gv, 0, none⟩), .int .u64 (p + 8)] wx fun e w' => e = .returned (.int .u64 (wordM im.mem (4096 * i + 8))) ∧ Drawn0 wx w' from fun wx hx => word_c (HV2.out.keep (by rw [hx]) (fun b _ => by rw [hx])) (4096 * i + 8) (by omega) (p + 8) (by rw [hpi]; simp; omega) ⟨by have := hpu.1; omega, by have h1 := HGEO.out.top; omega⟩)
            have HW0 := Lib.hid (show ∀ wx : World, Below w.heap.size w wx → Calls Try.prog 87 #[.pointer (some ⟨gv, 0, none⟩), .int .u64 p] wx fun e w' => e = .returned (.int .u64 (wordM im.mem (4096 * i))) ∧ Drawn0 wx w' from fun wx hx => word_c (HV.out.keep (hx.block _ HG.out) (fun b hb => hx.block b (HF.out b hb))) (4096 * i) (by omega) p (by rw [hpi]; simp) hpu)
            have HI := Lib.hid hi
            have HID := Lib.hid hidx
            have hiI : (i : Int) ≤ 1024 := by have h1 := HGEO.out.n1024; omega
            clear hin hpi h16 hidx hpu hi
            cases hb : im.openB i (k : Int) with
            | false =>
              have hop := HOPW.out
              rw [hb] at hop
              have HOP := Lib.hid hop
              have HX := Lib.hid (HBAD.out (fol_no HFO.out HP.out (by rw [HID.out, hb]; rfl)))
              clear hop hb hp HOPW
              go_wp2_with (first | (go_at_call 86; refine HPG.out.mono ?_; rintro e w6 ⟨rfl, d6, rfl⟩) | (go_at_call 81; refine (HOP.out _ (by exact rfl)).mono ?_; rintro e w7 ⟨rfl, rfl⟩) | (go_at_call 77; refine (must_c _ _ _).mono ?_; rintro e w5 ⟨m1, m2, rfl⟩; first | (obtain rfl := m1 rfl; clear m1 m2) | (obtain rfl := m2 rfl; clear m1 m2)))
              exact ⟨rfl, RuleP_bad HX.out (HSN2.out.drawn _).below⟩
            | true =>
              have hop := HOPW.out
              rw [hb] at hop
              have HOP := Lib.hid hop
              have hid2 := HID.out
              rw [hb, if_pos rfl] at hid2
              have HID2 := Lib.hid hid2
              have hbt := HSE2.out.at_ HI.out hb
              have HB := Lib.hid hb
              clear hop hb hp HOPW hid2
              cases hc : bitN ws2 i with
              | true =>
                rw [hc] at hbt
                have HGT := Lib.hid (show ∀ d, Calls Try.prog 83 #[.pointer (some ⟨sb, 0, none⟩), .int .i64 (i : Int)] (wr.drewN d) fun e w' => e = .returned (.bool true) ∧ w' = wr.drewN d from fun d => by have := (HSN2.out.drawn d).get i HI.out; rwa [hc] at this)
                have HX := Lib.hid (HBAD.out (fol_bad HFO.out HP.out HID2.out (fun h => by rw [h.1] at hbt; cases hbt)))
                clear hbt hc
                go_wp2_with (first | (go_at_call 86; refine HPG.out.mono ?_; rintro e w6 ⟨rfl, d6, rfl⟩) | (go_at_call 81; refine (HOP.out _ (by exact rfl)).mono ?_; rintro e w7 ⟨rfl, rfl⟩) | (go_at_call 83; refine (HGT.out _).mono ?_; rintro e w8 ⟨rfl, rfl⟩) | (go_at_call 77; refine (must_c _ _ _).mono ?_; rintro e w5 ⟨m1, m2, rfl⟩; first | (obtain rfl := m1 rfl; clear m1 m2) | (obtain rfl := m2 rfl; clear m1 m2)))
                exact ⟨rfl, RuleP_bad HX.out (HSN2.out.drawn _).below⟩
              | false =>
                rw [hc] at hbt
                have HGT := Lib.hid (show ∀ d, Calls Try.prog 83 #[.pointer (some ⟨sb, 0, none⟩), .int .i64 (i : Int)] (wr.drewN d) fun e w' => e = .returned (.bool false) ∧ w' = wr.drewN d from fun d => by have := (HSN2.out.drawn d).get i HI.out; rwa [hc] at this)
                have HBT := Lib.hid hbt.symm
                clear hbt hc
                have HON := Lib.hid (show wordM im.mem (4096 * i + 8) = b → FolI im k g2 (wordM im.mem (4096 * i)) p (i :: acc) from fun h => fol_on HWF.out HFO.out HP.out HID2.out HI.out HB.out HBT.out h)
                have HNO := Lib.hid (show ¬ wordM im.mem (4096 * i + 8) = b → R8 im = some (k : Int) from fun h => HBAD.out (fol_bad HFO.out HP.out HID2.out (fun hh => h hh.2)))
                generalize wordM im.mem (4096 * i + 8) = pvw at *
                generalize wordM im.mem (4096 * i) = nxw at *
                have tok : True := trivial
                by_cases hbb : pvw = b
                · have hd9 : (pvw == b) = true := by simpa using hbb
                  have HX := Lib.hid (HON.out hbb)
                  clear hbb HNO HON
                  go_wp2_with (first | (go_at_call 86; refine HPG.out.mono ?_; rintro e w6 ⟨rfl, d6, rfl⟩) | (go_at_call 81; refine (HOP.out _ (by exact rfl)).mono ?_; rintro e w7 ⟨rfl, rfl⟩) | (go_at_call 83; refine (HGT.out _).mono ?_; rintro e w8 ⟨rfl, rfl⟩) | (go_at_call 87; have _t := tok; refine (HW8.out _ (by exact rfl)).mono ?_; rintro e w9 ⟨rfl, d9, rfl⟩; clear tok) | (go_at_call 77; refine (must_c _ _ _).mono ?_; rintro e w5 ⟨m1, m2, rfl⟩; first | (obtain rfl := m1 rfl; clear m1 m2) | (obtain rfl := m2 rfl; clear m1 m2)) | (go_at_call 88; refine ((SN.drawn HSN2.out _).put i HI.out).mono ?_; rintro e w10 ⟨rfl, hs10⟩; have HS10 := Lib.hid hs10; clear hs10) | (go_at_call 87; refine (HW0.out _ HS10.out.below).mono ?_; rintro e w11 ⟨rfl, d11, rfl⟩))
                  go_roundg g2
                  case measure => omega
                  case rel => exact ⟨nxw, p, i :: acc, _, rfl, rfl, ⟨HX.out⟩, ⟨HS10.out.drawn _⟩, ⟨HSE2.out.put (HSN2.out.len HI.out)⟩⟩
                · have hd9 : (pvw == b) = false := by simpa using hbb
                  have HX := Lib.hid (HNO.out hbb)
                  clear hbb HNO HON
                  go_wp2_with (first | (go_at_call 86; refine HPG.out.mono ?_; rintro e w6 ⟨rfl, d6, rfl⟩) | (go_at_call 81; refine (HOP.out _ (by exact rfl)).mono ?_; rintro e w7 ⟨rfl, rfl⟩) | (go_at_call 83; refine (HGT.out _).mono ?_; rintro e w8 ⟨rfl, rfl⟩) | (go_at_call 87; have _t := tok; refine (HW8.out _ (by exact rfl)).mono ?_; rintro e w9 ⟨rfl, d9, rfl⟩; clear tok) | (go_at_call 77; refine (must_c _ _ _).mono ?_; rintro e w5 ⟨m1, m2, rfl⟩; first | (obtain rfl := m1 rfl; clear m1 m2) | (obtain rfl := m2 rfl; clear m1 m2)))
                  exact ⟨rfl, RuleP_bad HX.out (SN.drawn HSN2.out _).below⟩
          · have HPG := Lib.hid (page_no HV2.out p hpu hin)
            have HX := Lib.hid (HBAD.out (fol_no HFO.out hp (free_idx hin)))
            clear hp hin hpu
            go_wp2_with (first | (go_at_call 86; refine HPG.out.mono ?_; rintro e w6 ⟨rfl, d6, rfl⟩) | (go_at_call 77; refine (must_c _ _ _).mono ?_; rintro e w5 ⟨m1, m2, rfl⟩; first | (obtain rfl := m1 rfl; clear m1 m2) | (obtain rfl := m2 rfl; clear m1 m2)))
            exact ⟨rfl, RuleP_bad HX.out (HSN2.out.drawn _).below⟩
    · have hkd : decide ((k : Int) < (im.heads.length : Int)) = false := decide_eq_false (by omega)
      have hkd' : decide (k < im.heads.length) = false := decide_eq_false hk
      have HK := Lib.hid hk
      clear hk
      go_wp2
      go_end0
      refine RuleP_ok ?_ hsn.out.below
      have h := hsc.out
      rw [show gk = 0 from by have := HK.out; have := hkg.out; omega, scan] at h
      exact h.symm
end Go.Proofs.Ytkgedpcipaogjaa.WB
end
section
set_option linter.unusedVariables false
namespace Go.Proofs.Ytkgedpcipaogjaa.WB
open Go
section
variable {P : Program} {ops : Array Oper} {md : Region.Mode} {C : World → Prop}
def HeadQ (P : Program) (md : Region.Mode) (ops : Array Oper) (C : World → Prop) (n : Nat) (L : Array Bool → Act → Prop) : Nat → Array Bool → Act → Prop
  | 0, t, a => L t a
  | f + 1, t, a => Region.ready md ops t ≠ [] ∧ ∀ i ∈ Region.ready md ops t, i < n ∧ qOp P ops C i (HeadQ P md ops C n L f (t.setIfInBounds i true)) a
theorem HeadQ.any {n g : Nat} {L : Array Bool → Act → Prop} {Q' : Exit → Act → World → Prop} (hL : ∀ t a w, C w → L t a → wpAny P md ops Q' g t a w) : ∀ (f : Nat) (t : Array Bool) (a : Act) (w : World), C w → HeadQ P md ops C n L f t a → wpAny P md ops Q' (f + g) t a w := by
  intro f
  induction f with
  | zero => intro t a w hw h; rw [Nat.zero_add]; exact hL _ _ _ hw h
  | succ f ih =>
    intro t a w hw h
    rw [show f + 1 + g = (f + g) + 1 by omega]
    exact ⟨fun h0 => absurd h0 h.1, fun i hi => wpOp_of_qOp hw (fun a' w' hw' h' => ih _ a' w' hw' h') (h.2 i hi).2⟩
theorem not_waits {i : Nat} {t : Array Bool} (hr : i ∈ Region.ready md ops t) {oj : Oper} (hall : ∀ e ∈ oj.after, Region.binds md e = true → t.getD e.on false = true) : ∀ e ∈ oj.after, Region.binds md e = true → e.on ≠ i := by
  intro e he hb heq
  have h1 := hall e he hb
  rw [heq, getD_both (mem_ready.1 hr).1] at h1
  cases h1
theorem HeadQ.first {n i : Nat} {oi : Oper} {v : Value} {L : Array Bool → Act → Prop} (hi : ops[i]? = some oi) (hsel : ∀ (j : Nat) (o : Oper) cs b, ops[j]? = some o → o.op ≠ .select cs b)
    (hs : Region.sinkB md ops n = true) (hc : Region.chainB md ops n = true) (hn : n < ops.size) (hin : i < n) (hdone : ∀ t a, L t a → ∀ j ∈ Region.ready md ops t, n ≤ j) :
    ∀ (f : Nat) (t : Array Bool) (a : Act), HeadInv md ops n t →
      (∀ j oj, ops[j]? = some oj → j ≠ i → t.getD j true = false → (∀ e ∈ oj.after, Region.binds md e = true → e.on ≠ i) → oi.apart ops oj = true) →
      i ∈ Region.ready md ops t → YieldsIn P ops C oi v a → HeadQ P md ops C n L f (t.setIfInBounds i true) (a.put oi.dst v) → HeadQ P md ops C n L (f + 1) t a := by
  intro f
  induction f with
  | zero =>
    intro t a inv _ hr hy H
    refine ⟨(fun h => (by rw [h] at hr; cases hr)), fun j hj => ?_⟩
    have hjn : j < n := Nat.lt_of_not_le (fun h => absurd hj (tail_waits hs hc hn inv _ i rfl hin (mem_ready.1 hr).1 j h))
    refine ⟨hjn, ?_⟩
    by_cases hji : j = i
    · subst hji; exact hy.qOp hi H
    · have := hdone _ _ H j (ready_mono hj hji)
      omega
  | succ f ih =>
    intro t a inv hfree hr hy H
    refine ⟨(fun h => (by rw [h] at hr; cases hr)), fun j hj => ?_⟩
    have hjn : j < n := Nat.lt_of_not_le (fun h => absurd hj (tail_waits hs hc hn inv _ i rfl hin (mem_ready.1 hr).1 j h))
    refine ⟨hjn, ?_⟩
    by_cases hji : j = i
    · subst hji; exact hy.qOp hi H
    · obtain ⟨hjun, oj, hoj, hall⟩ := mem_ready.1 hj
      have h2 := qOp_put hoj (hfree j oj hoj hji hjun (not_waits hr hall)) (fun cs b => hsel i oi cs b hi) (fun cs b => hsel j oj cs b hoj) hy (H.2 j (ready_mono hj hji)).2
      refine qOp_mono (fun a' h3 => ih (t.setIfInBounds j true) a' (inv.set hj hjn) (fun k ok hk hki hun hno => hfree k ok hk hki ?_ hno) (ready_mono hr (Ne.symm hji)) h3.1 ?_) h2
      · by_cases hjk : j = k
        · subst hjk; exact hjun
        · rwa [getD_set_ne true hjk] at hun
      · rw [Array.setIfInBounds_comm _ _ hji]
        exact h3.2
theorem HeadQ.lex {n g : Nat} {Lq : Act → Prop} (hsel : Region.noSelect ops = true) (hs : Region.sinkB md ops n = true) (hc : Region.chainB md ops n = true) (hn : n < ops.size) :
    ∀ (l : List Oper) (k : Nat) (t : Array Bool) (a : Act), (∀ j, j < l.length → l[j]? = ops[k + j]?) → k + l.length = n → HeadInv md ops n t → Region.lexHead md ops g l.length k t = true → wpQuiet P ops C Lq l a →
      HeadQ P md ops C n (fun t' a' => Region.seqB md ops g n t' = true ∧ Lq a') l.length t a := by
  intro l
  induction l with
  | nil =>
    intro k t a _ hk _ hB h
    obtain rfl : k = n := by simpa using hk
    exact ⟨by simpa [Region.lexHead] using hB, h⟩
  | cons o l ih =>
    intro k t a hl hk inv hB h
    have h0 : ops[k]? = some o := by simpa using (hl 0 (by simp)).symm
    simp only [List.length_cons, Region.lexHead, Bool.and_eq_true] at hB
    obtain ⟨⟨hr, hf⟩, hB'⟩ := hB
    have hkn : k < n := by simp only [List.length_cons] at hk; omega
    have hr' : k ∈ Region.ready md ops t := by simpa using hr
    have hq : qOp P ops C k (wpQuiet P ops C Lq l) a := by unfold qOp; simp only [h0]; exact h
    obtain ⟨v, hy, hK⟩ := yieldsIn_of_qOp h0 hq
    exact HeadQ.first h0 (Region.noSelect_spec hsel) hs hc hn hkn (fun t' a' hL => seqB_ready hL.1) l.length t a inv (Region.free_spec h0 hf) hr' hy
      (ih (k + 1) _ _ (fun j hj => by have := hl (j + 1) (by simp; omega); simpa [Nat.add_assoc, Nat.add_comm 1 j] using this) (by simp only [List.length_cons] at hk; omega) (inv.set hr' hkn) hB' hK)
end
theorem quiet_tail {P : Program} {id : Nat} {Q : Exit → Act → World → Prop} {a : Act} {w : World} {l : List Oper} (n : Nat) (hm : P.follows .mixedOrders = true) (hB : Region.lexTailB .any l.toArray n = true)
    (h : wpQuiet P l.toArray (fun w' => ∃ n, w' = w.drewN n) (fun a' => ∀ w', (∃ n, w' = w.drewN n) → wpList P l.toArray Q (l.drop n) a' w') (l.take n) a) : (Code.region id l.toArray true).wp P Q a w := by
  simp only [Region.lexTailB, Bool.and_eq_true, decide_eq_true_eq] at hB
  obtain ⟨⟨⟨⟨hsel, hn⟩, hs⟩, hc⟩, hlex⟩ := hB
  have hn' : n < l.length := by simpa using hn
  have htl : (l.take n).length = n := by simp; omega
  have hdl : (l.drop n).length = l.toArray.size - n := by simp
  have inv0 : HeadInv .any l.toArray n (Array.replicate l.toArray.size false) :=
    ⟨by simp, fun j oj _ hl => (by rw [getD_replicate_false] at hl; cases hl), fun t _ ht => getD_in (by simpa using ht) (getD_replicate_false _ _)⟩
  have H := HeadQ.lex (md := .any) (g := l.toArray.size - n) hsel hs hc hn (l.take n) 0 _ a (fun j hj => by
    have hj' : j < n := by rw [htl] at hj; exact hj
    simp [hj']) (by simpa using htl) inv0 (by rw [htl]; exact hlex) h
  refine wp_region_any hm ?_
  have := HeadQ.any (Q' := Q) (g := l.toArray.size - n) (fun t a' w' hw hL => by
    have := wpAny_of_seq (md := .any) (Q' := Q) (l.drop n) n t a' w' (fun j => by simp [List.getElem?_drop]) (by rw [hdl]; exact hL.1) (hL.2 w' hw)
    rwa [hdl] at this) _ _ _ { w with drawn := w.drawn + 1 } ⟨1, rfl⟩ H
  rw [htl, show n + (l.toArray.size - n) = l.toArray.size by omega] at this
  exact this
end Go.Proofs.Ytkgedpcipaogjaa.WB
end
section
namespace Go.Proofs.Ytkgedpcipaogjaa.WB
open Go Go.RowKit Go.Proofs.YtkgedpcipaogjaaW.PrintWords Go.Proofs.YtkgedpcipaogjaaW.PrintLast Go.Proofs.YtkgedpcipaogjaaW.PrintMore Go.Proofs.Ytkgedpcipaogjaa.SetF Go.BigFrame
set_option linter.unusedVariables false
set_option linter.unusedSimpArgs false
def r9F (im : Im) (i : Nat) : Option Int := if (im.pg i).kd = 4 ∧ cellsB im i = false then some i else none
structure CfI (n : Nat) (lv : Nat → Bool) (nx : Nat → Nx) (fs : Int) (g : Nat) (i : Int) (acc : List Nat) : Prop where
  len : acc.length + g = n + 1
  fol : cfol n lv nx g i acc = cfol n lv nx (n + 1) fs []
  nodup : acc.Nodup
  sub : ∀ c ∈ acc, c < n
section
variable {n : Nat} {lv : Nat → Bool} {nx : Nat → Nx} {fs : Int} {g : Nat} {i : Int} {acc : List Nat}
theorem CfI.start (n : Nat) (lv : Nat → Bool) (nx : Nat → Nx) (fs : Int) : CfI n lv nx fs (n + 1) fs [] := ⟨by simp, rfl, List.nodup_nil, fun c hc => by cases hc⟩
theorem CfI.pos (h : CfI n lv nx fs g i acc) : 0 < g := by
  have := nodup_len h.nodup (m := List.range n) (fun x hx => by simpa using h.sub x hx)
  have h2 := h.len
  simp at this
  omega
theorem CfI.end_ (h : CfI n lv nx fs g i acc) (hi : i = -1) : cfol n lv nx (n + 1) fs [] = some acc := by
  have h0 := h.pos
  obtain ⟨g, rfl⟩ : ∃ m, g = m + 1 := ⟨g - 1, by omega⟩
  rw [← h.fol, cfol, if_pos hi]
theorem CfI.no (h : CfI n lv nx fs g i acc) (hi : i ≠ -1) (hc : ¬ (0 ≤ i ∧ i < n ∧ lv i.toNat = false ∧ acc.contains i.toNat = false)) : cfol n lv nx (n + 1) fs [] = none := by
  have h0 := h.pos
  obtain ⟨g, rfl⟩ : ∃ m, g = m + 1 := ⟨g - 1, by omega⟩
  rw [← h.fol, cfol, if_neg hi, if_neg hc]
theorem CfI.fin {c : Nat} (h : CfI n lv nx fs g (c : Int) acc) (hc : c < n) (hl : lv c = false) (ha : acc.contains c = false) (hn : nx c = .fin) : cfol n lv nx (n + 1) fs [] = some (c :: acc) := by
  have h0 := h.pos
  obtain ⟨g, rfl⟩ : ∃ m, g = m + 1 := ⟨g - 1, by omega⟩
  rw [← h.fol, cfol, if_neg (by omega), if_pos ⟨by omega, by omega, by rw [Int.toNat_natCast]; exact hl, by rw [Int.toNat_natCast]; exact ha⟩, Int.toNat_natCast, hn]
theorem CfI.bad {c : Nat} (h : CfI n lv nx fs g (c : Int) acc) (hc : c < n) (hl : lv c = false) (ha : acc.contains c = false) (hn : nx c = .bad) : cfol n lv nx (n + 1) fs [] = none := by
  have h0 := h.pos
  obtain ⟨g, rfl⟩ : ∃ m, g = m + 1 := ⟨g - 1, by omega⟩
  rw [← h.fol, cfol, if_neg (by omega), if_pos ⟨by omega, by omega, by rw [Int.toNat_natCast]; exact hl, by rw [Int.toNat_natCast]; exact ha⟩, Int.toNat_natCast, hn]
theorem CfI.on {c j : Nat} (h : CfI n lv nx fs (g + 1) (c : Int) acc) (hc : c < n) (hl : lv c = false) (ha : acc.contains c = false) (hn : nx c = .onto j) : CfI n lv nx fs g (j : Int) (c :: acc) := by
  refine ⟨by have := h.len; simp only [List.length_cons]; omega, ?_, List.nodup_cons.2 ⟨by simpa using ha, h.nodup⟩, fun x hx => ?_⟩
  · rw [← h.fol]
    conv => rhs; rw [cfol, if_neg (by omega), if_pos ⟨by omega, by omega, by rw [Int.toNat_natCast]; exact hl, by rw [Int.toNat_natCast]; exact ha⟩, Int.toNat_natCast, hn]
  · rcases List.mem_cons.1 hx with rfl | hx
    · exact hc
    · exact h.sub x hx
end
theorem nat_m1 (j : Nat) : -1 ≤ (j : Int) := by omega
theorem cn_cnt (f : Nat → Bool) : ∀ n, Tz.cn f n = cnt f n
  | 0 => rfl
  | n + 1 => by rw [Tz.cn, cnt, cn_cnt f n]
theorem cn_list {n : Nat} {f : Nat → Bool} {r : List Nat} (hn : r.Nodup) (hs : ∀ c ∈ r, c < n) (hf : ∀ c, c < n → f c = r.contains c) : Tz.cn f n = r.length := by
  rw [cn_cnt, cnt_filter]
  have h1 := nodup_len hn (m := (List.range n).filter f) (fun c hc => by
    rw [List.mem_filter, List.mem_range, hf c (hs c hc)]
    exact ⟨hs c hc, by simpa using hc⟩)
  have h2 := nodup_len (l := (List.range n).filter f) (List.nodup_range.sublist List.filter_sublist) (m := r) (fun c hc => by
    rw [List.mem_filter, List.mem_range] at hc
    rw [hf c hc.1] at hc
    simpa using hc.2)
  omega
theorem cellsB_of {im : Im} {k : Nat} {r : List Nat} (h : cfol (cellsN (im.pg k).cl) (im.pg k).bit (nxC im k) (cellsN (im.pg k).cl + 1) (im.pg k).fs [] = some r) : cellsB im k = decide ((r.length : Int) + (im.pg k).lv = cellsN (im.pg k).cl) := by unfold cellsB; rw [h]
theorem cellsB_no {im : Im} {k : Nat} (h : cfol (cellsN (im.pg k).cl) (im.pg k).bit (nxC im k) (cellsN (im.pg k).cl + 1) (im.pg k).fs [] = none) : cellsB im k = false := by unfold cellsB; rw [h]
theorem V.of9 {F : Nat → Prop} {gv : Nat} {im : Im} {s : Sl} {P : Value} {w wx : World} (hv : V F gv im s P w) (hF : ∀ b, F b → b < w.heap.size) (hg : gv < w.heap.size) (h : Below w.heap.size w wx) : V F gv im s P wx := hv.keep (h.block _ hg) (fun b hb => h.block b (hF b hb))
set_option maxRecDepth 100000 in
set_option maxHeartbeats 4000000 in
theorem cells_c {F : Nat → Prop} {gv : Nat} {im : Im} {s : Sl} {P : Value} {w : World} (h : V F gv im s P w) (hF : ∀ b, F b → b < w.heap.size) (hgv : gv < w.heap.size) {o r : Nat} (hgeo : Geo im o r) (hR : ∀ i, i < im.pages.length → Rng im.order ((im.n : Int) - 1) (im.pg i)) :
    RuleB 60 gv w (R9 im) := by
  show Calls Try.prog 60 #[.pointer (some ⟨gv, 0, none⟩)] w (RuleP w (R9 im))
  have HV := Lib.hid h
  obtain ⟨c0, c1, c2, c3, c4, c5, c6, c7, c8, c9⟩ := h.cell
  have hl := len_i64 h.im.wf
  have HF := Lib.hid hF
  have HG := Lib.hid hgv
  have HR := Lib.hid hR
  have HGEO := Lib.hid hgeo
  have HWF := Lib.hid h.im.wf
  have hn9 : im.pages.length ≤ 1024 := hgeo.n1024
  clear hR hgeo
  clear h hF hgv c0 c1 c2 c3 c4 c6 c7 c8 c9
  go_enter Try.func60, Try.ntmps60
  go_wp2
  clear c5
  go_loopg [17] im.pages.length (fun g v wr => ∃ k : Nat, v = .int .i64 (k : Int) ∧ Aside0 (k + g = im.pages.length) ∧ Aside0 (Below w.heap.size w wr) ∧ Aside0 (scan (r9F im) g k = R9 im))
  case atStart => exact ⟨0, rfl, ⟨by omega⟩, ⟨Below.refl _ _⟩, ⟨rfl⟩⟩
  case round =>
    obtain ⟨k, rfl, hkg, hbe, hsc⟩ := hrel
    by_cases hk : k < im.pages.length
    · have hkI : (k : Int) < (im.pages.length : Int) := by omega
      have hkd : decide ((k : Int) < (im.pages.length : Int)) = true := decide_eq_true hkI
      obtain ⟨g1, rfl⟩ : ∃ g1, gk = g1 + 1 := ⟨gk - 1, by have := hkg.out; omega⟩
      have hv : V F gv im s P wr := HV.out.keep (hbe.out.block _ HG.out) (fun b hb => hbe.out.block b (HF.out b hb))
      have hv2 : V F gv im s P (wr.alloc (pageO (im.pg k))) := hv.keep (Below.heap_alloc wr _ _ (Nat.lt_of_lt_of_le HG.out hbe.out.size)) (fun b hb => Below.heap_alloc wr _ _ (Nat.lt_of_lt_of_le (HF.out b hb) hbe.out.size))
      obtain ⟨ad, e, hF, p0, p1, p2, p3, p4, p5, p6, p7, p8, p9, p10⟩ := hv.page k hk
      rw [e]
      have HE := Lib.hid e
      have HBAD := Lib.hid (show ∀ pl, r9F im k = some pl → R9 im = some pl from fun pl h => hsc.out.symm.trans (scan_bad h))
      have HGOOD := Lib.hid (show r9F im k = none → scan (r9F im) g1 (k + 1) = R9 im from fun h => (scan_ok h).symm.trans hsc.out)
      have HK := Lib.hid hk
      have HB1 := Lib.hid (show Below w.heap.size w (wr.alloc (pageO (im.pg k))) from hbe.out.alloc hbe.out.size _)
      have HSZ := Lib.hid hbe.out.size
      clear hF e hk
      have hr := HR.out k HK.out
      have HSL := Lib.hid (slab_c hv2 k HK.out hr.cl.1 hr.cl.2)
      have HN1 := Lib.hid (blk_new wr (pageO (im.pg k)))
      have HV2 := Lib.hid hv2
      have HG2 := Lib.hid (show gv < (wr.alloc (pageO (im.pg k))).heap.size by have h1 := HG.out; have h2 := HSZ.out; simp; omega)
      have HF2 := Lib.hid (show ∀ b, F b → b < (wr.alloc (pageO (im.pg k))).heap.size from fun b hb => by have h1 := HF.out b hb; have h2 := HSZ.out; simp; omega)
      obtain ⟨c8, hc8, hc87, n1, n2, n3⟩ := cell_page hr.cl.1 hr.cl.2
      obtain ⟨p, hp⟩ : ∃ p, im.pg k = p := ⟨_, rfl⟩
      have HP := Lib.hid hp
      have HLVB := Lib.hid (show 0 ≤ p.lv ∧ p.lv ≤ 256 from hp ▸ hr.lv)
      have HFSB := Lib.hid (show -1 ≤ p.fs ∧ p.fs ≤ 255 from hp ▸ hr.fs)
      have hcz : cellZ (im.pg k) = 16 * 2 ^ (im.pg k).cl.toNat := rfl
      rw [hp] at p0 p1 p2 p3 p4 p5 p6 p7 p8 p9 p10 HSL HN1 HB1 HV2 HG2 HF2 hc8 n1 n2 n3 hcz
      obtain ⟨n, hn⟩ : ∃ n, cellsN p.cl = n := ⟨_, rfl⟩
      have HN := Lib.hid hn
      rw [hn] at HSL n1 n3
      obtain ⟨z, hz⟩ : ∃ z, 16 * 2 ^ p.cl.toNat = z := ⟨_, rfl⟩
      rw [hz] at n2 n3 hcz
      have hn256 : n ≤ 256 := by rw [n1]; have h : 2 ^ (8 - c8) ≤ 2 ^ 8 := Nat.pow_le_pow_right (by decide) (by omega); omega
      have hz16 : 16 ≤ z := by rw [n2]; have h : 2 ^ 4 ≤ 2 ^ (4 + c8) := Nat.pow_le_pow_right (by decide) (by omega); omega
      have hz2k : z ≤ 2048 := by rw [n2]; have h : 2 ^ (4 + c8) ≤ 2 ^ 11 := Nat.pow_le_pow_right (by decide) (by omega); omega
      have HN256 := Lib.hid hn256
      have HN6 := Lib.hid (show n ≤ 1048576 by omega)
      have HNZ := Lib.hid n3
      have hshl : IntKind.u64.wrap (16 * 2 ^ c8) = (z : Int) := by
        have e1 : (16 : Int) * 2 ^ c8 = ((16 * 2 ^ c8 : Nat) : Int) := by simp
        rw [e1, show 16 * 2 ^ c8 = z by rw [← hz, hc8, Int.toNat_natCast]]
        exact wrap_u64_in (by omega) (by omega)
      have HZ16 := Lib.hid hz16
      have HCZ := Lib.hid hcz
      obtain ⟨A, hA⟩ : ∃ A : Int, im.base + 4096 * (k : Int) = A := ⟨_, rfl⟩
      have HA := Lib.hid hA
      have hAb : 0 ≤ A ∧ A + 4096 ≤ 9223372036854775808 := by
        have h1 := HGEO.out.base0
        have h2 := HGEO.out.top
        have h3 := HGEO.out.mem
        rw [← HGEO.out.n] at h3
        have h4 : k < im.n := HK.out
        omega
      obtain ⟨hA0, hA1⟩ := hAb
      have hwA : IntKind.u64.wrap A = A := wrap_u64_in hA0 (by omega)
      have hMEM : 4096 * k + 4096 ≤ im.mem.length := by
        have h3 := HGEO.out.mem
        rw [← HGEO.out.n] at h3
        have h4 : k < im.n := HK.out
        omega
      have HMEM := Lib.hid hMEM
      have HCL := Lib.hid hc8
      have hpg : pageO p = .cells #[.int .i64 p.kd, .int .i64 p.od, .int .i64 (c8 : Int), .int .i64 p.lv, .int .i64 p.nx, .int .i64 p.pv, .int .i64 p.fs, .int .u64 p.b0, .int .u64 p.b1, .int .u64 p.b2, .int .u64 p.b3] 39 (0, 0) := by unfold pageO; rw [hc8]
      have HNA := HN1
      rw [hc8] at p2
      rw [hpg] at HSL HNA HB1 HV2 HG2 HF2
      have HB1' := HB1
      clear hp hn hv hv2 hr hc8 n1 n2 n3 hcz hz hpg hMEM hA hz2k hn256 hwA
      by_cases h4 : p.kd = 4
      case neg =>
        have hd4 : (p.kd == 4) = false := by simpa using h4
        have HX := Lib.hid (HGOOD.out (by unfold r9F; rw [HP.out]; exact if_neg (fun h => h4 h.1)))
        clear h4
        go_wp2_with (go_at_call 27; refine HSL.out.mono ?_; rintro e wS ⟨rfl, hb5⟩; have HB5 := Lib.hid hb5; clear hb5)
        rw [← HE.out]
        go_roundg g1
        case measure => omega
        case rel => exact ⟨k + 1, by simp, ⟨by have := hkg.out; omega⟩, ⟨HB1.out.trans (HB5.out.mono HB1.out.size)⟩, ⟨HX.out⟩⟩
      case pos =>
      have hd4 : (p.kd == 4) = true := by simpa using h4
      have H4 := Lib.hid h4
      clear h4
      have HBADC := Lib.hid (show cfol n p.bit (nxC im k) (n + 1) p.fs [] = none → R9 im = some (k : Int) from fun h => HBAD.out k (by unfold r9F; rw [HP.out, if_pos]; exact ⟨H4.out, cellsB_no (by rw [HP.out, HN.out]; exact h)⟩))
      have HCF0 := Lib.hid (CfI.start n p.bit (nxC im k) p.fs)
      go_wp2_with (first | (go_at_call 27; refine HSL.out.mono ?_; rintro e wS ⟨rfl, hb5⟩; have HB5 := Lib.hid hb5; clear hb5) | (go_at_call 85; refine (newSN _ n HN6.out).mono ?_; rintro e w6 ⟨sb, rfl, hs6⟩; have HS6 := Lib.hid hs6; obtain ⟨q0, q1, q2, q3, q4, q5, q6, -⟩ := page_var (p := ⟨p.kd, p.od, (c8 : Int), p.lv, p.nx, p.pv, p.fs, p.b0, p.b1, p.b2, p.b3⟩) ((hs6.below.block _ (by have := HB5.out.size; simp at this; omega)).trans ((HB5.out.block _ (by simp)).trans HNA.out)); clear hs6))
      have HBW5 := Lib.hid (show Below w.heap.size w wS from HB1.out.trans (HB5.out.mono HB1.out.size))
      have HV5 := Lib.hid (V.of9 HV2.out HF2.out HG2.out HB5.out)
      have HF5 := Lib.hid (show ∀ b, F b → b < wS.heap.size from fun b hb => by have h1 := HF.out b hb; have h2 := HBW5.out.size; omega)
      have HG5 := Lib.hid (show gv < wS.heap.size by have h1 := HG.out; have h2 := HBW5.out.size; omega)
      have HAD := Lib.hid (show ∀ d, Calls Try.prog 26 #[.pointer (some ⟨gv, 0, none⟩), .int .i64 (k : Int)] (w6.drewN d) fun e w' => e = .returned (.int .u64 A) ∧ ∃ q, w' = w6.drewN q from fun d => (address_c (V.of9 HV5.out HF5.out HG5.out (HS6.out.drawn d).below) k).mono (by
        rintro e w' ⟨rfl, rfl⟩
        refine ⟨?_, d, rfl⟩
        rw [HA.out, wrap_u64_in hA0 (by omega)]))
      go_quiet ((go_at_call 26; exact HAD.out _))
      go_wp2
      clear p0 p1 p2 p3 p4 p5 p6 p7 p8 p9 p10 q0 q1 q2 q4 q5 q6
      have HS6d := Lib.hid (HS6.out.drawn nq)
      obtain ⟨wo, hwo⟩ : ∃ wo, wo = wr := ⟨_, rfl⟩
      subst hwo
      go_loopg [9, 10, 40, 41, 42, 43, 44, 45, 46, 47, 48, 49, 50, 51, 52, 53, 54, 55, 56, 57, 58, 59, 60, 61, 62, 63, 64, 65, 66, 67, 68, 69, 70, 71, 72, 73, 74, 75, 76, 77, 78, 79, 80, 81, 82, 83, 84, 85, 86, 87, 88, 89, 90, 91, 92, 93, 94, 95] (n + 1) (fun g v9 _ _ _ _ _ _ _ _ _ _ _ _ _ _ _ _ _ _ _ _ _ _ _ _ _ _ _ _ _ _ _ _ _ _ _ _ _ _ _ _ _ _ _ _ _ _ _ _ _ _ _ _ _ _ _ _ _ wi => ∃ (i : Int) (acc : List Nat) (ws2 : List Int), v9 = .int .i64 i ∧ Aside0 (-1 ≤ i ∧ i ≤ 255) ∧ Aside0 (CfI n p.bit (nxC im k) p.fs g i acc) ∧ Aside0 (SN wS sb n ws2 wi) ∧ Aside0 (∀ c, c < n → bitN ws2 c = acc.contains c))
      case atStart => exact ⟨_, [], _, rfl, ⟨HFSB.out⟩, ⟨HCF0.out⟩, ⟨HS6d.out⟩, ⟨fun c _ => by rw [new_bit]; rfl⟩⟩
      case round =>
        obtain ⟨i, acc, ws2, rfl, hib, hcf, hsn, hbit⟩ := hrel
        have HCF := Lib.hid hcf.out
        have HSN2 := Lib.hid hsn.out
        have HBIT := Lib.hid hbit.out
        have HIB := Lib.hid hib.out
        clear hcf hsn hbit hib
        by_cases hi : i = -1
        · have hpd : (i != -1) = false := by simpa using hi
          have HRES := Lib.hid (HCF.out.end_ hi)
          have HND := Lib.hid HCF.out.nodup
          have HSUB := Lib.hid HCF.out.sub
          have HBIT9 := Lib.hid HBIT.out
          clear hi
          go_wp2
          obtain ⟨wX, hwX⟩ : ∃ wX, wX = wr := ⟨_, rfl⟩
          subst hwX
          have HS11 := HSN2
          have HRES2 := Lib.hid (cellsB_of (im := im) (k := k) (by rw [HP.out, HN.out]; exact HRES.out))
          have HCNT := Lib.hid (cn_list HND.out HSUB.out HBIT9.out)
          have HCT := Lib.hid (show ∀ d, Calls Try.prog 89 #[.pointer (some ⟨sb, 0, none⟩)] (wX.drewN d) fun e w' => e = .returned (.int .i64 (Tz.cn (bitN ws2) n : Nat)) ∧ ∃ q, w' = wX.drewN q from fun d => ((HS11.out.drawn d).count).mono (by rintro e w' ⟨rfl, q, rfl⟩; exact ⟨rfl, d + q, by simp⟩))
          rw [HCNT.out] at HCT
          have HCQ := HCT
          have HSZ9 := Lib.hid (HS11.out.below.size)
          have HL9 := Lib.hid (show (acc).length ≤ 256 by
            have := nodup_len HND.out (m := List.range n) (fun x hx => by simpa using HSUB.out x hx)
            have h2 := HN256.out
            simp at this
            try simp only [List.length_cons] at this ⊢
            omega)
          obtain ⟨-, -, -, q3, -, -, -, -⟩ := page_var (p := ⟨p.kd, p.od, (c8 : Int), p.lv, p.nx, p.pv, p.fs, p.b0, p.b1, p.b2, p.b3⟩) (show (wX).heap[wo.heap.size]? = some (pageO ⟨p.kd, p.od, (c8 : Int), p.lv, p.nx, p.pv, p.fs, p.b0, p.b1, p.b2, p.b3⟩) from (HS11.out.below.block _ (by have := HB5.out.size; simp at this; omega)).trans ((HB5.out.block _ (by simp)).trans HNA.out))
          generalize (acc).length = rl at *
          have hrl := HL9.out
          have hlv := HLVB.out
          have hsum : wrap64 ((rl : Int) + p.lv) = (rl : Int) + p.lv := by unfold wrap64; omega
          have hsum' : IntKind.i64.wrap ((rl : Int) + p.lv) = (rl : Int) + p.lv := by rw [i64_w]; exact hsum
          by_cases hfin : (rl : Int) + p.lv = (n : Int)
          · have hd20 : (((rl : Int) + p.lv) == (n : Int)) = true := by simpa using hfin
            have HX := Lib.hid (HGOOD.out (by unfold r9F; rw [HP.out, if_neg]; intro hcon; rw [HRES2.out, HP.out, HN.out, decide_eq_true hfin] at hcon; exact nomatch hcon.2))
            clear hfin
            refine quiet_tail 8 (by kernel_rfl) (by kernel_rfl) ?_
            simp only [List.take_succ_cons, List.take_zero, List.drop_succ_cons, List.drop_zero]
            repeat (go_big_quiet_step ((go_at_call 89; exact HCQ.out _)))
            refine wpQuiet_nil ?_
            intro wq hwq
            obtain ⟨nq, hwq⟩ := hwq
            subst hwq
            go_wp2_with (go_at_call 77; refine (must_c _ _ _).mono ?_; rintro e w5 ⟨m1, m2, rfl⟩; first | (obtain rfl := m1 rfl; clear m1 m2) | (obtain rfl := m2 rfl; clear m1 m2))
            go_wp2
            try rw [← HE.out]
            go_roundg g1
            case measure => omega
            case rel => exact ⟨k + 1, by simp, ⟨by have := hkg.out; omega⟩, ⟨pw_below_drewN (HBW5.out.trans (HS11.out.below.mono HBW5.out.size)) _⟩, ⟨HX.out⟩⟩
          · have hd20 : (((rl : Int) + p.lv) == (n : Int)) = false := by simpa using hfin
            have HX := Lib.hid (HBAD.out k (by unfold r9F; rw [HP.out, if_pos]; exact ⟨H4.out, by rw [HRES2.out, HP.out, HN.out]; exact decide_eq_false hfin⟩))
            clear hfin
            refine quiet_tail 8 (by kernel_rfl) (by kernel_rfl) ?_
            simp only [List.take_succ_cons, List.take_zero, List.drop_succ_cons, List.drop_zero]
            repeat (go_big_quiet_step ((go_at_call 89; exact HCQ.out _)))
            refine wpQuiet_nil ?_
            intro wq hwq
            obtain ⟨nq, hwq⟩ := hwq
            subst hwq
            go_wp2_with (go_at_call 77; refine (must_c _ _ _).mono ?_; rintro e w5 ⟨m1, m2, rfl⟩; first | (obtain rfl := m1 rfl; clear m1 m2) | (obtain rfl := m2 rfl; clear m1 m2))
            exact ⟨rfl, RuleP_bad HX.out (pw_below_drewN (HBW5.out.trans (HS11.out.below.mono HBW5.out.size)) _)⟩
        · have hpd : (i != -1) = true := by simpa using hi
          obtain ⟨c, rfl⟩ : ∃ c : Nat, i = (c : Int) := ⟨i.toNat, by have := HIB.out; omega⟩
          have hc255 : (c : Int) ≤ 255 := HIB.out.2
          have hc256 : c < 256 := by omega
          obtain ⟨g2, rfl⟩ : ∃ g2, gk = g2 + 1 := ⟨gk - 1, by have := HCF.out.pos; omega⟩
          by_cases hcn : c < n
          · have hd6 : decide (c < n) = true := decide_eq_true hcn
            have hd6' : decide ((c : Int) < (n : Int)) = true := decide_eq_true (by omega)
            have hlv := live_c (V.of9 HV5.out HF5.out HG5.out HSN2.out.below) k HK.out c hc256
            rw [HP.out] at hlv
            have HCN := Lib.hid hcn
            have hge := HSN2.out.get c hcn
            have hbt := HBIT.out c hcn
            clear hcn hi hc256
            cases hb : p.bit c with
            | true =>
              rw [hb] at hlv
              have HLV := Lib.hid hlv
              have HX := Lib.hid (HBADC.out (HCF.out.no (by omega) (fun h => by rw [Int.toNat_natCast, hb] at h; exact nomatch h.2.2.1)))
              clear hlv hb hge hbt
              go_wp2_with (first | (go_at_call 28; refine HLV.out.mono ?_; rintro e w7 ⟨rfl, rfl⟩) | (go_at_call 77; refine (must_c _ _ _).mono ?_; rintro e w5 ⟨m1, m2, rfl⟩; first | (obtain rfl := m1 rfl; clear m1 m2) | (obtain rfl := m2 rfl; clear m1 m2)))
              exact ⟨rfl, RuleP_bad HX.out (HBW5.out.trans (HSN2.out.below.mono HBW5.out.size))⟩
            | false =>
              rw [hb] at hlv
              have HLV := Lib.hid hlv
              have HB := Lib.hid hb
              clear hlv hb
              cases hs : bitN ws2 c with
              | true =>
                rw [hs] at hge hbt
                have HGE := Lib.hid hge
                have HX := Lib.hid (HBADC.out (HCF.out.no (by omega) (fun h => by rw [Int.toNat_natCast, ← hbt] at h; exact nomatch h.2.2.2)))
                clear hge hbt hs
                go_wp2_with (first | (go_at_call 28; refine HLV.out.mono ?_; rintro e w7 ⟨rfl, rfl⟩) | (go_at_call 83; refine HGE.out.mono ?_; rintro e w8 ⟨rfl, rfl⟩) | (go_at_call 77; refine (must_c _ _ _).mono ?_; rintro e w5 ⟨m1, m2, rfl⟩; first | (obtain rfl := m1 rfl; clear m1 m2) | (obtain rfl := m2 rfl; clear m1 m2)))
                exact ⟨rfl, RuleP_bad HX.out (HBW5.out.trans (HSN2.out.below.mono HBW5.out.size))⟩
              | false =>
                rw [hs] at hge hbt
                have HGE := Lib.hid hge
                have HACC := Lib.hid hbt.symm
                clear hge hbt hs
                obtain ⟨m, hm⟩ : ∃ m, c * z = m := ⟨_, rfl⟩
                have hmz : m + z ≤ 4096 := by
                  have h1 : (c + 1) * z ≤ n * z := Nat.mul_le_mul_right z HCN.out
                  rw [HNZ.out, Nat.add_mul, hm] at h1
                  omega
                have hwc : IntKind.u64.wrap (c : Int) = (c : Int) := wrap_u64_in (by omega) (by omega)
                have hmul : IntKind.u64.wrap ((c : Int) * (z : Int)) = (m : Int) := by
                  rw [← Int.natCast_mul, hm]
                  exact wrap_u64_in (by omega) (by omega)
                have hadd : IntKind.u64.wrap (A + (m : Int)) = A + (m : Int) := wrap_u64_in (by omega) (by omega)
                have HW0 := Lib.hid (show ∀ wx : World, Below wS.heap.size wS wx → Calls Try.prog 87 #[.pointer (some ⟨gv, 0, none⟩), .int .u64 (A + (m : Int))] wx fun e w' => e = .returned (.int .u64 (wordM im.mem (4096 * k + m))) ∧ Drawn0 wx w' from fun wx hx => word_c (V.of9 HV5.out HF5.out HG5.out hx) (4096 * k + m) (by have := HMEM.out; omega) (A + (m : Int)) (by rw [← HA.out]; simp; omega) ⟨by omega, by omega⟩)
                have HNX := Lib.hid (show nxC im k c = if wordM im.mem (4096 * k + m) = 0 then .fin else if A ≤ wordM im.mem (4096 * k + m) ∧ wordM im.mem (4096 * k + m) - A < 4096 ∧ wordM im.mem (4096 * k + m) % (z : Int) = 0 then .onto ((wordM im.mem (4096 * k + m) - A) / (z : Int)).toNat else .bad by
                  unfold nxC
                  rw [HP.out, HCZ.out, hm, HA.out])
                have HWV := Lib.hid (wordM_bd HWF.out.mem (4096 * k + m))
                generalize wordM im.mem (4096 * k + m) = wv at *
                have HBITP := Lib.hid (show ∀ x, x < n → bitN (Tz.putW ws2 c true) x = (c :: acc).contains x from fun x hx => by
                  rw [put_bit (HSN2.out.len HCN.out), HBIT.out x hx, List.contains_cons, Bool.eq_iff_iff]
                  simp)
                have HNDP := Lib.hid (show (c :: acc).Nodup from List.nodup_cons.2 ⟨by have := HACC.out; simpa using this, HCF.out.nodup⟩)
                have HSUBP := Lib.hid (show ∀ x ∈ (c :: acc), x < n from fun x hx => by
                  rcases List.mem_cons.1 hx with rfl | hx
                  · exact HCN.out
                  · exact HCF.out.sub x hx)
                clear hm hmz
                by_cases hw0 : wv = 0
                · have hd7 : (wv == 0) = true := by simpa using hw0
                  have HRES := Lib.hid (HCF.out.fin HCN.out HB.out HACC.out (by rw [HNX.out, if_pos hw0]))
                  have HND := HNDP
                  have HSUB := HSUBP
                  have HBIT9 := HBITP
                  clear hw0
                  go_wp2_with (first | (go_at_call 28; refine HLV.out.mono ?_; rintro e w7 ⟨rfl, rfl⟩) | (go_at_call 83; refine HGE.out.mono ?_; rintro e w8 ⟨rfl, rfl⟩) | (go_at_call 77; refine (must_c _ _ _).mono ?_; rintro e w5 ⟨m1, m2, rfl⟩; first | (obtain rfl := m1 rfl; clear m1 m2) | (obtain rfl := m2 rfl; clear m1 m2)) | (go_at_call 88; refine (HSN2.out.put c HCN.out).mono ?_; rintro e w10 ⟨rfl, hs10⟩; have HS10 := Lib.hid hs10; clear hs10) | (go_at_call 87; refine (HW0.out _ HS10.out.below).mono ?_; rintro e w11 ⟨rfl, d11, rfl⟩))
                  have hs11 := HS10.out.drawn d11
                  generalize w10.drewN d11 = wX at hs11 ⊢
                  have HS11 := Lib.hid hs11
                  clear hs11
                  have HRES2 := Lib.hid (cellsB_of (im := im) (k := k) (by rw [HP.out, HN.out]; exact HRES.out))
                  have HCNT := Lib.hid (cn_list HND.out HSUB.out HBIT9.out)
                  have HCT := Lib.hid (show ∀ d, Calls Try.prog 89 #[.pointer (some ⟨sb, 0, none⟩)] (wX.drewN d) fun e w' => e = .returned (.int .i64 (Tz.cn (bitN (Tz.putW ws2 c true)) n : Nat)) ∧ ∃ q, w' = wX.drewN q from fun d => ((HS11.out.drawn d).count).mono (by rintro e w' ⟨rfl, q, rfl⟩; exact ⟨rfl, d + q, by simp⟩))
                  rw [HCNT.out] at HCT
                  have HCQ := HCT
                  have HSZ9 := Lib.hid (HS11.out.below.size)
                  have HL9 := Lib.hid (show (c :: acc).length ≤ 256 by
                    have := nodup_len HND.out (m := List.range n) (fun x hx => by simpa using HSUB.out x hx)
                    have h2 := HN256.out
                    simp at this
                    try simp only [List.length_cons] at this ⊢
                    omega)
                  obtain ⟨-, -, -, q3, -, -, -, -⟩ := page_var (p := ⟨p.kd, p.od, (c8 : Int), p.lv, p.nx, p.pv, p.fs, p.b0, p.b1, p.b2, p.b3⟩) (show (wX).heap[wo.heap.size]? = some (pageO ⟨p.kd, p.od, (c8 : Int), p.lv, p.nx, p.pv, p.fs, p.b0, p.b1, p.b2, p.b3⟩) from (HS11.out.below.block _ (by have := HB5.out.size; simp at this; omega)).trans ((HB5.out.block _ (by simp)).trans HNA.out))
                  generalize (c :: acc).length = rl at *
                  have hrl := HL9.out
                  have hlv := HLVB.out
                  have hsum : wrap64 ((rl : Int) + p.lv) = (rl : Int) + p.lv := by unfold wrap64; omega
                  have hsum' : IntKind.i64.wrap ((rl : Int) + p.lv) = (rl : Int) + p.lv := by rw [i64_w]; exact hsum
                  by_cases hfin : (rl : Int) + p.lv = (n : Int)
                  · have hd20 : (((rl : Int) + p.lv) == (n : Int)) = true := by simpa using hfin
                    have HX := Lib.hid (HGOOD.out (by unfold r9F; rw [HP.out, if_neg]; intro hcon; rw [HRES2.out, HP.out, HN.out, decide_eq_true hfin] at hcon; exact nomatch hcon.2))
                    clear hfin
                    refine quiet_tail 8 (by kernel_rfl) (by kernel_rfl) ?_
                    simp only [List.take_succ_cons, List.take_zero, List.drop_succ_cons, List.drop_zero]
                    repeat (go_big_quiet_step ((go_at_call 89; exact HCQ.out _)))
                    refine wpQuiet_nil ?_
                    intro wq hwq
                    obtain ⟨nq, hwq⟩ := hwq
                    subst hwq
                    go_wp2_with (go_at_call 77; refine (must_c _ _ _).mono ?_; rintro e w5 ⟨m1, m2, rfl⟩; first | (obtain rfl := m1 rfl; clear m1 m2) | (obtain rfl := m2 rfl; clear m1 m2))
                    go_wp2
                    try rw [← HE.out]
                    go_roundg g1
                    case measure => omega
                    case rel => exact ⟨k + 1, by simp, ⟨by have := hkg.out; omega⟩, ⟨pw_below_drewN (HBW5.out.trans (HS11.out.below.mono HBW5.out.size)) _⟩, ⟨HX.out⟩⟩
                  · have hd20 : (((rl : Int) + p.lv) == (n : Int)) = false := by simpa using hfin
                    have HX := Lib.hid (HBAD.out k (by unfold r9F; rw [HP.out, if_pos]; exact ⟨H4.out, by rw [HRES2.out, HP.out, HN.out]; exact decide_eq_false hfin⟩))
                    clear hfin
                    refine quiet_tail 8 (by kernel_rfl) (by kernel_rfl) ?_
                    simp only [List.take_succ_cons, List.take_zero, List.drop_succ_cons, List.drop_zero]
                    repeat (go_big_quiet_step ((go_at_call 89; exact HCQ.out _)))
                    refine wpQuiet_nil ?_
                    intro wq hwq
                    obtain ⟨nq, hwq⟩ := hwq
                    subst hwq
                    go_wp2_with (go_at_call 77; refine (must_c _ _ _).mono ?_; rintro e w5 ⟨m1, m2, rfl⟩; first | (obtain rfl := m1 rfl; clear m1 m2) | (obtain rfl := m2 rfl; clear m1 m2))
                    exact ⟨rfl, RuleP_bad HX.out (pw_below_drewN (HBW5.out.trans (HS11.out.below.mono HBW5.out.size)) _)⟩
                · have hd7 : (wv == 0) = false := by simpa using hw0
                  have HBADX := Lib.hid (show ¬ (A ≤ wv ∧ wv - A < 4096 ∧ wv % (z : Int) = 0) → R9 im = some (k : Int) from fun h => HBADC.out (HCF.out.bad HCN.out HB.out HACC.out (by rw [HNX.out, if_neg hw0, if_neg h])))
                  have HONX := Lib.hid (show A ≤ wv ∧ wv - A < 4096 ∧ wv % (z : Int) = 0 → CfI n p.bit (nxC im k) p.fs g2 (((wv - A) / (z : Int)).toNat : Int) (c :: acc) from fun h => HCF.out.on HCN.out HB.out HACC.out (by rw [HNX.out, if_neg hw0, if_pos h]))
                  clear hw0
                  have hz3 : ¬ (z : Int) = 0 := by have := HZ16.out; omega
                  have hz4 : ¬ z = 0 := by have := HZ16.out; omega
                  by_cases hg1 : A ≤ wv
                  · have hd8 : decide (wv ≥ A) = true := decide_eq_true hg1
                    have hd8' : decide (A ≤ wv) = true := decide_eq_true hg1
                    obtain ⟨y, hy⟩ : ∃ y, wv - A = y := ⟨_, rfl⟩
                    have hsub : IntKind.u64.wrap (wv - A) = y := by rw [hy]; exact wrap_u64_in (by omega) (by have := HWV.out.2; omega)
                    have hy0 : 0 ≤ y := by omega
                    by_cases hg2 : y < 4096
                    · have hd9 : decide (y < 4096) = true := decide_eq_true hg2
                      have htm : Int.tmod wv (z : Int) = wv % (z : Int) := Int.tmod_eq_emod_of_nonneg HWV.out.1
                      obtain ⟨x, hx⟩ : ∃ x, wv % (z : Int) = x := ⟨_, rfl⟩
                      rw [hx] at htm
                      by_cases hg3 : x = 0
                      · have hd10 : (x == 0) = true := by simpa using hg3
                        obtain ⟨j, hj⟩ : ∃ j, (y / (z : Int)).toNat = j := ⟨_, rfl⟩
                        have hjy : y / (z : Int) = (j : Int) := by
                          have : 0 ≤ y / (z : Int) := Int.ediv_nonneg hy0 (by omega)
                          omega
                        have hj256 : (j : Int) ≤ 255 := by
                          rw [← hjy]
                          have h16 := HZ16.out
                          have h1 : y / (z : Int) ≤ 4095 / (z : Int) := Int.ediv_le_ediv (by omega) (by omega)
                          have h2 : (4095 : Int) / (z : Int) ≤ 255 := by
                            have h3 : (4095 : Int) / (z : Int) < 256 := Int.ediv_lt_of_lt_mul (by omega) (by omega)
                            omega
                          omega
                        have htd : Int.tdiv y (z : Int) = (j : Int) := by rw [Int.tdiv_eq_ediv_of_nonneg hy0]; exact hjy
                        have hwj : IntKind.u64.wrap (j : Int) = (j : Int) := wrap_u64_in (by omega) (by omega)
                        have hwj2 : wrap64 (j : Int) = (j : Int) := by unfold wrap64; omega
                        have HX := Lib.hid (HONX.out ⟨hg1, by omega, by rw [hx]; exact hg3⟩)
                        rw [hy, hj] at HX
                        have HJ := Lib.hid (show -1 ≤ (j : Int) ∧ (j : Int) ≤ 255 from ⟨nat_m1 j, hj256⟩)
                        have HWJ2 := Lib.hid hwj2
                        have hzp : 1 ≤ (z : Int) := by have := HZ16.out; omega
                        clear hg1 hg2 hg3 hy hx hj
                        go_wp2_with (first | (go_at_call 28; refine HLV.out.mono ?_; rintro e w7 ⟨rfl, rfl⟩) | (go_at_call 83; refine HGE.out.mono ?_; rintro e w8 ⟨rfl, rfl⟩) | (go_at_call 77; refine (must_c _ _ _).mono ?_; rintro e w5 ⟨m1, m2, rfl⟩; first | (obtain rfl := m1 rfl; clear m1 m2) | (obtain rfl := m2 rfl; clear m1 m2)) | (go_at_call 88; refine (HSN2.out.put c HCN.out).mono ?_; rintro e w10 ⟨rfl, hs10⟩; have HS10 := Lib.hid hs10; clear hs10) | (go_at_call 87; refine (HW0.out _ HS10.out.below).mono ?_; rintro e w11 ⟨rfl, d11, rfl⟩))
                        go_roundg g2
                        case measure => omega
                        case rel => exact ⟨(j : Int), c :: acc, _, congrArg (Value.int .i64) HWJ2.out, ⟨HJ.out⟩, ⟨HX.out⟩, ⟨HS10.out.drawn _⟩, ⟨HBITP.out⟩⟩
                      · have hd10 : (x == 0) = false := by simpa using hg3
                        have HX := Lib.hid (HBADX.out (fun h => hg3 (hx ▸ h.2.2)))
                        clear hg1 hg2 hg3 hy hx
                        go_wp2_with (first | (go_at_call 28; refine HLV.out.mono ?_; rintro e w7 ⟨rfl, rfl⟩) | (go_at_call 83; refine HGE.out.mono ?_; rintro e w8 ⟨rfl, rfl⟩) | (go_at_call 77; refine (must_c _ _ _).mono ?_; rintro e w5 ⟨m1, m2, rfl⟩; first | (obtain rfl := m1 rfl; clear m1 m2) | (obtain rfl := m2 rfl; clear m1 m2)) | (go_at_call 88; refine (HSN2.out.put c HCN.out).mono ?_; rintro e w10 ⟨rfl, hs10⟩; have HS10 := Lib.hid hs10; clear hs10) | (go_at_call 87; refine (HW0.out _ HS10.out.below).mono ?_; rintro e w11 ⟨rfl, d11, rfl⟩))
                        exact ⟨rfl, RuleP_bad HX.out (HBW5.out.trans ((HS10.out.drawn _).below.mono HBW5.out.size))⟩
                    · have hd9 : decide (y < 4096) = false := decide_eq_false hg2
                      have HX := Lib.hid (HBADX.out (fun h => hg2 (by omega)))
                      clear hg1 hg2 hy
                      go_wp2_with (first | (go_at_call 28; refine HLV.out.mono ?_; rintro e w7 ⟨rfl, rfl⟩) | (go_at_call 83; refine HGE.out.mono ?_; rintro e w8 ⟨rfl, rfl⟩) | (go_at_call 77; refine (must_c _ _ _).mono ?_; rintro e w5 ⟨m1, m2, rfl⟩; first | (obtain rfl := m1 rfl; clear m1 m2) | (obtain rfl := m2 rfl; clear m1 m2)) | (go_at_call 88; refine (HSN2.out.put c HCN.out).mono ?_; rintro e w10 ⟨rfl, hs10⟩; have HS10 := Lib.hid hs10; clear hs10) | (go_at_call 87; refine (HW0.out _ HS10.out.below).mono ?_; rintro e w11 ⟨rfl, d11, rfl⟩))
                      exact ⟨rfl, RuleP_bad HX.out (HBW5.out.trans ((HS10.out.drawn _).below.mono HBW5.out.size))⟩
                  · have hd8 : decide (wv ≥ A) = false := decide_eq_false hg1
                    have hd8' : decide (A ≤ wv) = false := decide_eq_false hg1
                    have HX := Lib.hid (HBADX.out (fun h => hg1 h.1))
                    clear hg1
                    go_wp2_with (first | (go_at_call 28; refine HLV.out.mono ?_; rintro e w7 ⟨rfl, rfl⟩) | (go_at_call 83; refine HGE.out.mono ?_; rintro e w8 ⟨rfl, rfl⟩) | (go_at_call 77; refine (must_c _ _ _).mono ?_; rintro e w5 ⟨m1, m2, rfl⟩; first | (obtain rfl := m1 rfl; clear m1 m2) | (obtain rfl := m2 rfl; clear m1 m2)) | (go_at_call 88; refine (HSN2.out.put c HCN.out).mono ?_; rintro e w10 ⟨rfl, hs10⟩; have HS10 := Lib.hid hs10; clear hs10) | (go_at_call 87; refine (HW0.out _ HS10.out.below).mono ?_; rintro e w11 ⟨rfl, d11, rfl⟩))
                    exact ⟨rfl, RuleP_bad HX.out (HBW5.out.trans ((HS10.out.drawn _).below.mono HBW5.out.size))⟩
          · have hd6 : decide (c < n) = false := decide_eq_false hcn
            have hd6' : decide ((c : Int) < (n : Int)) = false := decide_eq_false (by omega)
            have HX := Lib.hid (HBADC.out (HCF.out.no (by omega) (fun h => hcn (by omega))))
            clear hcn hi hc256
            go_wp2_with (go_at_call 77; refine (must_c _ _ _).mono ?_; rintro e w5 ⟨m1, m2, rfl⟩; first | (obtain rfl := m1 rfl; clear m1 m2) | (obtain rfl := m2 rfl; clear m1 m2))
            exact ⟨rfl, RuleP_bad HX.out (HBW5.out.trans (HSN2.out.below.mono HBW5.out.size))⟩
    · have hkd : decide ((k : Int) < (im.pages.length : Int)) = false := decide_eq_false (by omega)
      have HK := Lib.hid hk
      clear hk
      go_wp2
      go_end0
      refine RuleP_ok ?_ hbe.out
      have h := hsc.out
      rw [show gk = 0 from by have := HK.out; have := hkg.out; omega, scan] at h
      exact h.symm
end Go.Proofs.Ytkgedpcipaogjaa.WB
end
