/- Part 1 of what the rows of this seat rest on: words of the print that they need; how images, spaces, sets lie in memory; the functions walked. -/
import Derived.Test.YtkgedpcipaogjaaProg
import Derived.WalkKit
import Derived.WalkLawsBesides
import Derived.Below
import Derived.Defers
import Derived.Recover
import Derived.Lib.Hide
import Derived.Deep.Draws
import Derived.Deep.AppendLies
import Derived.Maps.AppendAt
import Derived.OwnWalk
import Derived.Laws.BytesArg
import Derived.Laws.MakeOwn
import Derived.Laws.OwnMore
import Derived.Deep.OwnRows
import Derived.Tactics
import Derived.Lib.ConvBytes
import Derived.Laws.Slices
import Derived.KernelRfl
import Derived.RowKit3
import Derived.Deep.LoopGhost
import Derived.Deep.QuietTactic
import Derived.BigQuiet
import Derived.WideLaws
import Derived.Deep.DeepCutAuto
import Derived.Deep.CutBlock
import Derived.Deep.RegionHeld3
import Derived.Laws.Rows
import Derived.Lib.AppendStr
import Derived.ArgAppend
import Derived.Laws.IdiomCopy
import Derived.RowKit
import Derived.OrdersHeld
import Derived.Laws.BitsLemmas
import Derived.Laws.EntriesVeiled
import Derived.StillTailTactics
import Derived.SizedLaws
import Derived.ChangeSlices
import Derived.Laws.StructEq
import Derived.WalkSpells
import Derived.Laws.CopyOwn
import Derived.BigRegion
import Derived.Laws.Bits64
import Derived.Laws.Bits64b
import Derived.Lib.ItoaNum
import Derived.Deep.RegionLaw
import Derived.StillTail
import Derived.Deep.Quiet
import Derived.RegionTactic
import Derived.Test.YtkgedpcipaogjaaZ1
import Derived.Test.YtkgedpcipaogjaaZ2
import Derived.Test.YtkgedpcipaogjaaZ3
import Derived.Test.YtkgedpcipaogjaaZ4
import Derived.Test.YtkgedpcipaogjaaZ5
import Derived.Test.YtkgedpcipaogjaaZ6
import Derived.Test.YtkgedpcipaogjaaZ7
import Derived.Test.YtkgedpcipaogjaaZ8
import Derived.Test.YtkgedpcipaogjaaZ9
import Derived.Test.YtkgedpcipaogjaaZ10
import Derived.Test.YtkgedpcipaogjaaZ11
import Derived.Test.YtkgedpcipaogjaaZ12
section
namespace Go.Proofs.Ytkgedpcipaogjaa.WB
open Go Go.RowKit Go.Proofs.YtkgedpcipaogjaaW.PrintWords Go.Proofs.YtkgedpcipaogjaaW.PrintLast Go.Proofs.YtkgedpcipaogjaaW.PrintMore
set_option linter.unusedVariables false
set_option linter.unusedSimpArgs false
theorem page_at {F : Nat → Prop} {im : Im} {s : Sl} {w : World} (h : ImAt F w im s) (i : Nat) (hi : i < im.pages.length) : ∃ ad, s.B = some ad ∧
    w.cell? (ad.add (i * 11)) = some (.int .i64 (im.pg i).kd) ∧ w.cell? ⟨(ad.add (i * 11)).block, (ad.add (i * 11)).off + 1, none⟩ = some (.int .i64 (im.pg i).od) ∧ w.cell? ⟨(ad.add (i * 11)).block, (ad.add (i * 11)).off + 2, none⟩ = some (.int .i64 (im.pg i).cl) ∧ w.cell? ⟨(ad.add (i * 11)).block, (ad.add (i * 11)).off + 3, none⟩ = some (.int .i64 (im.pg i).lv) ∧ w.cell? ⟨(ad.add (i * 11)).block, (ad.add (i * 11)).off + 4, none⟩ = some (.int .i64 (im.pg i).nx) ∧ w.cell? ⟨(ad.add (i * 11)).block, (ad.add (i * 11)).off + 5, none⟩ = some (.int .i64 (im.pg i).pv) ∧ w.cell? ⟨(ad.add (i * 11)).block, (ad.add (i * 11)).off + 6, none⟩ = some (.int .i64 (im.pg i).fs) ∧ w.cell? ⟨(ad.add (i * 11)).block, (ad.add (i * 11)).off + 7, none⟩ = some (.int .u64 (im.pg i).b0) ∧ w.cell? ⟨(ad.add (i * 11)).block, (ad.add (i * 11)).off + 8, none⟩ = some (.int .u64 (im.pg i).b1) ∧ w.cell? ⟨(ad.add (i * 11)).block, (ad.add (i * 11)).off + 9, none⟩ = some (.int .u64 (im.pg i).b2) ∧ w.cell? ⟨(ad.add (i * 11)).block, (ad.add (i * 11)).off + 10, none⟩ = some (.int .u64 (im.pg i).b3) := by
  obtain ⟨ad, e, hF, hx⟩ := h.pages (by omega)
  have h0 := hx i hi
  have h1 : ∀ j v, (im.pg i).cells[j + 1]? = some v → w.cell? ⟨(ad.add (i * 11)).block, (ad.add (i * 11)).off + (j + 1), none⟩ = some v := by
    intro j v hv
    rw [← Addr.add_succ', Addr.add_add]
    exact h0 (j + 1) v hv
  exact ⟨ad, e, h0 0 _ rfl, h1 0 _ rfl, h1 1 _ rfl, h1 2 _ rfl, h1 3 _ rfl, h1 4 _ rfl, h1 5 _ rfl, h1 6 _ rfl, h1 7 _ rfl, h1 8 _ rfl, h1 9 _ rfl⟩
theorem cell_r {n z c zc : Nat} (hnz : n * z = 4096) (hc : c < n) (hzc : zc = c * z) : (z : Int) * (c : Int) = (zc : Int) ∧ wrap64 (zc : Int) = (zc : Int) ∧ IntKind.i64.wrap (zc : Int) = (zc : Int) := by
  have h1 : zc ≤ 4096 := by rw [hzc, ← hnz]; exact Nat.mul_le_mul_right z (Nat.le_of_lt hc)
  have h2 : wrap64 (zc : Int) = (zc : Int) := by
    clear hzc hnz
    unfold wrap64; omega
  exact ⟨by rw [hzc, Int.natCast_mul, Int.mul_comm], h2, by rw [i64_w]; exact h2⟩
theorem pow_q {od pw sz : Nat} (ho : od ≤ 8) (hpw : 2 ^ od = pw) (hsz : 4096 * (2 : Int) ^ od = (sz : Int)) : IntKind.u64.wrap (pw : Int) = (pw : Int) ∧ IntKind.u64.wrap (4096 * (pw : Int)) = (sz : Int) := by
  have hb : 2 ^ od ≤ 2 ^ 8 := Nat.pow_le_pow_right (by decide) ho
  have e : (2 : Int) ^ od = (pw : Int) := by rw [← hpw]; simp
  rw [e] at hsz
  rw [hpw] at hb
  refine ⟨wrap_u64_in (by omega) (by omega), ?_⟩
  rw [← hsz]
  exact wrap_u64_in (by omega) (by omega)
section
variable {F : Nat → Prop} {im : Im} {s : Sl} {w : World}
set_option maxRecDepth 100000 in
set_option maxHeartbeats 8000000 in
theorem refBlocks_c (h : ImAt F w im s) (hF : ∀ b, F b → b < w.heap.size) : Calls Try.prog 17 #[.agg (im.cells s)] w (BlocksP im w) := by
  obtain ⟨A, a, B, b, C, c, D, d, E, e⟩ := s
  obtain ⟨WA, hWA⟩ : ∃ W, w.alloc (imO im ⟨A, a, B, b, C, c, D, d, E, e⟩) = W := ⟨_, rfl⟩
  obtain ⟨hsa, hbl, hvl⟩ := box_facts h hF hWA
  have HBL := Lib.hid hbl
  have HVL := Lib.hid hvl
  have HFA := Lib.hid (show ∀ b, F b → b < WA.heap.size from fun b hb => by have := hF b hb; omega)
  have HWF := Lib.hid h.wf
  have hl := len_i64 h.wf
  obtain ⟨c0, c1, c2, c3, c4, c5, c6, c7, c8⟩ := (hvl WA (Below.refl _ _)).cell
  dsimp only at c0 c1 c2 c3 c4 c5 c6 c7 c8
  unfold imO Im.cells at hWA
  unfold Im.cells
  clear h hF hvl hbl
  have HCK := Lib.hid (docCheck (HVL.out WA (Below.refl _ _)).im HFA.out)
  unfold Im.cells at HCK
  dsimp only at HCK
  by_cases hz : im.check.1 = 0
  case neg =>
    have z1 : (im.check.1 != 0) = true := ne_t hz
    have HT := Lib.hid (show im.told = [] by unfold Im.told; rw [if_neg hz])
    clear hz
    generalize im.check = ck at HCK z1
    obtain ⟨a1, a2⟩ := ck
    dsimp only at HCK z1
    go_enter Try.func17, Try.ntmps17
    go_wp2_with (go_at_call 16; refine HCK.out.mono ?_; rintro e w5 ⟨rfl, hb5⟩; have HB5 := Lib.hid hb5; clear hb5)
    go_ret
    refine ⟨none, 0, ?_, ?_, ?_, HBL.out _ HB5.out⟩
    · rw [HT.out]; rfl
    · rw [HT.out]; exact Nat.le_refl _
    · rw [HT.out]; exact fun h0 => absurd h0 (Nat.lt_irrefl _)
  have z1 : (im.check.1 != 0) = false := ne_f hz
  have HT := Lib.hid (show im.told = im.blocks by unfold Im.told; rw [if_pos hz])
  have hs := check_zero hz
  obtain ⟨o, r, hg⟩ := geo_of HWF.out (hs 0 (by decide)) (hs 1 (by decide))
  have HR := Lib.hid (rng_of (im := im) (hs 2 (by decide)))
  have HGEO := Lib.hid hg
  clear hz hs hg
  generalize im.check = ck at HCK z1
  obtain ⟨a1, a2⟩ := ck
  dsimp only at HCK z1
  go_enter Try.func17, Try.ntmps17
  go_wp2_with (go_at_call 16; refine HCK.out.mono ?_; rintro e W2 ⟨rfl, hb2⟩; have HB2 := Lib.hid hb2; clear hb2)
  clear hWA c0 c1 c2 c3 c4 c5 c6 c7 c8 z1
  go_loopg [5, 6, 7, 8, 9, 10, 18, 19, 20, 21, 22, 23, 24, 25, 26, 27, 28, 29, 30, 31, 32, 33, 34, 35, 36, 37, 38, 39, 40, 41, 42, 43, 44, 45, 46, 47, 48, 49, 50, 51, 52, 53, 54, 55, 56, 57, 58, 59, 60, 61, 62, 63, 64, 65, 66, 67, 68, 69, 70, 71, 72, 73, 74, 75, 76] im.pages.length (fun g v5 v6 _ _ _ _ _ _ _ _ _ _ _ _ _ _ _ _ _ _ _ _ _ _ _ _ _ _ _ _ _ _ _ _ _ _ _ _ _ _ _ _ _ _ _ _ _ _ _ _ _ _ _ _ _ _ _ _ _ _ _ _ _ _ _ wi => ∃ (k : Nat), v6 = .int .i64 (k : Int) ∧ Aside0 (k + g = im.pages.length) ∧ Aside0 (BlI W2 W2.heap.size v5 (blocksTo im k) wi))
  case atStart => exact ⟨0, rfl, ⟨by omega⟩, ⟨BlI.nil _⟩⟩
  case round =>
    obtain ⟨k, rfl, hkg, hbl⟩ := hrel
    have HBEL := Lib.hid (HB2.out.trans (hbl.out.below.mono HB2.out.size))
    obtain ⟨c0, -, -, -, -, c5, -, -, -⟩ := (HVL.out wr HBEL.out).cell
    dsimp only at c0 c5
    by_cases hk : k < im.pages.length
    case neg =>
      obtain ⟨t1, t2⟩ := nlt_dec hk
      have hkn : k = im.n := by have := hkg.out; unfold Im.n; omega
      have hb := hbl.out
      rw [hkn] at hb
      obtain ⟨A2, cap, hv, hcap, hrow⟩ := own_rowB hb.own
      subst hv
      have HBB := Lib.hid hb.below
      have HCAP := Lib.hid hcap
      have HROW := Lib.hid hrow
      clear hk hkn hb hcap hrow hbl hkg
      go_wp2
      go_ret
      have hw : Below w.heap.size w wr := HBL.out _ (HB2.out.trans (HBB.out.mono HB2.out.size))
      refine ⟨A2, cap, ?_, ?_, ?_, hw⟩
      · rw [HT.out]; rfl
      · rw [HT.out]; exact HCAP.out
      · rw [HT.out]
        refine HROW.out.mono (fun x hx => ⟨?_, hx.2.1⟩)
        have h1 := hx.1
        have h2 := HB2.out.size
        omega
    obtain ⟨t1, t2⟩ := lt_dec hk
    have hkI : (k : Int) < (im.pages.length : Int) := by omega
    obtain ⟨g1, rfl⟩ : ∃ g1, gk = g1 + 1 := ⟨gk - 1, by have := hkg.out; omega⟩
    have HG := Lib.hid (lp_step hkg.out)
    have HK := Lib.hid hk
    obtain ⟨ad, he, p0, p1, p2, p3, p4, p5, p6, p7, p8, p9, p10⟩ := page_at (HVL.out wr HBEL.out).im k hk
    dsimp only at he
    subst he
    obtain ⟨W1, hW1⟩ : ∃ W, wr.alloc (pageO (im.pg k)) = W := ⟨_, rfl⟩
    obtain ⟨hlt1, hb1, hpv⟩ := pg_facts hbl.out.below hW1
    have HB1 := Lib.hid hb1
    have HLT1 := Lib.hid hlt1
    have HPV := Lib.hid hpv
    obtain ⟨q0, q1, q2, q3, q4, q5, q6, q7, q8, q9, q10⟩ := hpv W1 rfl
    obtain ⟨b0, -, -, -, -, -, -, -, -⟩ := (HVL.out W1 (HB2.out.trans (hb1.mono HB2.out.size))).cell
    try dsimp only at b0
    have HBL1 := Lib.hid (show BlI W2 W2.heap.size u5 (blocksTo im k) W1 from hbl.out.later (by rw [← hW1]; exact (Below.refl _ _).alloc (Nat.le_refl _) _))
    have HOWN := Lib.hid (show ∀ x, u5.ownBlock = some x → x < wr.heap.size from fun x hx => (own_lt hbl.out.own hx).2)
    obtain ⟨P, hP⟩ : ∃ P, im.base + 4096 * (k : Int) = P := ⟨_, rfl⟩
    have hpb := addr_bd HGEO.out (i := k) hk
    have hk1024 : k < 1024 := by have h1 := HGEO.out.n1024; unfold Im.n at h1; omega
    have wk1 : IntKind.u64.wrap (k : Int) = (k : Int) := wrap_u64_in (by omega) (by omega)
    have wk2 : IntKind.u64.wrap (4096 * (k : Int)) = 4096 * (k : Int) := wrap_u64_in (by omega) (by omega)
    have wk3 : IntKind.u64.wrap (im.base + 4096 * (k : Int)) = P := by rw [hP] at hpb ⊢; exact wrap_u64_in (by omega) (by omega)
    rw [hP] at hpb
    have HPU := Lib.hid hpb
    have HPP := Lib.hid hP
    unfold pageO at hW1
    clear hk hbl hkg hlt1 hb1 hpv hpb hP
    by_cases h4 : (im.pg k).kd = 4
    case pos =>
      have e2 : ((im.pg k).kd == 4) = true := by simpa using h4
      have e1 : ((im.pg k).kd == 2) = false := by rw [h4]; rfl
      have hcl := (HR.out k HK.out).cl
      obtain ⟨n, hn⟩ : ∃ n, cellsN (im.pg k).cl = n := ⟨_, rfl⟩
      obtain ⟨z, hz⟩ : ∃ z, cellZ (im.pg k) = z := ⟨_, rfl⟩
      obtain ⟨m1, m2, m3, m4, m5, m6, m7, m8, m9, m10, m11, m12, m13⟩ := cell_nums9 HGEO.out HK.out hcl.1 hcl.2 hn hz
      have HPB := Lib.hid (show blocksTo im (k + 1) = blocksTo im k ++ cellBs im k n by rw [blocksTo, page_slab h4, hn])
      have HCB := Lib.hid (fun c => (show cellBs im k (c + 1) = cellBs im k c ++ if (im.pg k).bit c = true then [(P, (z : Int))].map (fun b => (b.1 + (c : Int) * (z : Int), b.2)) else [] by rw [cellBs, HPP.out, hz]; rfl))
      have HCE := Lib.hid (fun wx => cells_d (im.pg k) hcl.1 hcl.2 wx)
      unfold Pg.vals at HCE
      rw [hn] at HCE
      have HM1 := Lib.hid m1
      have HM2 := Lib.hid m2
      have HM5 := Lib.hid m5
      have HM6 := Lib.hid m6
      have HM7 := Lib.hid m7
      have HM8 := Lib.hid m8
      have HPW := Lib.hid (HWF.out.pg HK.out)
      have HHA := Lib.hid (fun (c : Nat) (hc : c < 256) (wx : World) => has_d (im.pg k) HPW.out c hc wx)
      unfold Pg.vals at HHA
      clear h4 hcl hn hz m1 m2 m3 m4 m5 m6 m7 m8 m9 m10 m11 m12 m13
      go_wp2_with (go_at_call 31; refine (HCE.out _).mono ?_; rintro e w5 ⟨rfl, hb5⟩; have HB5 := Lib.hid hb5; clear hb5)
      have HOW5 := Lib.hid (show BlI W2 W2.heap.size u5 (blocksTo im k ++ cellBs im k 0) w5 by rw [cellBs, List.append_nil]; exact HBL1.out.later HB5.out)
      have HPV5 := Lib.hid (hpbk HB5.out HLT1.out)
      have HNE := Lib.hid (show u5.ownBlock ≠ some wr.heap.size from fun hh => by have := HOWN.out _ hh; omega)
      clear p0 p1 p2 p3 p4 p5 p6 p7 p8 p9 p10 q0 q1 q2 q3 q4 q5 q6 q7 q8 q9 q10 hW1 wk1 wk2 wk3 c0 c5 b0
      generalize wr.heap.size = pb at *
      go_loopg [5, 10, 55, 56, 57, 58, 59, 60, 61, 62, 63, 64, 65, 66, 67, 68, 69, 70, 71, 72, 73, 74, 75, 76] n (fun g v5 v10 _ _ _ _ _ _ _ _ _ _ _ _ _ _ _ _ _ _ _ _ _ _ wi => ∃ c : Nat, v10 = .int .i64 (c : Int) ∧ Aside0 (c + g = n) ∧ Aside0 (BlI W2 W2.heap.size v5 (blocksTo im k ++ cellBs im k c) wi) ∧ Aside0 (pb < wi.heap.size ∧ wi.heap[pb]? = W1.heap[pb]?) ∧ Aside0 (v5.ownBlock ≠ some pb))
      case atStart => exact ⟨0, rfl, ⟨by omega⟩, ⟨HOW5.out⟩, ⟨HPV5.out⟩, ⟨HNE.out⟩⟩
      case round =>
        obtain ⟨c, rfl, hcg, hbl, hpw, hne⟩ := hrel
        have HBL := Lib.hid hbl.out
        by_cases hc : c < n
        case neg =>
          obtain ⟨t1, t2⟩ := nlt_dec hc
          have hcn : c = n := by have := hcg.out; omega
          subst hcn
          clear hc hcg hbl hpw hne
          go_wp2
          go_roundg g1
          case measure => omega
          case rel => exact ⟨k + 1, by simp, ⟨HG.out⟩, ⟨by rw [HPB.out]; exact HBL.out⟩⟩
        obtain ⟨t1, t2⟩ := lt_dec hc
        obtain ⟨g2, rfl⟩ := lp_pos hcg.out hc
        have HCG := Lib.hid (lp_step hcg.out)
        have HC256 := Lib.hid (Nat.lt_of_lt_of_le hc HM2.out)
        have HCN := Lib.hid hc
        have HNE2 := Lib.hid hne.out
        have HPW2 := Lib.hid hpw.out
        obtain ⟨q0, q1, q2, q3, q4, q5, q6, q7, q8, q9, q10⟩ := HPV.out wr hpw.out.2
        have c1 : wrap64 ((c : Int) + 1) = (c : Int) + 1 := up1 (by have := HC256.out; omega)
        have HHC := Lib.hid (HHA.out c HC256.out wr)
        clear hc hcg hne hpw hbl
        cases hb : (im.pg k).bit c with
        | false =>
          rw [hb] at HHC
          have HNX := Lib.hid (show cellBs im k (c + 1) = cellBs im k c from cell_not hb)
          clear hb
          go_wp2_with (go_at_call 32; refine HHC.out.mono ?_; rintro e w6 ⟨rfl, hb6⟩; have HB6 := Lib.hid hb6; clear hb6)
          go_roundg g2
          case measure => omega
          case rel => exact ⟨c + 1, by simp; try exact c1, ⟨HCG.out⟩, ⟨by rw [HNX.out]; exact HBL.out.later HB6.out⟩, ⟨⟨Nat.lt_of_lt_of_le HPW2.out.1 HB6.out.size, (HB6.out.block pb HPW2.out.1).trans HPW2.out.2⟩⟩, ⟨HNE2.out⟩⟩
        | true =>
          rw [hb] at HHC
          obtain ⟨zc, hzc⟩ : ∃ zc, zc = c * z := ⟨_, rfl⟩
          obtain ⟨y1, y2, y3, y4⟩ := cell_q HM1.out HCN.out hzc HPU.out
          obtain ⟨y6, y7, y8⟩ := cell_r HM1.out HCN.out hzc
          obtain ⟨Q, hQ⟩ : ∃ Q, P + (zc : Int) = Q := ⟨_, rfl⟩
          have y5 : IntKind.u64.wrap (P + (zc : Int)) = Q := by rw [y4]; exact hQ
          clear y4 y2
          have HNX := Lib.hid (show cellBs im k (c + 1) = cellBs im k c ++ [(Q, (z : Int))] by rw [HCB.out, if_pos hb]; simp only [List.map_cons, List.map_nil]; rw [← hQ, ← y1])
          have hcl1 := cellBs_len im k c
          have hbl1 := blocksTo_len im k
          have HLEN := Lib.hid (show (blocksTo im k ++ cellBs im k c).length ≤ 300000 by
            rw [List.length_append]
            have h1 := HK.out; have h2 := HGEO.out.n1024; have h3 := HC256.out; unfold Im.n at h2; omega)
          have HML := Lib.hid (show (blocksTo im k ++ cellBs im k c).length + 1 ≤ maxLen by have := HLEN.out; unfold maxLen; omega)
          have HBY := Lib.hid (show ((blocksTo im k ++ cellBs im k c).length + 1) * 16 ≤ 140737488355328 by have := HLEN.out; omega)
          obtain ⟨bs, hbs⟩ : ∃ bs, blocksTo im k ++ cellBs im k c = bs := ⟨_, rfl⟩
          have HBS2 := Lib.hid hbs
          rw [hbs] at HBL HML HBY
          obtain ⟨i0, hi0, hz0, hz1, hz2⟩ := info_parts infoBlk
          have HI0 := Lib.hid hi0
          have d5 := HM5.out
          have d6 := HM6.out
          have d7 := HM7.out
          have d8 := HM8.out
          have d9 : IntKind.i64.wrap (z : Int) = (z : Int) := by rw [i64_w]; exact d6
          clear hb hzc hQ hcl1 hbl1 hbs hi0 y1
          go_upto_region 18 with (go_at_call 32; refine HHC.out.mono ?_; rintro e w6 ⟨rfl, hb6⟩; have HB6 := Lib.hid hb6; clear hb6)
          have HOW := Lib.hid (HBL.out.later HB6.out).own
          have HSZ := Lib.hid (HBL.out.later HB6.out).below.size
          clear q0 q1 q2 q3 q4 q5 q6 q7 q8 q9 q10
          go_region_law (refine step_append_lies _ (by rfl) _ _ _ (by rfl) W2.heap.size 42 i0 _ 2 16 Try.underlying34 HI0.out hz0 hz1 hz2 rfl (by omega) u5 bs.length (bVals bs) (by rfl) (HOW.out.alloc _) ⟨w6.heap.size, 0, none⟩ 1 1 [.int .u64 Q, .int .u64 (z : Int)] (by rfl) (by rfl) (World.news_of_block (cs := #[.int .u64 Q, .int .u64 (z : Int)]) (t := 42) (fr := (0, 0)) (heap_alloc_new w6 _)) (by simp [Value.oneCell']) (by omega) HML.out HBY.out (by have := HSZ.out; simp; omega) (w6.heap.size + 1) (by simp) ?_; intro g cap w3 hown3 hgrow3 hat3 hlt3; have HOWN3 := Lib.hid hown3; have HGROW3 := Lib.hid (gb_undrew hgrow3); have HAT3 := Lib.hid hat3; clear hown3 hgrow3 hat3 hlt3)
          all_goals
            have HBLx := Lib.hid ((HBL.out.later HB6.out).later ((Below.refl w6.heap.size w6).alloc (Nat.le_refl _) (.cells #[.int .u64 Q, .int .u64 (z : Int)] 42 (0, 0))))
            have HBL3 := Lib.hid (BlI.step (b := (Q, (z : Int))) HBLx.out rfl (Nat.le_refl _) HOWN3.out HGROW3.out)
            have HP6 := Lib.hid (show pb < w6.heap.size ∧ w6.heap[pb]? = W1.heap[pb]? from ⟨Nat.lt_of_lt_of_le HPW2.out.1 HB6.out.size, (HB6.out.block pb HPW2.out.1).trans HPW2.out.2⟩)
            go_wp2
            go_roundg g2
            case measure => omega
            case rel => exact ⟨c + 1, by simp; try exact c1, ⟨HCG.out⟩, ⟨by rw [HNX.out, ← List.append_assoc, HBS2.out]; exact HBL3.out⟩, ⟨blk_stays HP6.out HGROW3.out HNE2.out⟩, ⟨own_apart HAT3.out HP6.out.1 HNE2.out⟩⟩
    have e2 : ((im.pg k).kd == 4) = false := by simpa using h4
    by_cases h2 : (im.pg k).kd = 2
    case pos =>
      have e1 : ((im.pg k).kd == 2) = true := by simpa using h2
      obtain ⟨od, hod⟩ : ∃ od : Nat, (im.pg k).od = od := ⟨(im.pg k).od.toNat, by have := (HR.out k HK.out).od; omega⟩
      have ho8 : od ≤ 8 := by have h1 := (HR.out k HK.out).od; have h2 := HGEO.out.order; have h3 := HGEO.out.o8; omega
      obtain ⟨sz, hsz, hszI, hszb⟩ := big_num ho8
      obtain ⟨pw, hpw⟩ : ∃ pw : Nat, 2 ^ od = pw := ⟨_, rfl⟩
      obtain ⟨w1', w2'⟩ := pow_q ho8 hpw hsz
      have HPO := Lib.hid (fun wx => power_s (n := od) (by omega) wx)
      rw [hpw] at HPO
      have HPB := Lib.hid (show blocksTo im (k + 1) = blocksTo im k ++ [(P, (sz : Int))] by rw [blocksTo, page_big h2, HPP.out, hod, Int.toNat_natCast, hsz])
      have hml := blocksTo_len im k
      have HLEN := Lib.hid (show (blocksTo im k).length ≤ 262144 by have h1 := HK.out; have h2 := HGEO.out.n1024; unfold Im.n at h2; omega)
      rw [hod] at q1
      have HML := Lib.hid (show (blocksTo im k).length + 1 ≤ maxLen by have := HLEN.out; unfold maxLen; omega)
      have HBY := Lib.hid (show ((blocksTo im k).length + 1) * 16 ≤ 140737488355328 by have := HLEN.out; omega)
      obtain ⟨bs, hbs⟩ : ∃ bs, blocksTo im k = bs := ⟨_, rfl⟩
      rw [hbs] at HPB HBL1 HML HBY
      have HOW := Lib.hid HBL1.out.own
      obtain ⟨i0, hi0, hz0, hz1, hz2⟩ := info_parts infoBlk
      have HI0 := Lib.hid hi0
      have HB1S := Lib.hid HBL1.out.below.size
      clear h2 h4 hod hsz hszI hszb hml hbs hi0 hpw
      go_wp2_with (first
        | (go_at_call 30; refine (HPO.out _).mono ?_; rintro e w6 ⟨rfl, hw6⟩; have hw6s := hw6.symm; clear hw6; subst hw6s)
        | (at_builtin; refine wpList_append_lies _ (by rfl) _ _ _ (by rfl) W2.heap.size 42 i0 _ 2 16 Try.underlying34 HI0.out hz0 hz1 hz2 rfl (by omega) _ bs.length (bVals bs) (by rfl) (HOW.out.alloc _) ⟨W1.heap.size, 0, none⟩ 1 1 [.int .u64 P, .int .u64 (sz : Int)] (by rfl) (by rfl) (World.news_of_block (cs := #[.int .u64 P, .int .u64 (sz : Int)]) (t := 42) (fr := (0, 0)) (heap_alloc_new W1 _)) (by simp [Value.oneCell']) (by omega) HML.out HBY.out (by have := HB1S.out; simp; omega) (W1.heap.size + 1) (by simp) ?_; intro g cap w3 hown3 hgrow3 hat3 hlt3; have HOWN3 := Lib.hid hown3; have HGROW3 := Lib.hid hgrow3; have HAT3 := Lib.hid hat3; have hp3 := (blk_stays (w := W1) (W1 := W1) (pb := wr.heap.size) ⟨HLT1.out, rfl⟩ hgrow3 (fun hh => by have := HOWN.out _ hh; omega)).2; obtain ⟨r0, r1, r2, r3, r4, r5, r6, r7, r8, r9, r10⟩ := HPV.out w3 hp3; clear hp3 hown3 hgrow3 hat3 hlt3))
      have HBLx := Lib.hid (HBL1.out.later ((Below.refl W1.heap.size W1).alloc (Nat.le_refl _) (.cells #[.int .u64 P, .int .u64 (sz : Int)] 42 (0, 0))))
      have HBL3 := Lib.hid (BlI.step (b := (P, (sz : Int))) HBLx.out rfl (Nat.le_refl _) HOWN3.out HGROW3.out)
      go_roundg g1
      case measure => omega
      case rel => exact ⟨k + 1, by simp, ⟨HG.out⟩, ⟨by rw [HPB.out]; exact HBL3.out⟩⟩
    have e1 : ((im.pg k).kd == 2) = false := by simpa using h2
    have HPB := Lib.hid (show blocksTo im (k + 1) = blocksTo im k by rw [blocksTo, page_no_blk h2 h4, List.append_nil])
    clear h2 h4
    go_wp2
    go_roundg g1
    case measure => omega
    case rel => exact ⟨k + 1, by simp, ⟨HG.out⟩, ⟨by rw [HPB.out]; exact HBL1.out⟩⟩
end
end Go.Proofs.Ytkgedpcipaogjaa.WB
end
section
namespace Go.Proofs.Ytkgedpcipaogjaa.WB
open Go Go.RowKit Go.Proofs.YtkgedpcipaogjaaW.PrintWords Go.Proofs.YtkgedpcipaogjaaW.PrintLast Go.Proofs.YtkgedpcipaogjaaW.PrintMore
set_option linter.unusedVariables false
set_option linter.unusedSimpArgs false
set_option maxRecDepth 100000 in
set_option maxHeartbeats 1000000 in
theorem Same_t {F : Nat → Prop} {w : World} {A B : Option Addr} {ca cb : Nat} {bs : List (Int × Int)} (ha : RowB F w A bs) (hb : RowB F w B bs) (hl : bs.length ≤ 140737488355328) :
    Calls Try.prog 14 #[.slice A bs.length ca, .slice B bs.length cb] w fun e w' => e = .returned (.bool true) ∧ ∃ n, w' = w.drewN n := by
  have HA := Lib.hid ha
  have HB := Lib.hid hb
  have HL := Lib.hid hl
  have t3 : ((bs.length : Int) != (bs.length : Int)) = false := by simp
  have hl9 : bs.length ≤ 9223372036854775807 := by omega
  clear ha hb hl
  go_enter Try.func14, Try.ntmps14
  go_wp2
  go_loopg [5, 11, 12, 13, 14, 15, 16, 17, 18, 19, 20, 21, 22, 23, 24, 25] bs.length (fun g v5 _ _ _ _ _ _ _ _ _ _ _ _ _ _ _ wi => ∃ (k : Nat), v5 = .int .i64 (k : Int) ∧ Aside0 (k + g = bs.length) ∧ Aside0 (∃ n, wi = w.drewN n))
  case atStart => exact ⟨0, rfl, ⟨by omega⟩, ⟨0, rfl⟩⟩
  case round =>
    obtain ⟨k, rfl, hkg, hn⟩ := hrel
    obtain ⟨n, rfl⟩ := hn.out
    by_cases hk : k < bs.length
    case neg =>
      obtain ⟨t1, t2⟩ := nlt_dec hk
      clear hk hkg
      go_wp2
      go_ret
      exact ⟨rfl, _, rfl⟩
    obtain ⟨t1, t2⟩ := lt_dec hk
    have hkI : (k : Int) < (bs.length : Int) := by omega
    obtain ⟨g1, rfl⟩ := lp_pos hkg.out hk
    have HG := Lib.hid (lp_step hkg.out)
    obtain ⟨aa, eA, -, hxa⟩ := HA.out (by omega)
    obtain ⟨ab, eB, -, hxb⟩ := HB.out (by omega)
    subst eA eB
    obtain ⟨a0, a1⟩ := hxa k hk
    obtain ⟨b0, b1⟩ := hxb k hk
    have n1 : wrap64 ((k : Int) + 1) = (k : Int) + 1 := up1 (by have := HL.out; omega)
    clear hxa hxb hk hkg
    generalize bs.getD k (0, 0) = b at *
    go_wp2
    go_quiet (fail)
    go_wp2
    go_roundg g1
    case measure => omega
    case rel => exact ⟨k + 1, by simp; try exact n1, ⟨HG.out⟩, ⟨_, rfl⟩⟩
end Go.Proofs.Ytkgedpcipaogjaa.WB
end
section
namespace Go.Proofs.Ytkgedpcipaogjaa.WB
open Go Go.RowKit Go.Proofs.YtkgedpcipaogjaaW.PrintWords Go.Proofs.YtkgedpcipaogjaaW.PrintLast Go.Proofs.YtkgedpcipaogjaaW.PrintMore
set_option linter.unusedVariables false
set_option linter.unusedSimpArgs false
theorem told_len {im : Im} (hw : im.Wf) : im.told.length ≤ 262144 := by
  unfold Im.told
  by_cases hz : im.check.1 = 0
  · rw [if_pos hz]
    have hs := check_zero hz
    obtain ⟨o, r, hg⟩ := geo_of hw (hs 0 (by decide)) (hs 1 (by decide))
    have h1 := blocksTo_len im im.n
    have h2 := hg.n1024
    unfold Im.blocks
    omega
  · rw [if_neg hz]
    exact Nat.zero_le _
section
variable {F : Nat → Prop} {im : Im} {s : Sl} {w : World}
set_option maxRecDepth 100000 in
set_option maxHeartbeats 4000000 in
theorem blocks_core (h : ImAt F w im s) (hF : ∀ b, F b → b < w.heap.size) : Calls Try.prog 5 #[.agg (im.cells s)] w (DocP w (.bool true)) := by
  obtain ⟨A, a, B, b, C, c, D, d, E, e⟩ := s
  obtain ⟨WA, hWA⟩ : ∃ W, w.alloc (imO im ⟨A, a, B, b, C, c, D, d, E, e⟩) = W := ⟨_, rfl⟩
  obtain ⟨hsa, hbl, hvl⟩ := box_facts h hF hWA
  have HBL := Lib.hid hbl
  have HVL := Lib.hid hvl
  have HFA := Lib.hid (show ∀ b, F b → b < WA.heap.size from fun b hb => by have := hF b hb; omega)
  have HWF := Lib.hid h.wf
  have hl := len_i64 h.wf
  obtain ⟨c0, c1, c2, c3, c4, c5, c6, c7, c8⟩ := (hvl WA (Below.refl _ _)).cell
  dsimp only at c0 c1 c2 c3 c4 c5 c6 c7 c8
  unfold imO Im.cells at hWA
  unfold Im.cells
  clear h hF hvl hbl
  have HAW := Lib.hid awake_ok
  have HF2 := Lib.hid (fun (wx : World) (hx : Below WA.heap.size WA wx) => (show ∀ b, F b → b < wx.heap.size from fun b hb => Nat.lt_of_lt_of_le (HFA.out b hb) hx.size))
  have HB1 := Lib.hid (fun (wx : World) (hx : Below WA.heap.size WA wx) => Blocks_c (HVL.out wx hx).im (HF2.out wx hx))
  have HB2 := Lib.hid (fun (wx : World) (hx : Below WA.heap.size WA wx) => refBlocks_c (HVL.out wx hx).im (HF2.out wx hx))
  have HTL := Lib.hid (told_len HWF.out)
  unfold Im.cells at HB1 HB2
  dsimp only at HB1 HB2
  clear hl
  go_enter Try.func5, Try.ntmps5
  go_wp2
  clear c0 c1 c2 c3 c4 c5 c6 c7 c8 hWA
  go_region_law (first
    | (go_simp; go_at_call 11; refine (HAW.out _).mono ?_; rintro e w4 ⟨rfl, hb4⟩; have HB4 := Lib.hid (below_undrew hb4); obtain ⟨d0, d1, d2, d3, d4, d5, d6, d7, d8⟩ := (HVL.out w4 HB4.out).cell; dsimp only at d0 d1 d2 d3 d4 d5 d6 d7 d8; clear hb4)
    | (go_simp; go_at_call 12; refine (HB1.out w4 HB4.out).mono ?_; rintro e w5 ⟨A1, cap1, rfl, hc1, hr1, hb5⟩; have HR1 := Lib.hid hr1; have HB5 := Lib.hid hb5; have HB5' := Lib.hid (HB4.out.trans (hb5.mono HB4.out.size)); obtain ⟨e0, e1, e2, e3, e4, e5, e6, e7, e8⟩ := (HVL.out w5 HB5'.out).cell; dsimp only at e0 e1 e2 e3 e4 e5 e6 e7 e8; clear hc1 hr1 hb5)
    | (go_simp; go_at_call 17; refine (HB2.out w5 HB5'.out).mono ?_; rintro e w6 ⟨A2, cap2, rfl, hc2, hr2, hb6⟩; have HR2 := Lib.hid hr2; have HB6 := Lib.hid hb6; clear hc2 hr2 hb6)
    | (go_simp; go_at_call 14; refine (Same_t (F := fun _ => True) ((HR1.out.keep (fun b hb => HB6.out.block b hb.2)).mono (fun _ _ => trivial)) (HR2.out.mono (fun _ _ => trivial)) (by have := HTL.out; omega)).mono ?_; rintro e w7 ⟨rfl, n7, hw7⟩; have HB7 := Lib.hid (show Below w6.heap.size w6 w7 from by rw [hw7]; exact pw_below_drewN (Below.refl _ _) n7); clear hw7))
  all_goals
    go_wp2
    go_ret
    exact ⟨rfl, HBL.out _ (HB5'.out.trans ((HB6.out.trans (HB7.out.mono HB6.out.size)).mono HB5'.out.size))⟩
end
end Go.Proofs.Ytkgedpcipaogjaa.WB
end
