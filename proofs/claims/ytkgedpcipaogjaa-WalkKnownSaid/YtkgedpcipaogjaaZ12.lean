/- Part 12 of what the rows of this seat rest on: words of the print that they need; how images, spaces, sets lie in memory; the functions walked. -/
import Derived.Deep.RegionLaw
import Derived.Deep.DeepCutAuto
import Derived.Test.YtkgedpcipaogjaaZ2
import Derived.Test.YtkgedpcipaogjaaZ11
section
namespace Go.Proofs.Ytkgedpcipaogjaa.WB
open Go Go.RowKit Go.Proofs.YtkgedpcipaogjaaW.PrintWords Go.Proofs.YtkgedpcipaogjaaW.PrintLast Go.Proofs.YtkgedpcipaogjaaW.PrintMore
set_option linter.unusedVariables false
set_option linter.unusedSimpArgs false
theorem fb_zero {res : Nat → Option Int} : ∀ (d k : Nat), (firstBad res d k).1 = 0 → ∀ j, k ≤ j → j < k + d → res j = none
  | 0, k, _, j, h1, h2 => by omega
  | d + 1, k, h, j, h1, h2 => by
    rw [firstBad] at h
    cases hr : res k with
    | some p =>
      rw [hr] at h
      simp only at h
      omega
    | none =>
      rw [hr] at h
      by_cases e : j = k
      · rw [e]; exact hr
      · exact fb_zero d (k + 1) h j (by omega) (by omega)
theorem big_num {o : Nat} (ho : o ≤ 8) : ∃ sz : Nat, 4096 * (2 : Int) ^ o = (sz : Int) ∧ IntKind.u64.wrap (4096 * (2 : Int) ^ o) = (sz : Int) ∧ sz ≤ 1048576 := by
  have e : 4096 * (2 : Int) ^ o = ((4096 * 2 ^ o : Nat) : Int) := by rw [Int.natCast_mul, Int.natCast_pow]; rfl
  have hb := big_bd ho
  refine ⟨_, e, ?_, hb⟩
  rw [e]
  exact wrap_u64_in (Int.natCast_nonneg _) (by generalize (4096 * 2 ^ o : Nat) = y at *; omega)
theorem hpbk {W1 w5 : World} {p : Nat} (h : Below W1.heap.size W1 w5) (hp : p < W1.heap.size) : p < w5.heap.size ∧ w5.heap[p]? = W1.heap[p]? := ⟨Nat.lt_of_lt_of_le hp h.size, h.block p hp⟩
theorem cell_q {n z c zc : Nat} {P : Int} (hnz : n * z = 4096) (hc : c < n) (hzc : zc = c * z) (hP : 0 < P ∧ P + 4096 ≤ 9223372036854775808) : (c : Int) * (z : Int) = (zc : Int) ∧ IntKind.u64.wrap (c : Int) = (c : Int) ∧ IntKind.u64.wrap (zc : Int) = (zc : Int) ∧ IntKind.u64.wrap (P + (zc : Int)) = P + (zc : Int) := by
  have hz0 : 0 < z := Nat.pos_of_ne_zero (fun e => by rw [e, Nat.mul_zero] at hnz; cases hnz)
  have h1 : zc ≤ 4096 := by rw [hzc, ← hnz]; exact Nat.mul_le_mul_right z (Nat.le_of_lt hc)
  have h2 : c ≤ zc := by rw [hzc]; exact Nat.le_mul_of_pos_right c hz0
  refine ⟨by rw [hzc, Int.natCast_mul], ?_, ?_, ?_⟩ <;>
  · clear hzc hnz
    rw [wrap_u64]
    omega
theorem blk_stays {w w3 W1 : World} {o : Obj} {pb : Nat} {ov : Value} (h : pb < w.heap.size ∧ w.heap[pb]? = W1.heap[pb]?) (hg : (w.alloc o).grownBy w3 ov.ownBlock) (hne : ov.ownBlock ≠ some pb) : pb < w3.heap.size ∧ w3.heap[pb]? = W1.heap[pb]? := by
  have hs := hg.size
  have h1 : pb < (w.alloc o).heap.size := by simp; omega
  exact ⟨Nat.lt_of_lt_of_le h1 hs, (hg.block pb h1 (fun e => hne e.symm)).trans ((Below.heap_alloc w o pb h.1).trans h.2)⟩
theorem own_apart {w : World} {pb g n cap : Nat} {ov : Value} (h : ov.ownBlock = some g ∨ g = w.heap.size + 1) (hp : pb < w.heap.size) (hne : ov.ownBlock ≠ some pb) : (Value.slice (some ⟨g, 0, none⟩) n cap).ownBlock ≠ some pb := by
  intro e
  injection e with e
  have e : g = pb := e
  rcases h with h | h
  · exact hne (by rw [h, e])
  · omega
theorem check_zero {im : Im} (h : im.check.1 = 0) : Sound im := fun k hk => fb_zero 11 0 h k (Nat.zero_le _) (by omega)
theorem infoBlk : (Try.prog.info? 42).map (fun i => (i.zero, i.size, i.bytes)) = some (some (.agg #[.int .u64 0, .int .u64 0]), 2, 16) := by kernel_rfl
def Im.told (im : Im) : List (Int × Int) := if im.check.1 = 0 then im.blocks else []
def BlocksO (im : Im) (w : World) (e : Ending) (w' : World) : Prop := ∃ v, e = .returned v ∧ w'.ownsRow w.heap.size 42 2 v im.told.length (bVals im.told) ∧ Below w.heap.size w w'
theorem own_low {w : World} {base base' : Nat} {e : TypeId} {size : Nat} {v : Value} {n : Nat} {xs : List Value} (h : w.ownsRow base e size v n xs) (hb : base' ≤ base) : w.ownsRow base' e size v n xs :=
  ⟨h.1, h.2.imp id fun ⟨g, cap, cur, e1, h1, h2⟩ => ⟨g, cap, cur, e1, Nat.le_trans hb h1, h2⟩⟩
def BlocksP (im : Im) (w : World) (e : Ending) (w' : World) : Prop := ∃ A cap, e = .returned (.slice A im.told.length cap) ∧ im.told.length ≤ cap ∧ RowB (fun b => w.heap.size ≤ b ∧ b < w'.heap.size) w' A im.told ∧ Below w.heap.size w w'
section
variable {F : Nat → Prop} {im : Im} {s : Sl} {w : World}
set_option maxRecDepth 100000 in
set_option maxHeartbeats 8000000 in
theorem Blocks_o (h : ImAt F w im s) (hF : ∀ b, F b → b < w.heap.size) : Calls Try.prog 12 #[.agg (im.cells s)] w (BlocksO im w) := by
  obtain ⟨A, a, B, b, C, c, D, d, E, e⟩ := s
  obtain ⟨WA, hWA⟩ : ∃ W, w.alloc (imO im ⟨A, a, B, b, C, c, D, d, E, e⟩) = W := ⟨_, rfl⟩
  obtain ⟨hsa, hbl, hvl⟩ := box_facts h hF hWA
  have HBL := Lib.hid hbl
  have HVL := Lib.hid hvl
  have HFA := Lib.hid (show ∀ b, F b → b < WA.heap.size from fun b hb => by have := hF b hb; omega)
  have HWF := Lib.hid h.wf
  have hl := len_i64 h.wf
  obtain ⟨c0, c1, c2, c3, c4, c5, c6, c7, c8⟩ := (hvl WA (Below.refl _ _)).cell
  dsimp only at c0 c1 c2 c3 c4 c5 c6 c7 c8
  unfold imO Im.cells at hWA
  unfold Im.cells
  clear h hF hvl hbl
  have HCK := Lib.hid (checkIm_c (HVL.out WA (Below.refl _ _)).im HFA.out)
  unfold Im.cells at HCK
  dsimp only at HCK
  by_cases hz : im.check.1 = 0
  case neg =>
    have z1 : (im.check.1 != 0) = true := ne_t hz
    have HT := Lib.hid (show im.told = [] by unfold Im.told; rw [if_neg hz])
    clear hz
    generalize im.check = ck at HCK z1
    obtain ⟨a1, a2⟩ := ck
    dsimp only at HCK z1
    go_enter Try.func12, Try.ntmps12
    go_wp2_with (go_at_call 18; refine HCK.out.mono ?_; rintro e w5 ⟨rfl, hb5⟩; have HB5 := Lib.hid hb5; clear hb5)
    go_ret
    refine ⟨_, rfl, ?_, HBL.out _ HB5.out⟩
    rw [HT.out]
    exact World.ownsRow_nil _ _ _ _
  have z1 : (im.check.1 != 0) = false := ne_f hz
  have HT := Lib.hid (show im.told = im.blocks by unfold Im.told; rw [if_pos hz])
  have hs := check_zero hz
  obtain ⟨o, r, hg⟩ := geo_of HWF.out (hs 0 (by decide)) (hs 1 (by decide))
  have HR := Lib.hid (rng_of (im := im) (hs 2 (by decide)))
  have HGEO := Lib.hid hg
  clear hz hs hg
  generalize im.check = ck at HCK z1
  obtain ⟨a1, a2⟩ := ck
  dsimp only at HCK z1
  go_enter Try.func12, Try.ntmps12
  go_wp2_with (go_at_call 18; refine HCK.out.mono ?_; rintro e w5 ⟨rfl, hb5⟩; have HB5 := Lib.hid hb5; obtain ⟨d0, d1, d2, d3, d4, d5, d6, d7, d8⟩ := (HVL.out w5 hb5).cell; dsimp only at d0 d1 d2 d3 d4 d5 d6 d7 d8; obtain ⟨W2, hW2⟩ : ∃ W, w5.alloc (viewO im ⟨A, a, B, b, C, c, D, d, E, e⟩ (.slice none 0 0)) = W := ⟨_, rfl⟩; have hb2 : Below WA.heap.size WA W2 := (by rw [← hW2]; exact hb5.alloc hb5.size _); have HB2 := Lib.hid hb2; have HGV := Lib.hid (show W2.heap[w5.heap.size]? = some (viewO im ⟨A, a, B, b, C, c, D, d, E, e⟩ (.slice none 0 0)) by rw [← hW2]; exact blk_new w5 _); obtain ⟨e0, e1, e2, e3, e4, e5, e6, e7, e8⟩ := (HVL.out W2 hb2).cell; dsimp only at e0 e1 e2 e3 e4 e5 e6 e7 e8; unfold viewO at hW2; dsimp only at hW2; clear hb5 hb2)
  have HV2 := Lib.hid (fun (wx : World) (hx : Below W2.heap.size W2 wx) => (show V F w5.heap.size im ⟨A, a, B, b, C, c, D, d, E, e⟩ (.slice none 0 0) wx from ⟨(hx.block _ (blk_lt HGV.out)).trans HGV.out, (HVL.out wx (HB2.out.trans (hx.mono HB2.out.size))).im⟩))
  have HGL := Lib.hid (blk_lt HGV.out)
  clear d0 d1 d2 d3 d4 d5 d6 d7 d8 e0 e1 e2 e3 e4 e5 e6 e7 e8 hW2 hWA c0 c1 c2 c3 c4 c5 c6 c7 c8 z1
  generalize w5.heap.size = gv at *
  go_loopg [6, 7, 8, 9, 10, 11, 12, 26, 27, 28, 29, 30, 31, 32, 33, 34, 35, 36, 37, 38, 39, 40, 41, 42, 43, 44, 45, 46, 47, 48, 49, 50, 51, 52, 53, 54, 55, 56, 57, 58, 59, 60, 61, 62, 63, 64, 65, 66, 67, 68, 69, 70, 71, 72, 73, 74, 75, 76, 77, 78] im.pages.length (fun g v6 _ _ _ _ _ _ v26 _ _ _ _ _ _ _ _ _ _ _ _ _ _ _ _ _ _ _ _ _ _ _ _ _ _ _ _ _ _ _ _ _ _ _ _ _ _ _ _ _ _ _ _ _ _ _ _ _ _ _ _ wi => ∃ (k : Nat), v26 = .int .i64 (k : Int) ∧ Aside0 (k + g = im.pages.length) ∧ Aside0 (BlI W2 W2.heap.size v6 (blocksTo im k) wi))
  case atStart => exact ⟨0, rfl, ⟨by omega⟩, ⟨BlI.nil _⟩⟩
  case round =>
    obtain ⟨k, rfl, hkg, hbl⟩ := hrel
    by_cases hk : k < im.pages.length
    case neg =>
      obtain ⟨t1, t2⟩ := nlt_dec hk
      have hkn : k = im.n := by have := hkg.out; unfold Im.n; omega
      have hb := hbl.out
      rw [hkn] at hb
      have HBB := Lib.hid hb.below
      have HOWN := Lib.hid hb.own
      clear hk hkn hb hbl hkg
      go_wp2
      go_ret
      refine ⟨_, rfl, ?_, HBL.out _ (HB2.out.trans (HBB.out.mono HB2.out.size))⟩
      rw [HT.out]
      exact own_low HOWN.out (by have h1 := HBL.out _ (HB2.out.trans (HBB.out.mono HB2.out.size)); have h2 := HB2.out.size; have h3 := (HBL.out _ (Below.refl _ _)).size; omega)
    obtain ⟨t1, t2⟩ := lt_dec hk
    have hkI : (k : Int) < (im.pages.length : Int) := by omega
    obtain ⟨g1, rfl⟩ : ∃ g1, gk = g1 + 1 := ⟨gk - 1, by have := hkg.out; omega⟩
    have HG := Lib.hid (lp_step hkg.out)
    have HK := Lib.hid hk
    obtain ⟨ad, he, -, p0, p1, p2, p3, p4, p5, p6, p7, p8, p9, p10⟩ := (HV2.out wr hbl.out.below).page k hk
    dsimp only at he
    subst he
    obtain ⟨W1, hW1⟩ : ∃ W, wr.alloc (pageO (im.pg k)) = W := ⟨_, rfl⟩
    obtain ⟨hlt1, hb1, hpv⟩ := pg_facts hbl.out.below hW1
    have HB1 := Lib.hid hb1
    have HLT1 := Lib.hid hlt1
    have HPV := Lib.hid hpv
    obtain ⟨q0, q1, q2, q3, q4, q5, q6, q7, q8, q9, q10⟩ := hpv W1 rfl
    have HBL1 := Lib.hid (show BlI W2 W2.heap.size u6 (blocksTo im k) W1 from hbl.out.later (by rw [← hW1]; exact (Below.refl _ _).alloc (Nat.le_refl _) _))
    have HOWN := Lib.hid (show ∀ x, u6.ownBlock = some x → x < wr.heap.size from fun x hx => (own_lt hbl.out.own hx).2)
    have HSLAB := Lib.hid (fun (wx : World) (hx : Below W2.heap.size W2 wx) => slab_c (HV2.out wx hx) k HK.out (HR.out k HK.out).cl.1 (HR.out k HK.out).cl.2)
    unfold pageO at hW1
    clear hk hbl hkg hlt1 hb1 hpv
    by_cases h4 : (im.pg k).kd = 4
    case pos =>
      have e2 : ((im.pg k).kd == 4) = true := by simpa using h4
      have e1 : ((im.pg k).kd == 2) = false := by rw [h4]; rfl
      rw [e2] at HSLAB
      have hcl := (HR.out k HK.out).cl
      obtain ⟨cl, hc⟩ : ∃ cl : Nat, (im.pg k).cl = cl := ⟨(im.pg k).cl.toNat, by omega⟩
      obtain ⟨n, hn⟩ : ∃ n, cellsN (im.pg k).cl = n := ⟨_, rfl⟩
      obtain ⟨z, hz⟩ : ∃ z, cellZ (im.pg k) = z := ⟨_, rfl⟩
      obtain ⟨m1, m2, m3, m4, m5, m6, m7, m8, m9, m10, m11, m12, m13⟩ := cell_nums9 HGEO.out HK.out hcl.1 hcl.2 hn hz
      have HZ16 := Lib.hid (show IntKind.u64.wrap (16 * (2 : Int) ^ cl) = (z : Int) by
        have e : (16 : Int) * 2 ^ cl = (z : Int) := by
          rw [← hz]
          unfold cellZ
          rw [hc, Int.toNat_natCast, Int.natCast_mul, Int.natCast_pow]
          rfl
        rw [e]; exact m7)
      have hmin : min cl 64 = cl := Nat.min_eq_left (by omega)
      have hcl7 : cl ≤ 7 := by omega
      obtain ⟨P, hP⟩ : ∃ P, im.base + 4096 * (k : Int) = P := ⟨_, rfl⟩
      have hpb := addr_bd HGEO.out (i := k) HK.out
      rw [hP] at hpb
      have HPU := Lib.hid hpb
      have HPB := Lib.hid (show blocksTo im (k + 1) = blocksTo im k ++ cellBs im k n by rw [blocksTo, page_slab h4, hn])
      have HCB := Lib.hid (fun c => (show cellBs im k (c + 1) = cellBs im k c ++ if (im.pg k).bit c = true then [(P, (z : Int))].map (fun b => (b.1 + (c : Int) * (z : Int), b.2)) else [] by rw [cellBs, hP, hz]; rfl))
      have HAD := Lib.hid (fun (wx : World) (hx : Below W2.heap.size W2 wx) => (show Calls Try.prog 26 #[.pointer (some ⟨gv, 0, none⟩), .int .i64 (k : Int)] wx fun e w' => e = .returned (.int .u64 P) ∧ w' = wx by
        have := address_c (HV2.out wx hx) k
        rw [hP, wrap_u64_in (Int.le_of_lt hpb.1) (by have := hpb.2; omega)] at this
        exact this))
      rw [hn] at HSLAB
      rw [hc] at q2
      have HM1 := Lib.hid m1
      have HM2 := Lib.hid m2
      have HKD1 := Lib.hid hmin
      have HCL := Lib.hid hc
      clear h4 hcl hc hn hz m1 m2 m3 m4 m5 m6 m7 m8 m9 m10 m11 m12 m13 hP hpb hmin
      go_wp2_with (go_at_call 27; refine (HSLAB.out W1 HB1.out).mono ?_; rintro e w5 ⟨rfl, hb5⟩; have HB5 := Lib.hid hb5; clear hb5)
      have HOW5 := Lib.hid (show BlI W2 W2.heap.size u6 (blocksTo im k ++ cellBs im k 0) w5 by rw [cellBs, List.append_nil]; exact HBL1.out.later HB5.out)
      have HPV5 := Lib.hid (hpbk HB5.out HLT1.out)
      have HNE := Lib.hid (show u6.ownBlock ≠ some wr.heap.size from fun hh => by have := HOWN.out _ hh; omega)
      have HBS := Lib.hid HB1.out
      clear p0 p1 p2 p3 p4 p5 p6 p7 p8 p9 p10 q0 q1 q2 q3 q4 q5 q6 q7 q8 q9 q10 hW1
      generalize wr.heap.size = pb at *
      go_loopg [6, 11, 12, 50, 51, 52, 53, 54, 55, 56, 57, 58, 59, 60, 61, 62, 63, 64, 65, 66, 67, 68, 69, 70, 71, 72, 73, 74, 75, 76, 77] n (fun g v6 v11 _ _ _ _ _ _ _ _ _ _ _ _ _ _ _ _ _ _ _ _ _ _ _ _ _ _ _ _ _ wi => ∃ c : Nat, v11 = .int .i64 (c : Int) ∧ Aside0 (c + g = n) ∧ Aside0 (BlI W2 W2.heap.size v6 (blocksTo im k ++ cellBs im k c) wi) ∧ Aside0 (pb < wi.heap.size ∧ wi.heap[pb]? = W1.heap[pb]?) ∧ Aside0 (v6.ownBlock ≠ some pb))
      case atStart => exact ⟨0, rfl, ⟨by omega⟩, ⟨HOW5.out⟩, ⟨HPV5.out⟩, ⟨HNE.out⟩⟩
      case round =>
        obtain ⟨c, rfl, hcg, hbl, hpw, hne⟩ := hrel
        have HBL := Lib.hid hbl.out
        by_cases hc : c < n
        case neg =>
          obtain ⟨t1, t2⟩ := nlt_dec hc
          have hcn : c = n := by have := hcg.out; omega
          subst hcn
          clear hc hcg hbl hpw hne
          go_wp2
          go_roundg g1
          case measure => omega
          case rel => exact ⟨k + 1, by simp, ⟨HG.out⟩, ⟨by rw [HPB.out]; exact HBL.out⟩⟩
        obtain ⟨t1, t2⟩ := lt_dec hc
        obtain ⟨g2, rfl⟩ := lp_pos hcg.out hc
        have HCG := Lib.hid (lp_step hcg.out)
        have HC256 := Lib.hid (Nat.lt_of_lt_of_le hc HM2.out)
        have HCN := Lib.hid hc
        have HNE2 := Lib.hid hne.out
        have HPW := Lib.hid hpw.out
        obtain ⟨q0, q1, q2, q3, q4, q5, q6, q7, q8, q9, q10⟩ := HPV.out wr hpw.out.2
        rw [HCL.out] at q2
        have c1 : wrap64 ((c : Int) + 1) = (c : Int) + 1 := up1 (by have := HC256.out; omega)
        have hmin := HKD1.out
        have hz16 := HZ16.out
        have HLIVE := Lib.hid (live_c (HV2.out wr hbl.out.below) k HK.out c HC256.out)
        have HADR := Lib.hid (HAD.out wr hbl.out.below)
        clear hc hcg hne hpw hbl
        cases hb : (im.pg k).bit c with
        | false =>
          rw [hb] at HLIVE
          have HNX := Lib.hid (show cellBs im k (c + 1) = cellBs im k c from cell_not hb)
          clear hb
          go_wp2_with (go_at_call 28; refine HLIVE.out.mono ?_; rintro e w6 ⟨rfl, hw6⟩; have hw6s := hw6.symm; clear hw6; subst hw6s)
          go_roundg g2
          case measure => omega
          case rel => exact ⟨c + 1, by simp; try exact c1, ⟨HCG.out⟩, ⟨by rw [HNX.out]; exact HBL.out⟩, ⟨HPW.out⟩, ⟨HNE2.out⟩⟩
        | true =>
          rw [hb] at HLIVE
          obtain ⟨zc, hzc⟩ : ∃ zc, zc = c * z := ⟨_, rfl⟩
          obtain ⟨y1, y2, y3, y4⟩ := cell_q HM1.out HCN.out hzc HPU.out
          obtain ⟨Q, hQ⟩ : ∃ Q, P + (zc : Int) = Q := ⟨_, rfl⟩
          have y5 : IntKind.u64.wrap (P + (zc : Int)) = Q := by rw [y4]; exact hQ
          clear y4
          have HNX := Lib.hid (show cellBs im k (c + 1) = cellBs im k c ++ [(Q, (z : Int))] by rw [HCB.out, if_pos hb]; simp only [List.map_cons, List.map_nil]; rw [← hQ, ← y1])
          have hcl1 := cellBs_len im k c
          have hbl1 := blocksTo_len im k
          have HLEN := Lib.hid (show (blocksTo im k ++ cellBs im k c).length ≤ 300000 by
            rw [List.length_append]
            have h1 := HK.out; have h2 := HGEO.out.n1024; have h3 := HC256.out; unfold Im.n at h2; omega)
          have HML := Lib.hid (show (blocksTo im k ++ cellBs im k c).length + 1 ≤ maxLen by have := HLEN.out; unfold maxLen; omega)
          have HBY := Lib.hid (show ((blocksTo im k ++ cellBs im k c).length + 1) * 16 ≤ 140737488355328 by have := HLEN.out; omega)
          obtain ⟨bs, hbs⟩ : ∃ bs, blocksTo im k ++ cellBs im k c = bs := ⟨_, rfl⟩
          have HBS2 := Lib.hid hbs
          rw [hbs] at HBL HML HBY
          obtain ⟨i0, hi0, hz0, hz1, hz2⟩ := info_parts infoBlk
          have HI0 := Lib.hid hi0
          have HSZ := Lib.hid HBL.out.below.size
          have HOW := Lib.hid HBL.out.own
          clear hb hzc hQ hcl1 hbl1 hbs hi0
          go_wp2_with (first
            | (go_at_call 28; refine HLIVE.out.mono ?_; rintro e w6 ⟨rfl, hw6⟩; have hw6s := hw6.symm; clear hw6; subst hw6s)
            | (go_at_call 26; refine HADR.out.mono ?_; rintro e w6 ⟨rfl, hw6⟩; have hw6s := hw6.symm; clear hw6; subst hw6s)
            | (at_builtin; refine wpList_append_lies _ (by rfl) _ _ _ (by rfl) W2.heap.size 42 i0 _ 2 16 Try.underlying34 HI0.out hz0 hz1 hz2 rfl (by omega) _ bs.length (bVals bs) (by rfl) (HOW.out.alloc _) ⟨wr.heap.size, 0, none⟩ 1 1 [.int .u64 Q, .int .u64 (z : Int)] (by rfl) (by rfl) (World.news_of_block (cs := #[.int .u64 Q, .int .u64 (z : Int)]) (t := 42) (fr := (0, 0)) (heap_alloc_new wr _)) (by simp [Value.oneCell']) (by omega) HML.out HBY.out (by have := HSZ.out; simp; omega) (wr.heap.size + 1) (by simp) ?_; intro g cap w3 hown3 hgrow3 hat3 hlt3; have HOWN3 := Lib.hid hown3; have HGROW3 := Lib.hid hgrow3; have HAT3 := Lib.hid hat3; clear hown3 hgrow3 hat3 hlt3))
          have HBLx := Lib.hid (HBL.out.later ((Below.refl wr.heap.size wr).alloc (Nat.le_refl _) (.cells #[.int .u64 Q, .int .u64 (z : Int)] 42 (0, 0))))
          have HBL3 := Lib.hid (BlI.step (b := (Q, (z : Int))) HBLx.out rfl (Nat.le_refl _) HOWN3.out HGROW3.out)
          go_roundg g2
          case measure => omega
          case rel => exact ⟨c + 1, by simp; try exact c1, ⟨HCG.out⟩, ⟨by rw [HNX.out, ← List.append_assoc, HBS2.out]; exact HBL3.out⟩, ⟨blk_stays HPW.out HGROW3.out HNE2.out⟩, ⟨own_apart HAT3.out HPW.out.1 HNE2.out⟩⟩
    have e2 : ((im.pg k).kd == 4) = false := by simpa using h4
    rw [e2] at HSLAB
    by_cases h2 : (im.pg k).kd = 2
    case pos =>
      have e1 : ((im.pg k).kd == 2) = true := by simpa using h2
      obtain ⟨od, hod⟩ : ∃ od : Nat, (im.pg k).od = od := ⟨(im.pg k).od.toNat, by have := (HR.out k HK.out).od; omega⟩
      have ho8 : od ≤ 8 := by have h1 := (HR.out k HK.out).od; have h2 := HGEO.out.order; have h3 := HGEO.out.o8; omega
      obtain ⟨sz, hsz, hszI, hszb⟩ := big_num ho8
      have hmin : min od 64 = od := Nat.min_eq_left (Nat.le_trans ho8 (by decide))
      obtain ⟨P, hP⟩ : ∃ P, im.base + 4096 * (k : Int) = P := ⟨_, rfl⟩
      have hpb := addr_bd HGEO.out (i := k) HK.out
      rw [hP] at hpb
      have HPB := Lib.hid (show blocksTo im (k + 1) = blocksTo im k ++ [(P, (sz : Int))] by rw [blocksTo, page_big h2, hP, hod, Int.toNat_natCast, hsz])
      have HAD := Lib.hid (show Calls Try.prog 26 #[.pointer (some ⟨gv, 0, none⟩), .int .i64 (k : Int)] W1.drew fun e w' => e = .returned (.int .u64 P) ∧ w' = W1.drew by
        have := address_c (HV2.out W1.drew HB1.out.drew) k
        rw [hP, wrap_u64_in (Int.le_of_lt hpb.1) (by have := hpb.2; omega)] at this
        exact this)
      have hml := blocksTo_len im k
      have HLEN := Lib.hid (show (blocksTo im k).length ≤ 262144 by have h1 := HK.out; have h2 := HGEO.out.n1024; unfold Im.n at h2; omega)
      rw [hod] at q1
      have HML := Lib.hid (show (blocksTo im k).length + 1 ≤ maxLen by have := HLEN.out; unfold maxLen; omega)
      have HBY := Lib.hid (show ((blocksTo im k).length + 1) * 16 ≤ 140737488355328 by have := HLEN.out; omega)
      obtain ⟨bs, hbs⟩ : ∃ bs, blocksTo im k = bs := ⟨_, rfl⟩
      rw [hbs] at HPB HBL1 HML HBY
      have HOW := Lib.hid (show W1.drew.ownsRow W2.heap.size 42 2 u6 bs.length (bVals bs) from own_below HBL1.out.own ((Below.refl _ W1).drew))
      obtain ⟨i0, hi0, hz0, hz1, hz2⟩ := info_parts infoBlk
      have HI0 := Lib.hid hi0
      have HB1S := Lib.hid HB1.out.size
      clear h2 h4 hod hsz hszb hP hpb hml hbs hi0
      go_upto_region 10 with (fail)
      clear p0 p1 p2 p3 p4 p5 p6 p7 p8 p9 p10 hW1
      go_region_law
        (first
          | (refine step_append_lies _ (by rfl) _ _ _ (by rfl) W2.heap.size 42 i0 _ 2 16 Try.underlying34 HI0.out hz0 hz1 hz2 rfl (by omega) u6 bs.length (bVals bs) (by rfl) (HOW.out.alloc _) ⟨W1.heap.size, 0, none⟩ 1 1 [.int .u64 P, .int .u64 (sz : Int)] (by rfl) (by rfl) (World.news_of_block (cs := #[.int .u64 P, .int .u64 (sz : Int)]) (t := 42) (fr := (0, 0)) (heap_alloc_new W1.drew _)) (by simp [Value.oneCell']) (by omega) HML.out HBY.out (by have := HB1S.out; simp; omega) (W1.heap.size + 1) (by simp) ?_; intro g cap w3 hown3 hgrow3 hat3 hlt3; have HOWN3 := Lib.hid hown3; have HGROW3 := Lib.hid hgrow3; clear hown3 hgrow3 hat3 hlt3)
          | (go_simp; go_at_call 26; refine HAD.out.mono ?_; rintro e w5 ⟨rfl, hw5⟩; have hw5s := hw5.symm; clear hw5; subst hw5s))
      all_goals
        have HBLx := Lib.hid (HBL1.out.later (((Below.refl W1.heap.size W1).drew).alloc (Nat.le_refl _) (.cells #[.int .u64 P, .int .u64 (sz : Int)] 42 (0, 0))))
        have HBL3 := Lib.hid (BlI.step (b := (P, (sz : Int))) HBLx.out rfl (Nat.le_refl _) HOWN3.out HGROW3.out)
        clear q0 q1 q2 q3 q4 q5 q6 q7 q8 q9 q10
        go_wp2_with (go_at_call 27; refine (HSLAB.out w3 HBL3.out.below).mono ?_; rintro e w5 ⟨rfl, hb5⟩; have HB5 := Lib.hid hb5; clear hb5)
        go_loopg [6, 11, 12, 50, 51, 52, 53, 54, 55, 56, 57, 58, 59, 60, 61, 62, 63, 64, 65, 66, 67, 68, 69, 70, 71, 72, 73, 74, 75, 76, 77] 0 (fun _ v6 v11 _ _ _ _ _ _ _ _ _ _ _ _ _ _ _ _ _ _ _ _ _ _ _ _ _ _ _ _ _ wi => v6 = .slice (some ⟨g, 0, none⟩) (bs.length + 1) cap ∧ v11 = .int .i64 0 ∧ wi = w5)
        case atStart => exact ⟨rfl, rfl, rfl⟩
        case round =>
          obtain ⟨rfl, rfl, rfl⟩ := hrel
          go_wp2
          go_roundg g1
          case measure => omega
          case rel => exact ⟨k + 1, by simp, ⟨HG.out⟩, ⟨by rw [HPB.out]; exact HBL3.out.later HB5.out⟩⟩
    have e1 : ((im.pg k).kd == 2) = false := by simpa using h2
    have HPB := Lib.hid (show blocksTo im (k + 1) = blocksTo im k by rw [blocksTo, page_no_blk h2 h4, List.append_nil])
    clear h2 h4
    go_wp2_with (go_at_call 27; refine (HSLAB.out W1 HB1.out).mono ?_; rintro e w5 ⟨rfl, hb5⟩; have HB5 := Lib.hid hb5; clear hb5)
    clear p0 p1 p2 p3 p4 p5 p6 p7 p8 p9 p10 q0 q1 q2 q3 q4 q5 q6 q7 q8 q9 q10 hW1
    go_loopg [6, 11, 12, 50, 51, 52, 53, 54, 55, 56, 57, 58, 59, 60, 61, 62, 63, 64, 65, 66, 67, 68, 69, 70, 71, 72, 73, 74, 75, 76, 77] 0 (fun g v6 v11 _ _ _ _ _ _ _ _ _ _ _ _ _ _ _ _ _ _ _ _ _ _ _ _ _ _ _ _ _ wi => v6 = u6 ∧ v11 = .int .i64 0 ∧ wi = w5)
    case atStart => exact ⟨rfl, rfl, rfl⟩
    case round =>
      obtain ⟨rfl, rfl, rfl⟩ := hrel
      go_wp2
      go_roundg g1
      case measure => omega
      case rel => exact ⟨k + 1, by simp, ⟨HG.out⟩, ⟨by rw [HPB.out]; exact HBL1.out.later HB5.out⟩⟩
theorem Blocks_c (h : ImAt F w im s) (hF : ∀ b, F b → b < w.heap.size) : Calls Try.prog 12 #[.agg (im.cells s)] w (BlocksP im w) :=
  (Blocks_o h hF).mono fun e w' ⟨v, he, ho, hb⟩ => by
    obtain ⟨A, cap, hv, hcap, hrow⟩ := own_rowB ho
    exact ⟨A, cap, by rw [he, hv], hcap, hrow.mono (fun b hx => ⟨hx.1, hx.2.1⟩), hb⟩
end
end Go.Proofs.Ytkgedpcipaogjaa.WB
end
section
namespace Go.Proofs.Ytkgedpcipaogjaa.WB
open Go Go.RowKit Go.Proofs.YtkgedpcipaogjaaW.PrintWords Go.Proofs.YtkgedpcipaogjaaW.PrintLast Go.Proofs.YtkgedpcipaogjaaW.PrintMore
set_option linter.unusedVariables false
set_option linter.unusedSimpArgs false
def AwakeOk : Prop := ∀ w : World, Calls Try.prog 11 #[] w fun e w' => e = .returned (.bool true) ∧ Below w.heap.size w w'
section
variable {F : Nat → Prop} {im : Im} {s : Sl} {w : World}
theorem is_t (h : ImAt F w im s) (hF : ∀ b, F b → b < w.heap.size) {r p : Int} (hr : im.check = (r, p)) : Calls Try.prog 13 #[.agg (im.cells s), .int .i64 r, .int .i64 p] w (DocP w (.bool true)) := by
  have := is_d h hF r p
  rw [hr] at this
  simpa using this
set_option maxRecDepth 100000 in
set_option maxHeartbeats 4000000 in
theorem checks_core (haw : AwakeOk) (h : ImAt F w im s) (hF : ∀ b, F b → b < w.heap.size) : Calls Try.prog 4 #[.agg (im.cells s)] w (DocP w (.bool true)) := by
  obtain ⟨A, a, B, b, C, c, D, d, E, e⟩ := s
  obtain ⟨WA, hWA⟩ : ∃ W, w.alloc (imO im ⟨A, a, B, b, C, c, D, d, E, e⟩) = W := ⟨_, rfl⟩
  obtain ⟨hsa, hbl, hvl⟩ := box_facts h hF hWA
  have HBL := Lib.hid hbl
  have HVL := Lib.hid hvl
  have HFA := Lib.hid (show ∀ b, F b → b < WA.heap.size from fun b hb => by have := hF b hb; omega)
  have HWF := Lib.hid h.wf
  have hl := len_i64 h.wf
  obtain ⟨c0, c1, c2, c3, c4, c5, c6, c7, c8⟩ := (hvl WA (Below.refl _ _)).cell
  dsimp only at c0 c1 c2 c3 c4 c5 c6 c7 c8
  unfold imO Im.cells at hWA
  unfold Im.cells
  clear h hF hvl hbl
  have HAW := Lib.hid haw
  have HCK := Lib.hid (fun (wx : World) (hx : Below WA.heap.size WA wx) => docCheck (HVL.out wx hx).im (fun b hb => Nat.lt_of_lt_of_le (HFA.out b hb) hx.size))
  obtain ⟨⟨a1, a2⟩, ha⟩ : ∃ b, im.check = b := ⟨_, rfl⟩
  have HIS := Lib.hid (fun (wx : World) (hx : Below WA.heap.size WA wx) => is_t (HVL.out wx hx).im (fun b hb => Nat.lt_of_lt_of_le (HFA.out b hb) hx.size) ha)
  rw [ha] at HCK
  unfold Im.cells at HCK HIS
  dsimp only at HCK HIS
  clear haw ha
  go_enter Try.func4, Try.ntmps4
  go_wp2_with (first | (go_at_call 11; refine (HAW.out _).mono ?_; rintro e w4 ⟨rfl, hb4⟩; have HB4 := Lib.hid hb4; obtain ⟨d0, d1, d2, d3, d4, d5, d6, d7, d8⟩ := (HVL.out w4 hb4).cell; dsimp only at d0 d1 d2 d3 d4 d5 d6 d7 d8; clear hb4 c0 c1 c2 c3 c4 c5 c6 c7 c8) | (go_at_call 16; refine (HCK.out w4 HB4.out).mono ?_; rintro e w5 ⟨rfl, hb5⟩; have hb6 : Below WA.heap.size WA w5 := HB4.out.trans (hb5.mono HB4.out.size); have HB6 := Lib.hid hb6; obtain ⟨e0, e1, e2, e3, e4, e5, e6, e7, e8⟩ := (HVL.out w5 hb6).cell; dsimp only at e0 e1 e2 e3 e4 e5 e6 e7 e8; clear hb5 hb6 d0 d1 d2 d3 d4 d5 d6 d7 d8) | (go_at_call 13; refine (HIS.out w5 HB6.out).mono ?_; rintro e w7 ⟨rfl, hb7⟩; have HB7 := Lib.hid hb7; clear hb7))
  go_ret
  exact ⟨rfl, HBL.out _ (HB6.out.trans (HB7.out.mono HB6.out.size))⟩
end
end Go.Proofs.Ytkgedpcipaogjaa.WB
end
section
namespace Go.Proofs.Ytkgedpcipaogjaa.WB
open Go Go.RowKit Go.Proofs.YtkgedpcipaogjaaW.PrintWords Go.Proofs.YtkgedpcipaogjaaW.PrintLast Go.Proofs.YtkgedpcipaogjaaW.PrintMore Go.Proofs.Ytkgedpcipaogjaa.PWalkChecks Go.Proofs.Ytkgedpcipaogjaa.Mem
set_option linter.unusedVariables false
set_option linter.unusedSimpArgs false
def sPg0 : Pg := { kd := 4, od := 0, cl := 7, lv := 1, nx := -1, pv := -1, fs := 0, b0 := 2, b1 := 0, b2 := 0, b3 := 0 }
def sPg1 : Pg := { kd := 2, od := 0, cl := 0, lv := 0, nx := -1, pv := -1, fs := -1, b0 := 0, b1 := 0, b2 := 0, b3 := 0 }
def slabIm : Im := { base := 65536, limit := 2, order := 1, regions := 1, mem := vMem, pages := [sPg0, sPg1], pairs := [[0]], heads := [0, 0], parts := [-1, -1, -1, -1, -1, -1, -1, 0] }
def nomemIm : Im := { voidIm with mem := [] }
theorem void_ok : voidIm.check = (0, 0) := by kernel_rfl
theorem nomem_bad : nomemIm.check = (2, 1) := by kernel_rfl
theorem slab_ok : slabIm.check = (0, 0) := by kernel_rfl
theorem slab_two : slabIm.blocks = [(67584, 2048), (69632, 4096)] := by kernel_rfl
theorem slabIm_wf : slabIm.Wf := by
  refine ⟨by unfold U64; decide, by unfold I64; decide, by unfold I64; decide, by unfold I64; decide, voidIm_wf.mem, fun p hp => ?_, voidIm_wf.pairs, fun x hx => ?_, fun x hx => ?_, voidIm_wf.lmem, by decide, by decide, voidIm_wf.lrows, by decide, by decide⟩
  · change p ∈ [sPg0, sPg1] at hp
    simp at hp
    rcases hp with rfl | rfl <;> exact ⟨by unfold I64; decide, by unfold I64; decide, by unfold I64; decide, by unfold I64; decide, by unfold I64; decide, by unfold I64; decide, by unfold I64; decide, by unfold U64; decide, by unfold U64; decide, by unfold U64; decide, by unfold U64; decide⟩
  · change x ∈ [(0 : Int), 0] at hx
    simp at hx
    subst hx
    unfold U64; decide
  · change x ∈ [(-1 : Int), -1, -1, -1, -1, -1, -1, 0] at hx
    simp at hx
    rcases hx with rfl | rfl <;> (unfold I64; decide)
theorem nomem_wf : nomemIm.Wf := ⟨voidIm_wf.base, voidIm_wf.limit, voidIm_wf.order, voidIm_wf.regions, fun x hx => (by cases hx), voidIm_wf.pages, voidIm_wf.pairs, voidIm_wf.heads, voidIm_wf.parts, by decide, voidIm_wf.lpages, voidIm_wf.lpairs, voidIm_wf.lrows, voidIm_wf.lheads, voidIm_wf.lparts⟩
theorem void_cells (s : Sl) : voidIm.cells s = #[.int .u64 65536, .int .i64 2, .int .i64 1, .int .i64 1, .slice s.A 8192 s.a, .slice s.B 2 s.b, .slice s.C 1 s.c, .slice s.D 2 s.d, .slice s.E 8 s.e] := by
  unfold Im.cells
  rw [show voidIm.mem.length = 8192 from vMem_len]
  rfl
theorem slab_cells (s : Sl) : slabIm.cells s = #[.int .u64 65536, .int .i64 2, .int .i64 1, .int .i64 1, .slice s.A 8192 s.a, .slice s.B 2 s.b, .slice s.C 1 s.c, .slice s.D 2 s.d, .slice s.E 8 s.e] := by
  unfold Im.cells
  rw [show slabIm.mem.length = 8192 from vMem_len]
  rfl
set_option maxRecDepth 100000 in
set_option maxHeartbeats 1000000 in
theorem slabbed_c (w : World) : Calls Try.prog 15 #[] w fun e w' => ∃ s : Sl, e = .returned (.agg (slabIm.cells s)) ∧ ImAt (Nw w.heap.size w') w' slabIm s ∧ Below w.heap.size w w' := by
  have HVO := Lib.hid (fun wx => (void_c wx))
  go_enter Try.func15, Try.ntmps15
  go_upto_region 3 with (go_at_call 10; refine (HVO.out _).mono ?_; rintro e w1 ⟨s, rfl, him, hb, g1, g5, g6, g8, hg⟩; rw [void_cells, hg.eA, hg.eC, hg.eE, hg.a, hg.c, hg.e]; have HG := Lib.hid hg; have HB := Lib.hid hb; have HIM := Lib.hid him; clear hg hb him)
  have hq1 : g8 < w1.heap.size := HG.out.n8.2
  obtain ⟨q, hq⟩ : ∃ q, w1.heap.size = q := ⟨_, rfl⟩
  rw [hq] at hq1
  obtain ⟨W2, hW2⟩ : ∃ W, (w1.alloc (.cells #[.int .u64 65536, .int .i64 2, .int .i64 1, .int .i64 1, .slice (some ⟨g1, 0, none⟩) 8192 8192, .slice s.B 2 s.b, .slice (some ⟨g6, 0, none⟩) 1 1, .slice s.D 2 s.d, .slice (some ⟨g8, 0, none⟩) 8 8] 31)).alloc (.cells #[.int .i64 4, .int .i64 0, .int .i64 7, .int .i64 1, .int .i64 (-1), .int .i64 (-1), .int .i64 0, .int .u64 0, .int .u64 0, .int .u64 0, .int .u64 0] 39) = W := ⟨_, rfl⟩
  have v2 : W2.heap[q]? = some (.cells #[.int .u64 65536, .int .i64 2, .int .i64 1, .int .i64 1, .slice (some ⟨g1, 0, none⟩) 8192 8192, .slice s.B 2 s.b, .slice (some ⟨g6, 0, none⟩) 1 1, .slice s.D 2 s.d, .slice (some ⟨g8, 0, none⟩) 8 8] 31 (0, 0)) := by rw [← hW2, ← hq]; exact blk_alloc (blk_new _ _) _
  have p2 : W2.heap[q + 1]? = some (.cells #[.int .i64 4, .int .i64 0, .int .i64 7, .int .i64 1, .int .i64 (-1), .int .i64 (-1), .int .i64 0, .int .u64 0, .int .u64 0, .int .u64 0, .int .u64 0] 39 (0, 0)) := by
    have := blk_new (w1.alloc (.cells #[.int .u64 65536, .int .i64 2, .int .i64 1, .int .i64 1, .slice (some ⟨g1, 0, none⟩) 8192 8192, .slice s.B 2 s.b, .slice (some ⟨g6, 0, none⟩) 1 1, .slice s.D 2 s.d, .slice (some ⟨g8, 0, none⟩) 8 8] 31)) (.cells #[.int .i64 4, .int .i64 0, .int .i64 7, .int .i64 1, .int .i64 (-1), .int .i64 (-1), .int .i64 0, .int .u64 0, .int .u64 0, .int .u64 0, .int .u64 0] 39 (0, 0))
    simp only [World.size_alloc] at this
    rw [← hW2, ← hq]; exact this
  have s2 : W2.heap.size = q + 2 := by rw [← hW2]; simp; omega
  have k2 : ∀ b, b < q → W2.heap[b]? = w1.heap[b]? := fun b hb => by rw [← hW2, Below.heap_alloc _ _ _ (by simp; omega), Below.heap_alloc _ _ _ (by omega)]
  have b2 : Below w1.heap.size w1 W2 := by rw [← hW2]; exact ((Below.refl _ _).alloc (Nat.le_refl _) _).alloc (by simp) _
  obtain ⟨W3, hW3⟩ : ∃ W, W2.setCell ⟨q + 1, 7, none⟩ (.int .u64 2) = W := ⟨_, rfl⟩
  have v3 : W3.heap[q]? = some (.cells #[.int .u64 65536, .int .i64 2, .int .i64 1, .int .i64 1, .slice (some ⟨g1, 0, none⟩) 8192 8192, .slice s.B 2 s.b, .slice (some ⟨g6, 0, none⟩) 1 1, .slice s.D 2 s.d, .slice (some ⟨g8, 0, none⟩) 8 8] 31 (0, 0)) := by rw [← hW3, Below.heap_setCell _ _ _ _ (show q ≠ q + 1 by omega)]; exact v2
  have p3 : W3.heap[q + 1]? = some (.cells #[.int .i64 4, .int .i64 0, .int .i64 7, .int .i64 1, .int .i64 (-1), .int .i64 (-1), .int .i64 0, .int .u64 2, .int .u64 0, .int .u64 0, .int .u64 0] 39 (0, 0)) := by rw [← hW3]; exact blk_put p2 7 _ rfl
  have s3 : W3.heap.size = q + 2 := by rw [← hW3, ← s2]; simp [World.setCell]
  have k3 : ∀ b, b < q → W3.heap[b]? = w1.heap[b]? := fun b hb => by rw [← hW3, Below.heap_setCell _ _ _ _ (show b ≠ q + 1 by omega)]; exact k2 b hb
  have b3 : Below w1.heap.size w1 W3 := by rw [← hW3]; exact b2.setCell (by show w1.heap.size ≤ q + 1; omega) _
  obtain ⟨W4, hW4⟩ : ∃ W, W3.alloc (.cells #[.int .i64 4, .int .i64 0, .int .i64 7, .int .i64 1, .int .i64 (-1), .int .i64 (-1), .int .i64 0, .int .u64 2, .int .u64 0, .int .u64 0, .int .u64 0, .int .i64 2, .int .i64 0, .int .i64 0, .int .i64 0, .int .i64 (-1), .int .i64 (-1), .int .i64 (-1), .int .u64 0, .int .u64 0, .int .u64 0, .int .u64 0] 39) = W := ⟨_, rfl⟩
  have v4 : W4.heap[q]? = some (.cells #[.int .u64 65536, .int .i64 2, .int .i64 1, .int .i64 1, .slice (some ⟨g1, 0, none⟩) 8192 8192, .slice s.B 2 s.b, .slice (some ⟨g6, 0, none⟩) 1 1, .slice s.D 2 s.d, .slice (some ⟨g8, 0, none⟩) 8 8] 31 (0, 0)) := by rw [← hW4]; exact blk_alloc v3 _
  have l4 : W4.heap[W3.heap.size]? = some (.cells #[.int .i64 4, .int .i64 0, .int .i64 7, .int .i64 1, .int .i64 (-1), .int .i64 (-1), .int .i64 0, .int .u64 2, .int .u64 0, .int .u64 0, .int .u64 0, .int .i64 2, .int .i64 0, .int .i64 0, .int .i64 0, .int .i64 (-1), .int .i64 (-1), .int .i64 (-1), .int .u64 0, .int .u64 0, .int .u64 0, .int .u64 0] 39 (0, 0)) := by rw [← hW4]; exact blk_new _ _
  have s4 : W4.heap.size = q + 3 := by rw [← hW4]; simp [s3]
  have k4 : ∀ b, b < q → W4.heap[b]? = w1.heap[b]? := fun b hb => by rw [← hW4, Below.heap_alloc _ _ _ (by omega)]; exact k3 b hb
  have b4 : Below w1.heap.size w1 W4 := by rw [← hW4]; exact b3.alloc b3.size _
  obtain ⟨W5, hW5⟩ : ∃ W, W4.setCell ⟨q, 5, none⟩ (.slice (some ⟨W3.heap.size, 0, none⟩) 2 2) = W := ⟨_, rfl⟩
  have v5 : W5.heap[q]? = some (.cells #[.int .u64 65536, .int .i64 2, .int .i64 1, .int .i64 1, .slice (some ⟨g1, 0, none⟩) 8192 8192, .slice (some ⟨W3.heap.size, 0, none⟩) 2 2, .slice (some ⟨g6, 0, none⟩) 1 1, .slice s.D 2 s.d, .slice (some ⟨g8, 0, none⟩) 8 8] 31 (0, 0)) := by rw [← hW5]; exact blk_put v4 5 _ rfl
  have l5 : W5.heap[W3.heap.size]? = some (.cells #[.int .i64 4, .int .i64 0, .int .i64 7, .int .i64 1, .int .i64 (-1), .int .i64 (-1), .int .i64 0, .int .u64 2, .int .u64 0, .int .u64 0, .int .u64 0, .int .i64 2, .int .i64 0, .int .i64 0, .int .i64 0, .int .i64 (-1), .int .i64 (-1), .int .i64 (-1), .int .u64 0, .int .u64 0, .int .u64 0, .int .u64 0] 39 (0, 0)) := by rw [← hW5, Below.heap_setCell _ _ _ _ (show W3.heap.size ≠ q by omega)]; exact l4
  have s5 : W5.heap.size = q + 3 := by rw [← hW5, ← s4]; simp [World.setCell]
  have k5 : ∀ b, b < q → W5.heap[b]? = w1.heap[b]? := fun b hb => by rw [← hW5, Below.heap_setCell _ _ _ _ (show b ≠ q by omega)]; exact k4 b hb
  have b5 : Below w1.heap.size w1 W5 := by rw [← hW5]; exact b4.setCell (by show w1.heap.size ≤ q; omega) _
  obtain ⟨W6, hW6⟩ : ∃ W, W5.alloc (.cells #[.int .u64 0, .int .u64 0] 22) = W := ⟨_, rfl⟩
  have v6 : W6.heap[q]? = some (.cells #[.int .u64 65536, .int .i64 2, .int .i64 1, .int .i64 1, .slice (some ⟨g1, 0, none⟩) 8192 8192, .slice (some ⟨W3.heap.size, 0, none⟩) 2 2, .slice (some ⟨g6, 0, none⟩) 1 1, .slice s.D 2 s.d, .slice (some ⟨g8, 0, none⟩) 8 8] 31 (0, 0)) := by rw [← hW6]; exact blk_alloc v5 _
  have l6 : W6.heap[W3.heap.size]? = some (.cells #[.int .i64 4, .int .i64 0, .int .i64 7, .int .i64 1, .int .i64 (-1), .int .i64 (-1), .int .i64 0, .int .u64 2, .int .u64 0, .int .u64 0, .int .u64 0, .int .i64 2, .int .i64 0, .int .i64 0, .int .i64 0, .int .i64 (-1), .int .i64 (-1), .int .i64 (-1), .int .u64 0, .int .u64 0, .int .u64 0, .int .u64 0] 39 (0, 0)) := by rw [← hW6]; exact blk_alloc l5 _
  have m6 : W6.heap[W5.heap.size]? = some (.cells #[.int .u64 0, .int .u64 0] 22 (0, 0)) := by rw [← hW6]; exact blk_new _ _
  have s6 : W6.heap.size = q + 4 := by rw [← hW6]; simp [s5]
  have k6 : ∀ b, b < q → W6.heap[b]? = w1.heap[b]? := fun b hb => by rw [← hW6, Below.heap_alloc _ _ _ (by omega)]; exact k5 b hb
  have b6 : Below w1.heap.size w1 W6 := by rw [← hW6]; exact b5.alloc b5.size _
  obtain ⟨W7, hW7⟩ : ∃ W, W6.setCell ⟨q, 7, none⟩ (.slice (some ⟨W5.heap.size, 0, none⟩) 2 2) = W := ⟨_, rfl⟩
  have v7 : W7.heap[q]? = some (.cells #[.int .u64 65536, .int .i64 2, .int .i64 1, .int .i64 1, .slice (some ⟨g1, 0, none⟩) 8192 8192, .slice (some ⟨W3.heap.size, 0, none⟩) 2 2, .slice (some ⟨g6, 0, none⟩) 1 1, .slice (some ⟨W5.heap.size, 0, none⟩) 2 2, .slice (some ⟨g8, 0, none⟩) 8 8] 31 (0, 0)) := by rw [← hW7]; exact blk_put v6 7 _ rfl
  have l7 : W7.heap[W3.heap.size]? = some (.cells #[.int .i64 4, .int .i64 0, .int .i64 7, .int .i64 1, .int .i64 (-1), .int .i64 (-1), .int .i64 0, .int .u64 2, .int .u64 0, .int .u64 0, .int .u64 0, .int .i64 2, .int .i64 0, .int .i64 0, .int .i64 0, .int .i64 (-1), .int .i64 (-1), .int .i64 (-1), .int .u64 0, .int .u64 0, .int .u64 0, .int .u64 0] 39 (0, 0)) := by rw [← hW7, Below.heap_setCell _ _ _ _ (show W3.heap.size ≠ q by omega)]; exact l6
  have m7 : W7.heap[W5.heap.size]? = some (.cells #[.int .u64 0, .int .u64 0] 22 (0, 0)) := by rw [← hW7, Below.heap_setCell _ _ _ _ (show W5.heap.size ≠ q by omega)]; exact m6
  have s7 : W7.heap.size = q + 4 := by rw [← hW7, ← s6]; simp [World.setCell]
  have k7 : ∀ b, b < q → W7.heap[b]? = w1.heap[b]? := fun b hb => by rw [← hW7, Below.heap_setCell _ _ _ _ (show b ≠ q by omega)]; exact k6 b hb
  have b7 : Below w1.heap.size w1 W7 := by rw [← hW7]; exact b6.setCell (by show w1.heap.size ≤ q; omega) _
  have e7 : W7.heap[g8]? = some (.cells #[.int .i64 (-1), .int .i64 (-1), .int .i64 (-1), .int .i64 (-1), .int .i64 (-1), .int .i64 (-1), .int .i64 (-1), .int .i64 (-1)] 3 (0, 0)) := (k7 g8 hq1).trans HG.out.h8
  obtain ⟨W8, hW8⟩ : ∃ W, W7.setCell ⟨g8, 7, none⟩ (.int .i64 0) = W := ⟨_, rfl⟩
  have v8 : W8.heap[q]? = some (.cells #[.int .u64 65536, .int .i64 2, .int .i64 1, .int .i64 1, .slice (some ⟨g1, 0, none⟩) 8192 8192, .slice (some ⟨W3.heap.size, 0, none⟩) 2 2, .slice (some ⟨g6, 0, none⟩) 1 1, .slice (some ⟨W5.heap.size, 0, none⟩) 2 2, .slice (some ⟨g8, 0, none⟩) 8 8] 31 (0, 0)) := by rw [← hW8, Below.heap_setCell _ _ _ _ (show q ≠ g8 by omega)]; exact v7
  have l8 : W8.heap[W3.heap.size]? = some (.cells #[.int .i64 4, .int .i64 0, .int .i64 7, .int .i64 1, .int .i64 (-1), .int .i64 (-1), .int .i64 0, .int .u64 2, .int .u64 0, .int .u64 0, .int .u64 0, .int .i64 2, .int .i64 0, .int .i64 0, .int .i64 0, .int .i64 (-1), .int .i64 (-1), .int .i64 (-1), .int .u64 0, .int .u64 0, .int .u64 0, .int .u64 0] 39 (0, 0)) := by rw [← hW8, Below.heap_setCell _ _ _ _ (show W3.heap.size ≠ g8 by omega)]; exact l7
  have m8 : W8.heap[W5.heap.size]? = some (.cells #[.int .u64 0, .int .u64 0] 22 (0, 0)) := by rw [← hW8, Below.heap_setCell _ _ _ _ (show W5.heap.size ≠ g8 by omega)]; exact m7
  have e8 : W8.heap[g8]? = some (.cells #[.int .i64 (-1), .int .i64 (-1), .int .i64 (-1), .int .i64 (-1), .int .i64 (-1), .int .i64 (-1), .int .i64 (-1), .int .i64 0] 3 (0, 0)) := by rw [← hW8]; exact blk_put e7 7 _ rfl
  have s8 : W8.heap.size = q + 4 := by rw [← hW8, ← s7]; simp [World.setCell]
  have k8 : ∀ b, b < q → b ≠ g8 → W8.heap[b]? = w1.heap[b]? := fun b hb hne => by rw [← hW8, Below.heap_setCell _ _ _ _ hne]; exact k7 b hb
  have b8 : Below w.heap.size w1 W8 := by
    rw [← hW8]
    exact (b7.mono (by have := HB.out.size; simp at this; omega)).setCell (by show w.heap.size ≤ g8; have := HG.out.n8.1; simp at this; omega) _
  have HH := Lib.hid (And.intro v8 (And.intro l8 (And.intro m8 (And.intro e8 (And.intro s8 (And.intro k8 (And.intro b8 (And.intro s3 (And.intro s5 hq1)))))))))
  have V7 := Lib.hid v7
  have V6 := Lib.hid v6
  have V4 := Lib.hid v4
  have P3 := Lib.hid p3
  have E7 := Lib.hid e7
  have c2 := blk_cell p2 7
  have f2 := blk_frozen p2 7
  clear v2 p2 s2 k2 b2 v3 p3 s3 k3 b3 v4 l4 s4 k4 b4 v5 l5 s5 k5 b5 v6 l6 m6 s6 k6 b6 v7 l7 m7 s7 k7 b7 e7 v8 l8 m8 e8 s8 k8 b8
  go_upto_region 4 with (fail)
  clear c2 f2 hW2
  have p0 := blk_cell P3.out 0
  have p1 := blk_cell P3.out 1
  have p2 := blk_cell P3.out 2
  have p3 := blk_cell P3.out 3
  have p4 := blk_cell P3.out 4
  have p5 := blk_cell P3.out 5
  have p6 := blk_cell P3.out 6
  have p7 := blk_cell P3.out 7
  have p8 := blk_cell P3.out 8
  have p9 := blk_cell P3.out 9
  have p10 := blk_cell P3.out 10
  have c4 := blk_cell V4.out 5
  have f4 := blk_frozen V4.out 5
  go_upto_region 5 with (fail)
  clear p0 p1 p2 p3 p4 p5 p6 p7 p8 p9 p10 c4 f4 hW3 hW4
  have c6 := blk_cell V6.out 7
  have f6 := blk_frozen V6.out 7
  go_upto_region 6 with (fail)
  clear c6 f6 hW5 hW6
  have c7 := blk_cell V7.out 8
  have d7 := blk_cell E7.out 7
  have f7 := blk_frozen E7.out 7
  go_upto_region 7 with (fail)
  clear c7 d7 f7 hW7
  have HR := Lib.hid (show W8.heap[w.heap.size]? = some (.cells #[.int .u64 0, .int .i64 0, .int .i64 0, .int .i64 0, .slice none 0 0, .slice none 0 0, .slice none 0 0, .slice none 0 0, .slice none 0 0] 31 (0, 0)) from by
    obtain ⟨-, -, -, -, -, k8, -, -, -, hq1⟩ := HH.out
    have h1 : w1.heap[w.heap.size]? = some (.cells #[.int .u64 0, .int .i64 0, .int .i64 0, .int .i64 0, .slice none 0 0, .slice none 0 0, .slice none 0 0, .slice none 0 0, .slice none 0 0] 31 (0, 0)) := (HB.out.block w.heap.size (by simp)).trans (blk_new w _)
    have h2 := HG.out.n8.1
    simp at h2
    have h3 := blk_lt h1
    exact (k8 _ (by omega) (by omega)).trans h1)
  have v8 := HH.out.1
  have c0 := blk_cell v8 0
  have c1 := blk_cell v8 1
  have c2 := blk_cell v8 2
  have c3 := blk_cell v8 3
  have c4 := blk_cell v8 4
  have c5 := blk_cell v8 5
  have c6 := blk_cell v8 6
  have c7 := blk_cell v8 7
  have c8 := blk_cell v8 8
  have z0 := blk_cell HR.out 0
  have z1 := blk_cell HR.out 1
  have z2 := blk_cell HR.out 2
  have z3 := blk_cell HR.out 3
  have z4 := blk_cell HR.out 4
  have z5 := blk_cell HR.out 5
  have z6 := blk_cell HR.out 6
  have z7 := blk_cell HR.out 7
  have z8 := blk_cell HR.out 8
  have f0 := blk_frozen HR.out 0
  have f1 := blk_frozen HR.out 1
  have f2 := blk_frozen HR.out 2
  have f3 := blk_frozen HR.out 3
  have f4 := blk_frozen HR.out 4
  have f5 := blk_frozen HR.out 5
  have f6 := blk_frozen HR.out 6
  have f7 := blk_frozen HR.out 7
  have f8 := blk_frozen HR.out 8
  clear v8
  go_wp2
  obtain ⟨j1, j2, j3, j4⟩ := set9 HR.out (.int .u64 65536) (.int .i64 2) (.int .i64 1) (.int .i64 1) (.slice (some ⟨g1, 0, none⟩) 8192 8192) (.slice (some ⟨W3.heap.size, 0, none⟩) 2 2) (.slice (some ⟨g6, 0, none⟩) 1 1) (.slice (some ⟨W5.heap.size, 0, none⟩) 2 2) (.slice (some ⟨g8, 0, none⟩) 8 8)
  obtain ⟨-, l8, m8, e8, s8, k8, b8, s3, s5, hq1⟩ := HH.out
  have J2 := Lib.hid j2
  have J3 := Lib.hid j3
  have J4 := Lib.hid j4
  have L8 := Lib.hid l8
  have M8 := Lib.hid m8
  have E8 := Lib.hid e8
  have S8 := Lib.hid s8
  have K8 := Lib.hid k8
  have B8 := Lib.hid b8
  have S3 := Lib.hid s3
  have S5 := Lib.hid s5
  clear j2 j3 j4 l8 m8 e8 s8 k8 b8 s3 s5
  have y0 := blk_cell j1 0
  have y1 := blk_cell j1 1
  have y2 := blk_cell j1 2
  have y3 := blk_cell j1 3
  have y4 := blk_cell j1 4
  have y5 := blk_cell j1 5
  have y6 := blk_cell j1 6
  have y7 := blk_cell j1 7
  have y8 := blk_cell j1 8
  clear j1
  refine bodyPost_ret (v := .agg (slabIm.cells ⟨some ⟨g1, 0, none⟩, 8192, some ⟨W3.heap.size, 0, none⟩, 2, some ⟨g6, 0, none⟩, 1, some ⟨W5.heap.size, 0, none⟩, 2, some ⟨g8, 0, none⟩, 8⟩)) (by rw [slab_cells]; simp [results, Try.results15, go_sem, y0, y1, y2, y3, y4, y5, y6, y7, y8]) rfl ?_
  have hb1 := HG.out.n1
  have hb5 := HG.out.n5
  have hb6 := HG.out.n6
  have hb8 := HG.out.n8
  have hz : (w.alloc (.cells #[.int .u64 0, .int .i64 0, .int .i64 0, .int .i64 0, .slice none 0 0, .slice none 0 0, .slice none 0 0, .slice none 0 0, .slice none 0 0] 31 (0, 0))).heap.size = w.heap.size + 1 := by simp
  unfold Nw at hb1 hb5 hb6 hb8
  rw [hz] at hb1 hb5 hb6 hb8
  have ne1 : g1 ≠ g8 := blk_ne HG.out.h1 HG.out.h8 (by decide)
  have ne5 : g5 ≠ g8 := blk_ne HG.out.h5 HG.out.h8 (by decide)
  have ne6 : g6 ≠ g8 := blk_ne HG.out.h6 HG.out.h8 (by decide)
  have s3 := S3.out
  have s5 := S5.out
  have s8 := S8.out
  have hq := hq
  refine ⟨_, rfl, ⟨rowI_zero (n := 8192) ((J2.out g1 (by omega)).trans ((K8.out g1 (by omega) ne1).trans HG.out.h1)) ⟨by omega, by rw [J3.out]; omega⟩, rowP_at (p := sPg0) (q := sPg1) ((J2.out _ (by omega)).trans L8.out) rfl ⟨by omega, by rw [J3.out]; omega⟩,
    rowR_at (l := [0]) (c := 1) (t := 28) ((J2.out g6 (by omega)).trans ((K8.out g6 (by omega) ne6).trans HG.out.h6)) (by decide) ⟨by omega, by rw [J3.out]; omega⟩ (rowI_at (xs := [0]) ((J2.out g5 (by omega)).trans ((K8.out g5 (by omega) ne5).trans HG.out.h5)) rfl ⟨by omega, by rw [J3.out]; omega⟩),
    rowI_at (xs := [0, 0]) ((J2.out _ (by omega)).trans M8.out) rfl ⟨by omega, by rw [J3.out]; omega⟩, rowI_at (xs := [-1, -1, -1, -1, -1, -1, -1, 0]) ((J2.out g8 (by omega)).trans E8.out) rfl ⟨by omega, by rw [J3.out]; omega⟩, ?_, Nat.le_refl _, Nat.le_refl _, Nat.le_refl _, Nat.le_refl _, slabIm_wf⟩, ?_⟩
  · show vMem.length ≤ 8192
    rw [vMem_len]; exact Nat.le_refl _
  · exact J4.out _ _ (Nat.le_refl _) ((((Below.refl _ w).alloc (Nat.le_refl _) _).trans (HB.out.mono (by simp))).trans B8.out)
end Go.Proofs.Ytkgedpcipaogjaa.WB
end
section
namespace Go.Proofs.Ytkgedpcipaogjaa.WB
open Go Go.RowKit Go.Proofs.YtkgedpcipaogjaaW.PrintWords Go.Proofs.YtkgedpcipaogjaaW.PrintLast Go.Proofs.YtkgedpcipaogjaaW.PrintMore Go.Proofs.Ytkgedpcipaogjaa.PWalkChecks Go.Proofs.Ytkgedpcipaogjaa.Mem
set_option linter.unusedVariables false
set_option linter.unusedSimpArgs false
theorem void_cfg : ∃ sz, CfgOk 65536 2 1 sz := by
  obtain ⟨k, sz, hk, h⟩ := cfgOk_of (b := 65536) (l := 2) (o := 1) (by decide) (by unfold U64; decide)
  obtain rfl : k = 1 := by omega
  exact ⟨sz, h⟩
theorem void_geo : Geo voidIm 1 1 := by
  obtain ⟨o, r, h⟩ := geo_of voidIm_wf (by kernel_rfl) (by kernel_rfl)
  have h1 := h.order
  have h2 := h.regions
  change (1 : Int) = (o : Int) at h1
  change (1 : Int) = (r : Int) at h2
  obtain rfl : o = 1 := by omega
  obtain rfl : r = 1 := by omega
  exact h
theorem void_rng : ∀ i, i < voidIm.n → Rng voidIm.order ((voidIm.n : Int) - 1) (voidIm.pg i) := rng_of (by kernel_rfl)
theorem open_void {w : World} {s : Sl} (h : ImAt (Nw 0 w) w voidIm s) : Calls Try.prog 25 #[.agg (voidIm.cells s)] w (Made w) := by
  obtain ⟨sz, hc⟩ := void_cfg
  exact mallocOpen_w h void_geo (fun k hk => hk.2) hc (by decide) void_rng
theorem nomem_cells (s : Sl) : nomemIm.cells { s with A := none, a := 0 } = #[.int .u64 65536, .int .i64 2, .int .i64 1, .int .i64 1, .slice none 0 0, .slice s.B 2 s.b, .slice s.C 1 s.c, .slice s.D 2 s.d, .slice s.E 8 s.e] := rfl
theorem nomem_at {F : Nat → Prop} {w : World} {s : Sl} (h : ImAt F w voidIm s) : ImAt F w nomemIm { s with A := none, a := 0 } :=
  ⟨fun h0 => absurd h0 (by decide), h.pages, h.pairs, h.heads, h.parts, Nat.le_refl _, h.cpages, h.cpairs, h.cheads, h.cparts, nomem_wf⟩
theorem nw0 {n : Nat} {w : World} {im : Im} {s : Sl} (h : ImAt (Nw n w) w im s) : ImAt (Nw 0 w) w im s := h.mono (fun b hb => ⟨Nat.zero_le _, hb.2⟩)
theorem is_true {F : Nat → Prop} {im : Im} {s : Sl} {w : World} (h : ImAt F w im s) (hF : ∀ b, F b → b < w.heap.size) {r p : Int} (hr : im.check = (r, p)) (cs : Array Value) (hc : im.cells s = cs) : Calls Try.prog 13 #[.agg cs, .int .i64 r, .int .i64 p] w (DocP w (.bool true)) := hc ▸ is_t h hF hr
theorem blocks_slab {w : World} {s : Sl} (h : ImAt (Nw 0 w) w slabIm s) : Calls Try.prog 12 #[.agg (slabIm.cells s)] w fun e w' => ∃ A cap, e = .returned (.slice A 2 cap) ∧ Below w.heap.size w w' := by
  refine (Blocks_c h (fun b hb => hb.2)).mono ?_
  rintro e w' ⟨A, cap, he, -, -, hb⟩
  refine ⟨A, cap, ?_, hb⟩
  have : slabIm.told.length = 2 := by
    unfold Im.told
    rw [if_pos (by rw [slab_ok]), slab_two]
    rfl
  rw [he, this]
set_option maxRecDepth 100000 in
set_option maxHeartbeats 1000000 in
theorem awake_ok : AwakeOk := by
  intro w
  obtain ⟨sz, hcfg⟩ := void_cfg
  have HNEW := Lib.hid (show ∀ wx, Calls Try.prog 24 #[.agg #[.int .u64 65536, .int .i64 2, .int .i64 1]] wx (Made wx) from fun wx => mallocNew_w hcfg (by unfold U64; decide) wx)
  have HVO := Lib.hid (fun wx => (void_c wx))
  have HSB := Lib.hid (fun wx => (slabbed_c wx))
  clear hcfg
  go_enter Try.func11, Try.ntmps11
  go_upto_region 2 with (go_at_call 10; refine (HVO.out _).mono ?_; rintro e w1 ⟨s, rfl, him, hb, -⟩; have HIM := Lib.hid him; rw [void_cells]; have HB1 := Lib.hid hb; clear him hb)
  obtain ⟨q, hq⟩ : ∃ q, w1.heap.size = q := ⟨_, rfl⟩
  obtain ⟨W2, hW2⟩ : ∃ W, w1.alloc (.cells #[.int .u64 65536, .int .i64 2, .int .i64 1, .int .i64 1, .slice s.A 8192 s.a, .slice s.B 2 s.b, .slice s.C 1 s.c, .slice s.D 2 s.d, .slice s.E 8 s.e] 31) = W := ⟨_, rfl⟩
  have v2 : W2.heap[q]? = some (.cells #[.int .u64 65536, .int .i64 2, .int .i64 1, .int .i64 1, .slice s.A 8192 s.a, .slice s.B 2 s.b, .slice s.C 1 s.c, .slice s.D 2 s.d, .slice s.E 8 s.e] 31 (0, 0)) := by rw [← hW2, ← hq]; exact blk_new _ _
  have b2 : Below w1.heap.size w1 W2 := by rw [← hW2]; exact (Below.refl _ _).alloc (Nat.le_refl _) _
  obtain ⟨W3, hW3⟩ : ∃ W, W2.setCell ⟨q, 4, none⟩ (.slice none 0 0) = W := ⟨_, rfl⟩
  have HV3 := Lib.hid (show W3.heap[q]? = some (.cells #[.int .u64 65536, .int .i64 2, .int .i64 1, .int .i64 1, .slice none 0 0, .slice s.B 2 s.b, .slice s.C 1 s.c, .slice s.D 2 s.d, .slice s.E 8 s.e] 31 (0, 0)) from by rw [← hW3]; exact blk_put v2 4 _ rfl)
  have HB3 := Lib.hid (show Below w1.heap.size w1 W3 from by rw [← hW3]; exact b2.setCell (by show w1.heap.size ≤ q; omega) _)
  have HCL := Lib.hid (fun (wx : World) (hx : Below W3.heap.size W3 wx) => (hx.block q (blk_lt HV3.out)).trans HV3.out)
  have HW3 := Lib.hid (show Below w.heap.size w W3 from HB1.out.trans (HB3.out.mono HB1.out.size))
  have c4 := blk_cell v2 4
  have f4 := blk_frozen v2 4
  clear v2 b2
  go_upto_region 3 with (fail)
  clear c4 f4 hW2 hW3
  have c0 := blk_cell HV3.out 0
  have c1 := blk_cell HV3.out 1
  have c2 := blk_cell HV3.out 2
  go_upto_region 7 with (first
    | (go_at_call 24; refine (HNEW.out _).mono ?_; rintro e w4 ⟨p4, rfl, hb4⟩; have HB4 := Lib.hid hb4; clear hb4 c0 c1 c2)
    | (go_at_call 10; refine (HVO.out _).mono ?_; rintro e w5 ⟨s5, rfl, him5, hb5, -⟩; have HB5 := Lib.hid (HB4.out.trans (hb5.mono HB4.out.size)); have HIM5 := Lib.hid (nw0 him5); clear him5 hb5)
    | (go_at_call 25; refine (open_void HIM5.out).mono ?_; rintro e w6 ⟨p6, rfl, hb6⟩; have HB6 := Lib.hid (HB5.out.trans (hb6.mono HB5.out.size)); clear hb6))
  have HNM := Lib.hid (show ∀ wx : World, Below W3.heap.size W3 wx → Calls Try.prog 13 #[.agg #[.int .u64 65536, .int .i64 2, .int .i64 1, .int .i64 1, .slice none 0 0, .slice s.B 2 s.b, .slice s.C 1 s.c, .slice s.D 2 s.d, .slice s.E 8 s.e], .int .i64 2, .int .i64 1] wx (DocP wx (.bool true)) from fun wx hx => by
    have h1 : Below w1.heap.size w1 wx := HB3.out.trans (hx.mono HB3.out.size)
    have h2 := (nomem_at (nw0 HIM.out)).keep (w' := wx) (fun b hb => h1.block b hb.2)
    exact is_true h2 (fun b hb => Nat.lt_of_lt_of_le hb.2 h1.size) nomem_bad _ (nomem_cells s))
  have HIS := Lib.hid (show ∀ (wx : World) (sx : Sl), ImAt (Nw 0 wx) wx voidIm sx → Calls Try.prog 13 #[.agg (voidIm.cells sx), .int .i64 0, .int .i64 0] wx (DocP wx (.bool true)) from fun wx sx h => is_t h (fun b hb => hb.2) void_ok)
  have TK : True := trivial
  go_wp2_with (first
    | (go_at_call 10; refine (HVO.out _).mono ?_; rintro e w7 ⟨s7, rfl, him7, hb7, -⟩; have HB7 := Lib.hid (HB6.out.trans (hb7.mono HB6.out.size)); have HIM7 := Lib.hid (nw0 him7); clear him7 hb7)
    | (go_at_call 13; clear TK; refine (HIS.out _ _ HIM7.out).mono ?_; rintro e w8 ⟨rfl, hb8⟩; have HB8 := Lib.hid (HB7.out.trans (hb8.mono HB7.out.size)); clear hb8; have hv8 := HCL.out w8 HB8.out; have c0 := blk_cell hv8 0; have c1 := blk_cell hv8 1; have c2 := blk_cell hv8 2; have c3 := blk_cell hv8 3; have c4 := blk_cell hv8 4; have c5 := blk_cell hv8 5; have c6 := blk_cell hv8 6; have c7 := blk_cell hv8 7; have c8 := blk_cell hv8 8; clear hv8)
    | (go_at_call 13; refine (HNM.out _ HB8.out).mono ?_; rintro e w9 ⟨rfl, hb9⟩; have HB9 := Lib.hid (HB8.out.trans (hb9.mono HB8.out.size)); clear hb9 c0 c1 c2 c3 c4 c5 c6 c7 c8)
    | (go_at_call 15; refine (HSB.out _).mono ?_; rintro e wa ⟨sa, rfl, hima, hba⟩; have HBA := Lib.hid (HB9.out.trans (hba.mono HB9.out.size)); have HIMA := Lib.hid (nw0 hima); clear hima hba)
    | (go_at_call 12; refine (blocks_slab HIMA.out).mono ?_; rintro e wb ⟨Ab, capb, rfl, hbb⟩; have HBB := Lib.hid (HBA.out.trans (hbb.mono HBA.out.size)); clear hbb))
  go_ret
  exact ⟨rfl, HW3.out.trans (HBB.out.mono HW3.out.size)⟩
end Go.Proofs.Ytkgedpcipaogjaa.WB
end
