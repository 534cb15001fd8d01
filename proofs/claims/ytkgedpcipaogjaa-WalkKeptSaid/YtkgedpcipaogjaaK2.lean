/- Part 2 of what the rows of this seat rest on: words of the print that they need; how images, spaces, sets lie in memory; the functions walked. -/
import Derived.Test.YtkgedpcipaogjaaProg
import Derived.WalkKit
import Derived.WalkLawsBesides
import Derived.Below
import Derived.Defers
import Derived.Recover
import Derived.Lib.Hide
import Derived.OrdersHeld
import Derived.Deep.RegionHeld3
import Derived.Laws.BitsLemmas
import Derived.RowKit
import Derived.Laws.EntriesVeiled
import Derived.Deep.LoopGhost
import Derived.ProofKit
import Derived.OpenShut
import Derived.SizedLaws
import Derived.Lib.SmallJoins
import Derived.Deep.Slices
import Derived.Test.YtkgedpcipaogjaaK1
import Derived.Test.YtkgedpcipaogjaaZ1
import Derived.Test.YtkgedpcipaogjaaZ2
import Derived.Test.YtkgedpcipaogjaaZ3
import Derived.Test.YtkgedpcipaogjaaZ4
import Derived.Test.YtkgedpcipaogjaaZ5
import Derived.Test.YtkgedpcipaogjaaZ6
import Derived.Test.YtkgedpcipaogjaaZ7
import Derived.Test.YtkgedpcipaogjaaZ8
import Derived.Test.YtkgedpcipaogjaaZ9
import Derived.Test.YtkgedpcipaogjaaZ10
import Derived.Test.YtkgedpcipaogjaaZ11
import Derived.Test.YtkgedpcipaogjaaZ12
namespace Go.Proofs.Ytkgedpcipaogjaa.WB
open Go Go.RowKit Go.Proofs.YtkgedpcipaogjaaW.PrintWords Go.Proofs.YtkgedpcipaogjaaW.PrintLast Go.Proofs.YtkgedpcipaogjaaW.PrintMore Go.Proofs.Ytkgedpcipaogjaa.Mem
set_option linter.unusedVariables false
set_option linter.unusedSimpArgs false
theorem upd_low {F : Nat → Prop} {w w' : World} {n : Nat} (h : Upd F w w') (hF : ∀ b, F b → n ≤ b) (hn : n ≤ w.heap.size) : Below n w w' :=
  ⟨h.os, h.tape, h.output, h.size, fun k hk => h.block k (by omega) (fun hf => by have := hF k hf; omega)⟩
theorem rep_get {m k : Nat} (h : k < m) : (bVals (List.replicate m (7, 7)))[k * 2]? = some (.int .u64 7) ∧ (bVals (List.replicate m (7, 7)))[k * 2 + 1]? = some (.int .u64 7) := by
  have e : (List.replicate m ((7, 7) : Int × Int)).getD k (0, 0) = (7, 7) := by
    rw [List.getD_eq_getElem?_getD, List.getElem?_replicate, if_pos h]
    rfl
  have := bVals_get (List.replicate m (7, 7)) k (by rw [List.length_replicate]; exact h)
  rw [e] at this
  exact this
theorem own_two {w : World} {n g cap k : Nat} (h : w.ownsRow 0 42 2 (.slice (some ⟨g, 0, none⟩) n cap) n (bVals (List.replicate n (7, 7)))) (hk : k < n) : w.cell? ⟨g, k * 2, none⟩ = some (.int .u64 7) ∧ w.cell? ⟨g, k * 2 + 1, none⟩ = some (.int .u64 7) :=
  ⟨(own_cell h (by omega)).1.trans (rep_get hk).1, (own_cell h (by omega)).1.trans (rep_get hk).2⟩
structure SvG (W : World) (va : Value) (n : Nat) (bs : List (Int × Int)) (wi : World) : Prop where
  upd : Upd (fun b => va.ownBlock = some b) W wi
  own : wi.ownsRow 0 42 2 va n (bVals bs)
theorem SvG.put {W : World} {g n cap k : Nat} {bs : List (Int × Int)} {wi : World} (h : SvG W (.slice (some ⟨g, 0, none⟩) n cap) n (sv bs k) wi) (hk : k < bs.length) : SvG W (.slice (some ⟨g, 0, none⟩) n cap) n (sv bs (k + 1)) ((wi.setCell ⟨g, k * 2, none⟩ (.int .u64 7)).setCell ⟨g, k * 2 + 1, none⟩ (.int .u64 7)) := by
  refine ⟨⟨h.upd.os, h.upd.tape, h.upd.output, by simpa [World.setCell] using h.upd.size, fun j hj hn => ?_⟩, ?_⟩
  · have hne : j ≠ g := fun e => hn (by rw [e]; rfl)
    rw [Below.heap_setCell _ _ _ _ hne, Below.heap_setCell _ _ _ _ hne]
    exact h.upd.block j hj hn
  · have := own_put (own_put h.own (k * 2) (.int .u64 7)) (k * 2 + 1) (.int .u64 7)
    have e := bVals_set (sv bs k) k (7, 7) (by rw [sv_len (Nat.le_of_lt hk)]; exact hk)
    rw [sv_set hk] at e
    rw [← e]
    exact this
theorem SvG.cell {W : World} {g n cap k : Nat} {bs : List (Int × Int)} {wi : World} (h : SvG W (.slice (some ⟨g, 0, none⟩) n cap) n (sv bs k) wi) (hn : bs.length = n) (hk : k < n) : (∃ x, wi.cell? ⟨g, k * 2, none⟩ = some (.int .u64 x)) ∧ wi.frozen? ⟨g, k * 2, none⟩ = false ∧ (∃ x, wi.cell? ⟨g, k * 2 + 1, none⟩ = some (.int .u64 x)) ∧ wi.frozen? ⟨g, k * 2 + 1, none⟩ = false := by
  obtain ⟨h1, f1⟩ := own_cell h.own (j := k * 2) (by omega)
  obtain ⟨h2, f2⟩ := own_cell h.own (j := k * 2 + 1) (by omega)
  have hg := bVals_get (sv bs k) k (by rw [sv_len (by omega)]; omega)
  exact ⟨⟨_, h1.trans hg.1⟩, f1, ⟨_, h2.trans hg.2⟩, f2⟩
section
variable {F : Nat → Prop} {im : Im} {s : Sl} {w : World}
set_option maxRecDepth 100000 in
set_option maxHeartbeats 8000000 in
theorem kept_core (h : ImAt F w im s) (hF : ∀ b, F b → b < w.heap.size) (hfit : im.Fit) : Calls Try.prog 8 #[.agg (im.cells s)] w (DocP w (.bool true)) := by
  obtain ⟨A, a, B, b, C, c, D, d, E, e⟩ := s
  obtain ⟨WA, hWA⟩ : ∃ W, w.alloc (imO im ⟨A, a, B, b, C, c, D, d, E, e⟩) = W := ⟨_, rfl⟩
  obtain ⟨hsa, hbl, hvl⟩ := box_facts h hF hWA
  have HBL := Lib.hid hbl
  have HVL := Lib.hid hvl
  have HFA := Lib.hid (show ∀ b, F b → b < WA.heap.size from fun b hb => by have := hF b hb; omega)
  have HWF := Lib.hid h.wf
  have hl := len_i64 h.wf
  obtain ⟨c0, c1, c2, c3, c4, c5, c6, c7, c8⟩ := (hvl WA (Below.refl _ _)).cell
  dsimp only at c0 c1 c2 c3 c4 c5 c6 c7 c8
  unfold imO Im.cells at hWA
  unfold Im.cells
  clear h hF hvl hbl
  have HAW := Lib.hid awake_ok
  have HFI := Lib.hid hfit
  have HF2 := Lib.hid (fun (wx : World) (hx : Below WA.heap.size WA wx) => (show ∀ b, F b → b < wx.heap.size from fun b hb => Nat.lt_of_lt_of_le (HFA.out b hb) hx.size))
  have HTL := Lib.hid (told_len HWF.out)
  obtain ⟨⟨a1, a2⟩, ha⟩ : ∃ b, im.check = b := ⟨_, rfl⟩
  have HCE := Lib.hid ha
  have HBK := Lib.hid (fun (wx : World) (hx : Below WA.heap.size WA wx) => Blocks_c (HVL.out wx hx).im (HF2.out wx hx))
  have HII := Lib.hid (fun (wx : World) (hx : Below WA.heap.size WA wx) => is_t (HVL.out wx hx).im (HF2.out wx hx) HCE.out)
  unfold Im.cells at HBK HII
  dsimp only at HBK HII
  have hl9 : im.told.length ≤ 9223372036854775807 := by have := HTL.out; omega
  clear hl ha hfit
  go_enter Try.func8, Try.ntmps8
  go_upto_region 3 with (go_at_call 11; refine (HAW.out _).mono ?_; rintro e w4 ⟨rfl, hb4⟩; have HB4 := Lib.hid hb4; clear hb4 c0 c1 c2 c3 c4 c5 c6 c7 c8)
  clear hWA
  obtain ⟨c0, c1, c2, c3, c4, c5, c6, c7, c8⟩ := (HVL.out w4 HB4.out).cell
  dsimp only at c0 c1 c2 c3 c4 c5 c6 c7 c8
  have HCP := Lib.hid (Copied_c (HVL.out w4 HB4.out).im (HF2.out w4 HB4.out) HFI.out)
  unfold Im.cells at HCP
  dsimp only at HCP
  go_upto_region 4 with (go_at_call 19; refine HCP.out.mono ?_; rintro e w5 ⟨⟨A', a', B', b', C', c', D', d', E', e'⟩, m1, m4, rfl, hc⟩; have HC := Lib.hid hc; obtain ⟨W6, hW6⟩ : ∃ W, w5.alloc (.cells #[.int .u64 im.base, .int .i64 im.limit, .int .i64 im.order, .int .i64 im.regions, .slice A' im.mem.length a', .slice B' im.pages.length b', .slice C' im.pairs.length c', .slice D' im.heads.length d', .slice E' im.parts.length e'] 31) = W := ⟨_, rfl⟩; have HB6 := Lib.hid (show Below w5.heap.size w5 W6 from by rw [← hW6]; exact (Below.refl _ _).alloc (Nat.le_refl _) _); have HV6 := Lib.hid (show W6.heap[w5.heap.size]? = some (.cells #[.int .u64 im.base, .int .i64 im.limit, .int .i64 im.order, .int .i64 im.regions, .slice A' im.mem.length a', .slice B' im.pages.length b', .slice C' im.pairs.length c', .slice D' im.heads.length d', .slice E' im.parts.length e'] 31 (0, 0)) from by rw [← hW6]; exact blk_new w5 _); clear hc)
  clear hW6 c0 c1 c2 c3 c4 c5 c6 c7 c8 HCP
  have HBA := Lib.hid (show Below WA.heap.size WA W6 from (HB4.out.trans (HC.out.below.mono HB4.out.size)).trans (HB6.out.mono (Nat.le_trans HB4.out.size HC.out.below.size)))
  have HIM := Lib.hid (fun (wx : World) (hx : Below W6.heap.size W6 wx) => ((HC.out.at_ HWF.out).keep (w' := W6) (fun b hb => HB6.out.block b hb.2)).keep (w' := wx) (fun b hb => hx.block b (Nat.lt_of_lt_of_le hb.2 HB6.out.size)))
  have HFT := Lib.hid (fun (wx : World) (hx : Below W6.heap.size W6 wx) => show ∀ b, (w4.heap.size ≤ b ∧ b < w5.heap.size) → b < wx.heap.size from fun b hb => Nat.lt_of_lt_of_le hb.2 (Nat.le_trans HB6.out.size hx.size))
  have HVC := Lib.hid (fun (wx : World) (hx : Below W6.heap.size W6 wx) => (hx.block _ (blk_lt HV6.out)).trans HV6.out)
  have HKC := Lib.hid (show Calls Try.prog 18 #[.agg #[.int .u64 im.base, .int .i64 im.limit, .int .i64 im.order, .int .i64 im.regions, .slice A' im.mem.length a', .slice B' im.pages.length b', .slice C' im.pairs.length c', .slice D' im.heads.length d', .slice E' im.parts.length e']] W6 (fun e w' => e = .returned (.tuple #[.int .i64 a1, .int .i64 a2]) ∧ Below W6.heap.size W6 w') from by
    have := checkIm_c (HIM.out W6 (Below.refl _ _)) (HFT.out W6 (Below.refl _ _))
    rw [HCE.out] at this
    unfold Im.cells at this
    exact this)
  have HKB := Lib.hid (fun (wx : World) (hx : Below W6.heap.size W6 wx) => Blocks_o (HIM.out wx hx) (HFT.out wx hx))
  have HAL := Lib.hid (fun (wx : World) (hx : Below W6.heap.size W6 wx) => Alike_t (HIM.out wx hx) (HFT.out wx hx) (HVL.out wx (HBA.out.trans (hx.mono HBA.out.size))).im (HF2.out wx (HBA.out.trans (hx.mono HBA.out.size))))
  unfold Im.cells at HKB HAL
  dsimp only at HKB HAL
  have HN := fun i => blk_cell (HV6.out) i
  have t0 := HN 0
  have t1 := HN 1
  have t2 := HN 2
  have t3 := HN 3
  have t4 := HN 4
  have t5 := HN 5
  have t6 := HN 6
  have t7 := HN 7
  have t8 := HN 8
  clear HN
  simp at t0 t1 t2 t3 t4 t5 t6 t7 t8
  go_upto_region 5 with (go_at_call 18; refine HKC.out.mono ?_; rintro e w7 ⟨rfl, hb7⟩; have HB7 := Lib.hid hb7; clear hb7)
  clear t0 t1 t2 t3 t4 t5 t6 t7 t8
  have HN := fun i => blk_cell (HVC.out w7 HB7.out) i
  have t0 := HN 0
  have t1 := HN 1
  have t2 := HN 2
  have t3 := HN 3
  have t4 := HN 4
  have t5 := HN 5
  have t6 := HN 6
  have t7 := HN 7
  have t8 := HN 8
  clear HN
  simp at t0 t1 t2 t3 t4 t5 t6 t7 t8
  go_upto_region 6 with (go_at_call 12; refine (HKB.out w7 HB7.out).mono ?_; rintro e w8 ⟨va, rfl, ho8, hb8⟩; have HO8 := Lib.hid ho8; have HW8 := Lib.hid hb8; have HB8 := Lib.hid (HB7.out.trans (hb8.mono HB7.out.size)); clear ho8 hb8)
  clear t0 t1 t2 t3 t4 t5 t6 t7 t8
  have HN := fun i => blk_cell (HVC.out w8 HB8.out) i
  have t0 := HN 0
  have t1 := HN 1
  have t2 := HN 2
  have t3 := HN 3
  have t4 := HN 4
  have t5 := HN 5
  have t6 := HN 6
  have t7 := HN 7
  have t8 := HN 8
  clear HN
  simp at t0 t1 t2 t3 t4 t5 t6 t7 t8
  go_upto_region 7 with (go_at_call 12; refine (HKB.out w8 HB8.out).mono ?_; rintro e w9 ⟨vb, rfl, ho9, hb9⟩; have HO9 := Lib.hid ho9; have HW9 := Lib.hid hb9; have HB9 := Lib.hid (HB8.out.trans (hb9.mono HB8.out.size)); clear ho9 hb9)
  clear t0 t1 t2 t3 t4 t5 t6 t7 t8
  have HN := fun i => blk_cell (HVC.out w9 HB9.out) i
  have t0 := HN 0
  have t1 := HN 1
  have t2 := HN 2
  have t3 := HN 3
  have t4 := HN 4
  have t5 := HN 5
  have t6 := HN 6
  have t7 := HN 7
  have t8 := HN 8
  clear HN
  simp at t0 t1 t2 t3 t4 t5 t6 t7 t8
  obtain ⟨Aa, capa, hva, -, hra⟩ := own_rowB HO8.out
  obtain ⟨Ab, capb, hvb, -, hrb⟩ := own_rowB HO9.out
  subst hva hvb
  have HRA := Lib.hid (hra.keep (w' := w9) (fun b hb => HW9.out.block b hb.2.1))
  have HRB := Lib.hid hrb
  clear hra hrb
  obtain ⟨c0, c1, c2, c3, c4, c5, c6, c7, c8⟩ := (HVL.out w9 (HBA.out.trans (HB9.out.mono HBA.out.size))).cell
  dsimp only at c0 c1 c2 c3 c4 c5 c6 c7 c8
  go_upto_region 9 with (first
    | (go_at_call 21; refine (HAL.out w9 HB9.out).mono ?_; rintro e w10 ⟨rfl, hb10⟩; have HW10 := Lib.hid hb10; have HRA := Lib.hid (HRA.out.keep (w' := w10) (fun b hb => hb10.block b (Nat.lt_of_lt_of_le hb.2.1 HW9.out.size))); have HRB := Lib.hid (HRB.out.keep (w' := w10) (fun b hb => hb10.block b hb.2.1)); have HB10 := Lib.hid (HB9.out.trans (hb10.mono HB9.out.size)); obtain ⟨e0, e1, e2, e3, e4, e5, e6, e7, e8⟩ := (HVL.out w10 (HBA.out.trans (HB10.out.mono HBA.out.size))).cell; dsimp only at e0 e1 e2 e3 e4 e5 e6 e7 e8; clear hb10 t0 t1 t2 t3 t4 t5 t6 t7 t8 c0 c1 c2 c3 c4 c5 c6 c7 c8)
    | (go_at_call 14; refine (Same_t (F := fun _ => True) (HRA.out.mono (fun _ _ => trivial)) (HRB.out.mono (fun _ _ => trivial)) (by have := HTL.out; omega)).mono ?_; rintro e w11 ⟨rfl, n11, rfl⟩)
    | (go_at_call 13; refine (HII.out (w10.drewN n11) (HBA.out.trans ((pw_below_drewN HB10.out n11).mono HBA.out.size))).mono ?_; rintro e w12 ⟨rfl, hb12⟩; have HW12 := Lib.hid hb12; clear hb12))
  have HB12 := Lib.hid (show Below W6.heap.size W6 w12 from HB10.out.trans ((((Below.refl _ w10).trans (pw_below_drewN (Below.refl _ _) n11)).trans HW12.out).mono HB10.out.size))
  have HRB := Lib.hid ((HRB.out.keep (w' := w10.drewN n11) (fun b hb => rfl)).keep (w' := w12) (fun b hb => HW12.out.block b (Nat.lt_of_lt_of_le hb.2.1 HW10.out.size)))
  have HOA := Lib.hid (show w12.ownsRow 0 42 2 (.slice Aa im.told.length capa) im.told.length (bVals im.told) from own_below (own_below (own_below (own_below (own_low HO8.out (Nat.zero_le _)) HW9.out) HW10.out) (pw_below_drewN (Below.refl _ _) n11)) HW12.out)
  clear e0 e1 e2 e3 e4 e5 e6 e7 e8
  obtain ⟨c0, c1, c2, c3, c4, c5, c6, c7, c8⟩ := (HVL.out w12 (HBA.out.trans (HB12.out.mono HBA.out.size))).cell
  dsimp only at c0 c1 c2 c3 c4 c5 c6 c7 c8
  have HVA := Lib.hid (fun b hb => own_lt HO8.out (g := b) hb)
  go_upto_region 11 with (go_at_call 12; refine (HBK.out w12 (HBA.out.trans (HB12.out.mono HBA.out.size))).mono ?_; rintro e w13 ⟨A3, cap3, rfl, hc3, hr3, hb13⟩; have HRW := Lib.hid hr3; have HB13 := Lib.hid (HB12.out.trans (hb13.mono HB12.out.size)); have HOA := Lib.hid (own_below HOA.out hb13); have HSQ := Lib.hid (show w9.heap.size ≤ w12.heap.size from Nat.le_trans HW10.out.size HW12.out.size); have HRB := Lib.hid (HRB.out.keep (w' := w13) (fun b hb => hb13.block b (Nat.lt_of_lt_of_le hb.2.1 HSQ.out))); have HS13 := Lib.hid hb13.size; clear hc3 hr3 hb13)
  clear c0 c1 c2 c3 c4 c5 c6 c7 c8
  have HN3 := Lib.hid (show w8.heap.size ≤ w9.heap.size ∧ w9.heap.size ≤ w12.heap.size ∧ w12.heap.size ≤ w13.heap.size ∧ W6.heap.size ≤ w7.heap.size from ⟨HW9.out.size, HSQ.out, HS13.out, HB7.out.size⟩)
  go_loopg [9] im.told.length (fun g v9 wi => ∃ (k : Nat), v9 = .int .i64 (k : Int) ∧ Aside0 (k + g = im.told.length) ∧ Aside0 (SvG w13 (.slice Aa im.told.length capa) im.told.length (sv im.told k) wi))
  case atStart => exact ⟨0, rfl, ⟨by omega⟩, ⟨⟨Upd.refl _ _, by rw [sv_zero]; exact HOA.out⟩⟩⟩
  case round =>
    obtain ⟨k, rfl, hkg, hs⟩ := hrel
    have HS := Lib.hid hs.out
    by_cases hk : k < im.told.length
    case pos =>
      obtain ⟨t1, t2⟩ := lt_dec hk
      have hkI : (k : Int) < (im.told.length : Int) := by omega
      obtain ⟨g1, rfl⟩ := lp_pos hkg.out hk
      have HG := Lib.hid (lp_step hkg.out)
      have n1 : wrap64 ((k : Int) + 1) = (k : Int) + 1 := up1 (by have := HTL.out; omega)
      obtain ⟨g0, cap0, hv, -, -⟩ := hs.out.own.form (Nat.lt_of_le_of_lt (Nat.zero_le _) hk)
      injection hv with hv hv2 hv3
      subst hv hv3
      clear hv2
      obtain ⟨⟨x0, e0⟩, f0, ⟨x1, e1⟩, f1⟩ := hs.out.cell rfl hk
      have HK := Lib.hid hk
      clear hk hkg hs
      go_wp2
      go_roundg g1
      case measure => omega
      case rel => exact ⟨k + 1, by simp; try exact n1, ⟨HG.out⟩, ⟨HS.out.put HK.out⟩⟩
    obtain ⟨t1, t2⟩ := nlt_dec hk
    have hkn := lp_end hkg.out hk
    have HG0 := Lib.hid (show GvI w13 (.slice Aa im.told.length capa) (.slice Aa im.told.length capa) im.told.length 0 wr from by
      have := hs.out.own
      rw [hkn, sv_all] at this
      exact ⟨hs.out.upd, this, this, .inl rfl⟩)
    clear hk hkg hs hkn HS
    go_upto_region 16 with (fail)
    clear t1 t2
    generalize wr = W14 at *
    obtain ⟨i0, hi0, hz0, hz1, hz2⟩ := info_parts infoBlk
    have HI0 := Lib.hid hi0
    clear hi0
    go_loopg [10, 11] 6 (fun g v10 v11 wi => ∃ (j : Nat), v11 = .int .i64 (j : Int) ∧ Aside0 (j + g = 6) ∧ Aside0 (GvI w13 (.slice Aa im.told.length capa) v10 im.told.length j wi))
    case atStart => exact ⟨0, rfl, ⟨rfl⟩, ⟨HG0.out⟩⟩
    case round =>
      obtain ⟨j, rfl, hjg, hg⟩ := hrel
      have HGV := Lib.hid hg.out
      by_cases hj : j < 6
      case pos =>
        have t1 : decide ((j : Int) < 6) = true := decide_eq_true (by omega)
        obtain ⟨g1, rfl⟩ : ∃ g1, gk = g1 + 1 := ⟨gk - 1, by have := hjg.out; omega⟩
        have HG := Lib.hid (show j + 1 + g1 = 6 by have := hjg.out; omega)
        have n1 : wrap64 ((j : Int) + 1) = (j : Int) + 1 := by unfold wrap64; omega
        have HML := Lib.hid (show im.told.length + j + 1 ≤ maxLen from by have := HTL.out; unfold maxLen; omega)
        have HBY := Lib.hid (show (im.told.length + j + 1) * 16 ≤ 140737488355328 from by have := HTL.out; omega)
        clear hj hjg hg
        go_wp2_with (at_builtin; refine wpList_append_two _ (by rfl) _ _ _ (by rfl) 0 42 i0 _ 2 16 Try.underlying34 HI0.out hz0 hz1 hz2 rfl (by omega) _ (im.told.length + j) (bVals (List.replicate (im.told.length + j) (7, 7))) (by rfl) (HGV.out.g.alloc _) ⟨wr.heap.size, 0, none⟩ 1 1 [.int .u64 7, .int .u64 7] (by rfl) (by rfl) (World.news_of_block (cs := #[.int .u64 7, .int .u64 7]) (t := 42) (fr := (0, 0)) (heap_alloc_new wr _)) (by simp [Value.oneCell']) (by omega) HML.out HBY.out (Nat.zero_le _) ?_; intro g cap w3 hown3 hat3; have HOWN3 := Lib.hid hown3; have HAT3 := Lib.hid hat3; clear hown3 hat3)
        go_roundg g1
        case measure => omega
        case rel => exact ⟨j + 1, by simp; try exact n1, ⟨HG.out⟩, ⟨HGV.out.step HOWN3.out HAT3.out⟩⟩
      have t1 : decide ((j : Int) < 6) = false := decide_eq_false (by omega)
      obtain rfl : j = 6 := by have := hjg.out; omega
      obtain ⟨gg, capg, hvg, -, -⟩ := hg.out.g.form (Nat.lt_of_lt_of_le (by decide) (Nat.le_add_left 6 _))
      subst hvg
      have HB20 := Lib.hid (show Below W6.heap.size W6 wr from HB13.out.trans (upd_low hg.out.upd (fun b hb => Nat.le_trans HN3.out.2.2.2 (HVA.out b hb).1) HB13.out.size))
      have HRB := Lib.hid ((HRB.out.keep (w' := wr) (fun b hb => hg.out.upd.block b (by have := HN3.out; omega) (fun e => by have := (HVA.out b e).2; omega))).mono (F' := fun b => b < wr.heap.size) (fun b hb => by have := HN3.out; have := hg.out.upd.size; omega))
      have HRW := Lib.hid ((HRW.out.keep (w' := wr) (fun b hb => hg.out.upd.block b hb.2 (fun e => by have := (HVA.out b e).2; have := HN3.out; omega))).mono (F' := fun b => b < wr.heap.size) (fun b hb => by have := hg.out.upd.size; omega))
      clear hj hjg hg
      go_upto_region 20 with (fail)
      clear t1
      generalize wr = W20 at *
      go_loopg [12, 70, 71, 72, 73, 74, 75, 76, 77, 78] im.told.length (fun g v12 _ _ _ _ _ _ _ _ _ wi => ∃ (k : Nat), v12 = .int .i64 (k : Int) ∧ Aside0 (k + g = im.told.length) ∧ Aside0 (∃ m, wi = W20.drewN m))
      case atStart => exact ⟨0, rfl, ⟨by omega⟩, ⟨0, rfl⟩⟩
      case round =>
        obtain ⟨k, rfl, hkg, hn⟩ := hrel
        by_cases hk : k < im.told.length
        case pos =>
          obtain ⟨m, rfl⟩ := hn.out
          obtain ⟨t1, t2⟩ := lt_dec hk
          have hkI : (k : Int) < (im.told.length : Int) := by omega
          have hk6 : k < im.told.length + 6 := by omega
          have hk6I : (k : Int) < (im.told.length : Int) + 6 := by omega
          obtain ⟨g1, rfl⟩ := lp_pos hkg.out hk
          have HG := Lib.hid (lp_step hkg.out)
          have n1 : wrap64 ((k : Int) + 1) = (k : Int) + 1 := up1 (by have := HTL.out; omega)
          obtain ⟨g0, cap0, hv, -, -⟩ := HGV.out.a.form (Nat.lt_of_le_of_lt (Nat.zero_le _) hk)
          injection hv with hv hv2 hv3
          subst hv hv3
          clear hv2
          obtain ⟨a0, a1⟩ := own_two HGV.out.a hk
          obtain ⟨b0, b1⟩ := own_two HGV.out.g hk6
          clear hk hkg hn
          go_wp2
          go_quiet (fail)
          go_wp2
          go_roundg g1
          case measure => omega
          case rel => exact ⟨k + 1, by simp; try exact n1, ⟨HG.out⟩, ⟨_, by first | rfl | exact World.drewN_drewN _ _ _⟩⟩
        obtain ⟨t1, t2⟩ := nlt_dec hk
        obtain ⟨m, hm⟩ := hn.out
        have HB21 := Lib.hid (show Below W6.heap.size W6 wr from by rw [hm]; exact pw_below_drewN HB20.out m)
        have HRB := Lib.hid (show RowB (fun b => b < wr.heap.size) wr Ab im.told from by rw [hm]; exact HRB.out.keep (fun b hb => rfl))
        have HRW := Lib.hid (show RowB (fun b => b < wr.heap.size) wr A3 im.told from by rw [hm]; exact HRW.out.keep (fun b hb => rfl))
        clear hk hkg hn hm
        generalize wr = W21 at *
        have HF1 : True := trivial
        have HN := fun i => blk_cell (HVC.out W21 HB21.out) i
        have t0 := HN 0
        have t1 := HN 1
        have t2 := HN 2
        have t3 := HN 3
        have t4 := HN 4
        have t5 := HN 5
        have t6 := HN 6
        have t7 := HN 7
        have t8 := HN 8
        clear HN
        simp at t0 t1 t2 t3 t4 t5 t6 t7 t8
        go_wp2_with (first
          | (go_at_call 14; clear HF1; refine (Same_t HRB.out HRW.out (by have := HTL.out; omega)).mono ?_; rintro e w22 ⟨rfl, n22, rfl⟩)
          | (go_at_call 12; refine (HKB.out (W21.drewN n22) (pw_below_drewN HB21.out n22)).mono ?_; rintro e w23 ⟨vk, rfl, hok, hbk⟩; obtain ⟨Ak, capk, hvk, -, hrk⟩ := own_rowB hok; subst hvk; have HRK := Lib.hid (hrk.mono (F' := fun _ => True) (fun _ _ => trivial)); have HB23 := Lib.hid ((pw_below_drewN HB21.out n22).trans (hbk.mono (pw_below_drewN HB21.out n22).size)); have HW23 := Lib.hid hbk; clear hok hbk hrk)
          | (go_at_call 14; refine (Same_t HRK.out (((HRW.out.keep (w' := W21.drewN n22) (fun b hb => rfl)).keep (w' := w23) (fun b hb => HW23.out.block b hb)).mono (fun _ _ => trivial)) (by have := HTL.out; omega)).mono ?_; rintro e w24 ⟨rfl, n24, rfl⟩))
        go_ret
        exact ⟨rfl, HBL.out _ (HBA.out.trans ((pw_below_drewN HB23.out n24).mono HBA.out.size))⟩
end
end Go.Proofs.Ytkgedpcipaogjaa.WB
