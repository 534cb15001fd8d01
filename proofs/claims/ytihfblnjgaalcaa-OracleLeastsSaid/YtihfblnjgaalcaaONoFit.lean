/- NoFit, walked. -/
import Derived.Test.YtihfblnjgaalcaaOSound
namespace Go.Proofs.Ytihfblnjgaalcaa.OC
open Go Go.RowKit Go.Maps Go.Proofs.YtihfblnjgaalcaaW.PrintWords Go.Proofs.YtihfblnjgaalcaaW.PrintLast Go.Proofs.YtihfblnjgaalcaaW.PrintMore Go.Proofs.Ytihfblnjgaalcaa.R Go.Proofs.Ytihfblnjgaalcaa.OM Go.Proofs.Ytihfblnjgaalcaa.OP Go.Proofs.Ytihfblnjgaalcaa.OR Go.Proofs.Ytihfblnjgaalcaa.OS Go.Proofs.Ytihfblnjgaalcaa.OB Go.Proofs.Ytihfblnjgaalcaa.OF Go.Proofs.Ytihfblnjgaalcaa.OW Go.Proofs.Ytihfblnjgaalcaa.ON Go.Proofs.Ytihfblnjgaalcaa.OG
set_option linter.unusedVariables false
set_option linter.unusedSimpArgs false
/-- Has a page cells of size r that are free? -/
def partB (m : PM) (r : Int) (x : Nat) : Bool := match m (x : Int) with
 | some (.small z _ q) => decide (z = r) && decide ((q : Int) < 4096 / r)
 | _ => false
def partAny (m : PM) (r : Int) : Bool := (List.range 1024).any (partB m r)
/-- Pages of a block of size r. -/
def pgs (r : Int) : Nat := (max r 4096 / 4096).toNat
def totP (order n : Int) : Nat := (n * 2 ^ order.toNat).toNat
/-- NoFit, its answer. -/
def nofitB (base limit order n : Int) (l : List S55) (r : Int) : Bool :=
 if soundI base limit order n l = -1 ∧ sizeB order r = true then
  match (scan base order n PM.none l 0).1 with
  | some m => decide (totP order n / pgs r ≤ occN m (totP order n) (pgs r)) && !partAny m r
  | none => false
 else false
theorem pages_some {base order n : Int} {l : List S55} {m : PM} {e : Ending} {w' : World} (hsc : scan base order n PM.none l 0 = (some m, -1)) (hp : (∃ (m : PM) (mb s : Nat), scan base order n PM.none l 0 = (some m, -1) ∧ e = .returned (.tuple #[.map (some mb), .int .i64 (-1)]) ∧ RepR w' mb s m ∧ s ≤ 256 * l.length) ∨
  ∃ i : Int, scan base order n PM.none l 0 = (none, i) ∧ e = .returned (.tuple #[.map none, .int .i64 i])) : ∃ (mb s : Nat), e = .returned (.tuple #[.map (some mb), .int .i64 (-1)]) ∧ RepR w' mb s m ∧ s ≤ 256 * l.length := by
 rcases hp with ⟨m2, mb, s, h1, h2, h3, h4⟩ | ⟨i, h1, h2⟩
 ·rw [hsc] at h1
  injection h1 with h1
  injection h1 with h1
  subst h1
  exact ⟨mb, s, h2, h3, h4⟩
 ·rw [hsc] at h1; cases h1
theorem tot_eq {base limit order n : Int} (hm : mayB base limit order = true) (h0 : 0 ≤ n) (hn : n ≤ limit) : n * 2 ^ order.toNat = (totP order n : Int) ∧ totP order n ≤ 1024 := by
 obtain ⟨a, b, c, d, e, f, g, k⟩ := mayB_iff.1 hm
 have hp : (0 : Int) ≤ 2 ^ order.toNat := Int.pow_nonneg (by decide)
 have h2 : n * 2 ^ order.toNat ≤ limit * 2 ^ order.toNat := Int.mul_le_mul_of_nonneg_right hn hp
 have h3 : 0 ≤ n * 2 ^ order.toNat := Int.mul_nonneg h0 hp
 unfold totP
 omega
theorem pgs_eq {order r : Int} (h0 : 0 ≤ order) (h8 : order ≤ 8) (hr0 : 0 ≤ r) (hr : r < 18446744073709551616) (h : sizeB order r = true) : (r < 4096 → pgs r = 1) ∧ (¬ r < 4096 → r / 4096 = (pgs r : Int)) ∧ 0 < pgs r ∧ pgs r ≤ 256 := by
 have h1 := (sizeB_iff.1 h).2.2
 have h2 := RR_bd h0 h8
 unfold pgs
 by_cases hl : r < 4096
 ·rw [Int.max_eq_right (by omega)]
  exact ⟨fun _ => rfl, fun h => absurd hl h, by decide, by decide⟩
 ·rw [Int.max_eq_left (by omega)]
  refine ⟨fun h => absurd h hl, fun _ => by omega, by omega, by omega⟩
theorem nofit_1 {base limit order n r : Int} {l : List S55} (h : ¬ soundI base limit order n l = -1) : nofitB base limit order n l r = false := by
 unfold nofitB; rw [if_neg (fun h2 => h h2.1)]
theorem nofit_2 {base limit order n r : Int} {l : List S55} (h : sizeB order r = false) : nofitB base limit order n l r = false := by
 unfold nofitB; rw [if_neg (fun h2 => by rw [h] at h2; exact absurd h2.2 (by simp))]
theorem nofit_3 {base limit order n r : Int} {l : List S55} {m : PM} (h1 : soundI base limit order n l = -1) (h2 : sizeB order r = true) (h3 : scan base order n PM.none l 0 = (some m, -1)) :
  nofitB base limit order n l r = (decide (totP order n / pgs r ≤ occN m (totP order n) (pgs r)) && !partAny m r) := by
 unfold nofitB; rw [if_pos ⟨h1, h2⟩, h3]
theorem part_none {m : PM} {r : Int} {left : Int → Bool} (h : ∀ x : Nat, x < 1024 → (m (x : Int)).isSome = true → left (x : Int) = false → partB m r x = false) (hl : ∀ x : Nat, x < 1024 → left (x : Int) = false) : partAny m r = false := by
 unfold partAny
 rw [List.any_eq_false]
 intro x hx
 have hx2 := List.mem_range.1 hx
 cases hm : m (x : Int) with
 | none => unfold partB; rw [hm]; simp
 | some lt => rw [h x hx2 (by rw [hm]; rfl) (hl x hx2)]; simp
theorem part_some {m : PM} {r : Int} {x : Nat} (hx : x < 1024) (h : partB m r x = true) : partAny m r = true := by
 unfold partAny
 rw [List.any_eq_true]
 exact ⟨x, List.mem_range.2 hx, h⟩
theorem part_step {m : PM} {r : Int} {left : Int → Bool} {y : Nat} (h : ∀ x : Nat, x < 1024 → (m (x : Int)).isSome = true → left (x : Int) = false → partB m r x = false) (hy : partB m r y = false) :
  ∀ x : Nat, x < 1024 → (m (x : Int)).isSome = true → (left (x : Int) && !decide ((x : Int) = (y : Int))) = false → partB m r x = false := by
 intro x hx hm hl
 by_cases e : x = y
 ·subst e; exact hy
 ·refine h x hx hm ?_
  have : decide ((x : Int) = (y : Int)) = false := decide_eq_false (by omega)
  rw [this] at hl
  simpa using hl
attribute [local go_sem] max2_int min2_int max_two min_two max_three min_three max_four min_four
set_option maxRecDepth 100000 in
set_option maxHeartbeats 8000000 in
theorem nofit_c (base limit order n : Int) (A : Option Addr) (c : Nat) (l : List S55) (r : Int) (w : World) (hr : Kd.C k55 w A l.length l) (hc : l.length ≤ c) (hG : Good base l) (hr0 : 0 ≤ r) (hr1 : r < 18446744073709551616) :
  Calls Try.prog 23 #[.agg #[.int .u64 base, .int .i64 limit, .int .i64 order], .int .i64 n, .slice A l.length c, .int .u64 r] w fun e w' => e = .returned (.bool (nofitB base limit order n l r)) ∧ Below w.heap.size w w' := by
 have HR := Lib.hid hr
 have HG := Lib.hid hG
 have HC := Lib.hid hc
 have HR0 := Lib.hid hr0
 have HR1 := Lib.hid hr1
 obtain ⟨sv, hsv⟩ : ∃ sv, soundI base limit order n l = sv := ⟨_, rfl⟩
 have HSV := Lib.hid hsv
 have HA := Lib.hid ((Below.refl w.heap.size w).alloc (Nat.le_refl _) (cfgC base limit order))
 have HAX := Lib.hid (blk_new w (cfgC base limit order))
 clear hr hG hc hr0 hr1
 by_cases hs : sv = -1
 ·subst hs
  obtain ⟨hmay, hn0, hnl, m, hsc, hfine⟩ := sound_ok HG.out.2.1 hsv
  have hord := (mayB_iff.1 hmay).1
  have hord8 := (mayB_iff.1 hmay).2.1
  by_cases hz : sizeB order r = true
  ·have HNF := Lib.hid (nofit_3 hsv hz hsc)
   have HZ := Lib.hid hz
   have HSC := Lib.hid hsc
   have HFINE := Lib.hid hfine
   have HMAY := Lib.hid hmay
   have HN0 := Lib.hid hn0
   have HNL := Lib.hid hnl
   have HPG := Lib.hid (pgs_eq hord hord8 HR0.out HR1.out hz)
   have HTT := Lib.hid (tot_eq hmay hn0 hnl)
   have HR16 := Lib.hid (sizeB_iff.1 hz).2.1
   clear hsv hz hsc hfine hmay hn0 hnl
   go_enter Try.func23, Try.ntmps23
   go_upto_region 4 with (first
    | (go_at_call 14; refine (sound_c base limit order n A c l _ (Kd.C_below HR.out HA.out) HC.out HG.out).mono ?_; rintro e w5 ⟨rfl, hb5⟩; rw [HSV.out]; have HB5 := Lib.hid (HA.out.trans (hb5.mono HA.out.size)); have HX5 := Lib.hid ((hb5.block _ (by simp)).trans HAX.out); have hx0 : w5.cell? ⟨w.heap.size, 0, none⟩ = some (.int .u64 base) := blk_cell HX5.out 0; have hx1 : w5.cell? ⟨w.heap.size, 1, none⟩ = some (.int .i64 limit) := blk_cell HX5.out 1; have hx2 : w5.cell? ⟨w.heap.size, 2, none⟩ = some (.int .i64 order) := blk_cell HX5.out 2; clear hb5)
    | (go_at_call 46; refine (size_c base limit hord hord8 r true HZ.out _).mono ?_; rintro e w6 ⟨rfl, hb6⟩; have HB6 := Lib.hid (HB5.out.trans (hb6.mono HB5.out.size)); have HX6 := Lib.hid ((hb6.block _ (blk_lt HX5.out)).trans HX5.out); have hy0 : w6.cell? ⟨w.heap.size, 0, none⟩ = some (.int .u64 base) := blk_cell HX6.out 0; have hy1 : w6.cell? ⟨w.heap.size, 1, none⟩ = some (.int .i64 limit) := blk_cell HX6.out 1; have hy2 : w6.cell? ⟨w.heap.size, 2, none⟩ = some (.int .i64 order) := blk_cell HX6.out 2; clear hb6 hx0 hx1 hx2)
    | (go_at_call 39; refine (pages_calls base limit order n A c l _ (Kd.C_below HR.out HB6.out) HC.out HG.out.2.2 HMAY.out HN0.out HNL.out HG.out.2.1 HG.out.1.1).mono ?_; rintro e w7 ⟨hb7, hp⟩; obtain ⟨mb, s, rfl, hrep, hss⟩ := pages_some HSC.out hp; have HREP := Lib.hid hrep; have HB7 := Lib.hid (HB6.out.trans (hb7.mono HB6.out.size)); have HX7 := Lib.hid ((hb7.block _ (blk_lt HX6.out)).trans HX6.out); have hz0 : w7.cell? ⟨w.heap.size, 0, none⟩ = some (.int .u64 base) := blk_cell HX7.out 0; have hz1 : w7.cell? ⟨w.heap.size, 1, none⟩ = some (.int .i64 limit) := blk_cell HX7.out 1; have hz2 : w7.cell? ⟨w.heap.size, 2, none⟩ = some (.int .i64 order) := blk_cell HX7.out 2; clear hb7 hp hrep hss hy0 hy1 hy2))
   obtain ⟨T, hT⟩ : ∃ T, totP order n = T := ⟨_, rfl⟩
   obtain ⟨pg, hpg⟩ : ∃ pg, pgs r = pg := ⟨_, rfl⟩
   have htt := HTT.out
   have hpp := HPG.out
   have hnf := HNF.out
   rw [hT] at htt hnf
   rw [hpg] at hpp hnf
   obtain ⟨sv2, hsv2⟩ : ∃ sv2 : Int, ((T / pg : Nat) : Int) - (occN m T pg : Int) = sv2 := ⟨_, rfl⟩
   have HCS := Lib.hid (show Calls Try.prog 47 #[.agg #[.int .u64 base, .int .i64 limit, .int .i64 order], .int .i64 n, .map (some mb), .int .i64 (pg : Int)] w7 fun e w' => e = .returned (.int .i64 sv2) ∧ Below w7.heap.size w7 w' from
    hsv2 ▸ stretches_calls base limit order n T pg mb s m w7 HREP.out (HFINE.out.dom HMAY.out HN0.out HNL.out) hord hord8 htt.1 htt.2 hpp.2.2.1 (by omega))
   have HNF2 := Lib.hid hnf
   have HS2 := Lib.hid hsv2
   obtain ⟨ptr, hM, hptr⟩ := HREP.out
   have HM7 := Lib.hid hM
   have HPTR := Lib.hid hptr
   have hq4 : ¬ r < 4096 → r / 4096 = (pg : Int) := fun h => hpp.2.1 (by omega)
   have hpb : pg ≤ 256 := hpp.2.2.2
   have hp1 : r < 4096 → pg = 1 := hpp.1
   have HQ4 := Lib.hid hq4
   have HP1 := Lib.hid hp1
   have hr16 := HR16.out
   have hrr : r ≤ 1048576 := by have h1 := (sizeB_iff.1 HZ.out).2.2; have h2 := RR_bd hord hord8; omega
   clear htt hpp hnf hsv2 hM hptr hq4 hp1 hT hpg
   by_cases hl : r < 4096
   ·have hpe := HP1.out hl
    have HCS1 := Lib.hid (show Calls Try.prog 47 #[.agg #[.int .u64 base, .int .i64 limit, .int .i64 order], .int .i64 n, .map (some mb), .int .i64 1] w7 fun e w' => e = .returned (.int .i64 sv2) ∧ Below w7.heap.size w7 w' from by have h := HCS.out; rw [hpe] at h; exact h)
    clear hpe
    have HLR := Lib.hid hl
    by_cases h2 : 0 < sv2
    ·have hd2 : decide (0 < sv2) = true := decide_eq_true h2
     have H2 := Lib.hid h2
     clear h2
     go_wp2_with (go_at_call 47; refine HCS1.out.mono ?_; rintro e w8 ⟨rfl, hb8⟩; have HB8 := Lib.hid (HB7.out.trans (hb8.mono HB7.out.size)); clear hb8)
     go_ret
     refine ⟨?_, HB8.out⟩
     rw [HNF2.out, decide_eq_false (by have := H2.out; have := HS2.out; omega), Bool.false_and]
     rfl
    ·have hd2 : decide (0 < sv2) = false := decide_eq_false h2
     have H2 := Lib.hid h2
     clear h2
     go_wp2_with (first
      | (go_at_call 47; refine HCS1.out.mono ?_; rintro e w8 ⟨rfl, hb8⟩; have HB8 := Lib.hid (HB7.out.trans (hb8.mono HB7.out.size)); have HB78 := Lib.hid hb8; have HM8 := Lib.hid (HM7.out.of_block (hb8.block _ HM7.out.lt)); clear hb8)
      | (at_range; refine wpList_rangeI (by rfl) _ 74 (by rfl) El.ptr 3 87 .i64 KI Try.underlying74 mb s ptr (by rfl) HM8.out ?_; intro w9 cnt9 rb hrb hrg hcnt hg9 hsz9; have HRB := Lib.hid hrb; have HRG := Lib.hid hrg; have HG9 := Lib.hid hg9; clear hrb hrg hg9 hcnt hsz9))
     go_frame
     have HB9 := Lib.hid (show Below w.heap.size w w9 from HB8.out.trans ⟨HG9.out.os, HG9.out.tape, HG9.out.output, HG9.out.size, fun q hq => HG9.out.block q (Nat.lt_of_lt_of_le hq HB8.out.size) (by simp)⟩)
     have HB79 := Lib.hid (show Below w7.heap.size w7 w9 from HB78.out.trans ⟨HG9.out.os, HG9.out.tape, HG9.out.output, HG9.out.size, fun q hq => HG9.out.block q (Nat.lt_of_lt_of_le hq HB78.out.size) (by simp)⟩)
     have HRBB := Lib.hid (show w7.heap.size ≤ rb from by have h1 := HRB.out; have h2 := HB78.out.size; omega)
     have HRBW := Lib.hid (show w.heap.size ≤ rb from by have h1 := HRBB.out; have h2 := HB7.out.size; omega)
     clear HRB HG9 HB8 HB78
     go_loopg [12] cnt9 (fun g v wx => ∃ (left : Int → Bool), Aside0 (RangeI Try.prog El.ptr 3 .i64 wx mb rb s ptr left g) ∧ Aside0 (∀ x : Nat, x < 1024 → (m (x : Int)).isSome = true → left (x : Int) = false → partB m r x = false) ∧ Aside0 (Below w.heap.size w wx) ∧ Aside0 (Below w7.heap.size w7 wx))
     case atStart => exact ⟨_, ⟨HRG.out⟩, ⟨fun x _ h1 h2 => by rw [ptr_some HPTR.out, h1] at h2; cases h2⟩, ⟨HB9.out⟩, ⟨HB79.out⟩⟩
     case round =>
      obtain ⟨left, hrg, hno, hbr, hbr7⟩ := hrel
      go_wp2_with (first
       | (at_next; refine wpList_nextI (by rfl) _ (by rfl) El.ptr 3 .i64 KI Try.underlying3 mb rb s ptr left gk (by rfl) hrg.out ?_ ?_))
      ·intro hc0 hl0
       have HNO := Lib.hid (part_none hno.out (fun x hx => hl0 _ (wfI (by omega) (by omega))))
       clear hl0 hc0
       go_wp2
       go_ret
       refine ⟨?_, hbr.out⟩
       rw [HNF2.out, decide_eq_true (by have := H2.out; have := HS2.out; omega), HNO.out]
       rfl
      ·intro x c3 cv w3 cnt3 hcv hwx hlx hfx hok hrg3 hlt hgr3 hsz3 hen
       obtain ⟨lt, hmx, g', c', hpx, hlot⟩ := ptr_at HPTR.out hfx
       have hcv2 : cv = .pointer (some ⟨g', 0, none⟩) := by rw [hcv, hpx]; exact ptrV_nat g'
       subst hcv2
       have hdx := HFINE.out.dom HMAY.out HN0.out HNL.out x (by rw [hmx]; rfl)
       obtain ⟨xn, rfl⟩ := Int.eq_ofNat_of_zero_le hdx.1
       have HXN := Lib.hid (show xn < 1024 from by omega)
       have hlot3 : LotAt w3 g' c' lt := (hlot.keep (hbr7.out.block _ hlot.lt) (fun z cs n e => by subst e; exact hbr7.out.block _ hlot.2.lt)).keep (hgr3.block _ (Nat.lt_of_lt_of_le hlot.lt hbr7.out.size) (by intro e; injection e with e; have := hlot.lt; have := HRBB.out; omega)) (fun z cs n e => by subst e; exact hgr3.block _ (Nat.lt_of_lt_of_le hlot.2.lt hbr7.out.size) (by intro e; injection e with e; have := hlot.2.lt; have := HRBB.out; omega))
       have HBR3 := Lib.hid (show Below w.heap.size w w3 from below_grownW hbr.out hgr3 HRBW.out)
       have HBR73 := Lib.hid (show Below w7.heap.size w7 w3 from below_grownW hbr7.out hgr3 HRBB.out)
       have HRG3 := Lib.hid hrg3
       have HLT3 := Lib.hid hlt
       have HMX := Lib.hid hmx
       have HNO := Lib.hid hno.out
       clear hcv hpx hfx hlx hok hwx hlot hrg3 hgr3 hsz3 hdx hmx hrg hno hbr hbr7 hlt
       cases lt with
       | great sz =>
        have q0 : w3.cell? ⟨g', 0, none⟩ = some (.bool true) := blk_cell hlot3 0
        clear hlot3
        go_upto_region 9 with fail
        go_quiet (fail)
        go_wp2
        go_roundg cnt3
        case measure => exact HLT3.out
        case rel => exact ⟨_, ⟨HRG3.out.kept rfl rfl⟩, ⟨part_step HNO.out (by unfold partB; rw [HMX.out])⟩, ⟨below_drewN HBR3.out _⟩, ⟨below_drewN HBR73.out _⟩⟩
       | small z cs q =>
        have q0 : w3.cell? ⟨g', 0, none⟩ = some (.bool false) := blk_cell hlot3.1 0
        have q1 : w3.cell? ⟨g', 1, none⟩ = some (.int .u64 z) := blk_cell hlot3.1 1
        have q2 : w3.cell? ⟨g', 2, none⟩ = some (.map (some c')) := blk_cell hlot3.1 2
        have HLOT := Lib.hid hlot3
        have hln : ∀ ty qq, (Builtin.len_ #[88] ty #[.map (some c')]).run Try.prog (w3.drewN qq) = .ok (.int .i64 q) (w3.drewN qq) := fun ty qq => (HLOT.out.2.of_block (w' := w3.drewN qq) rfl).len Try.underlying88 ty
        have hqb : q ≤ 8796093022208 := Nat.le_trans ((HFINE.out.2 _ _ _ _ HMX.out).2) HG.out.2.2
        clear hlot3
        by_cases hzr : z = r
        ·have hzd : (z == r) = true := by simpa using hzr
         have HZR := Lib.hid hzr
         clear hzr
         obtain ⟨cz, hcz⟩ : ∃ cz, 4096 / r = cz := ⟨_, rfl⟩
         have hczt : Int.tdiv 4096 r = cz := by rw [Int.tdiv_eq_ediv_of_nonneg (by decide), hcz]
         have hczb : 0 ≤ cz ∧ cz ≤ 4096 := by rw [← hcz]; exact ⟨Int.ediv_nonneg (by decide) (by omega), Int.ediv_le_self _ (by decide)⟩
         have hczw : IntKind.u64.wrap cz = cz := u64_in hczb.1 (by omega)
         have hqw2 : IntKind.u64.wrap (q : Int) = (q : Int) := u64_in (by omega) (by omega)
         have hrn : ¬ r = 0 := by omega
         have HCZ := Lib.hid hcz
         clear hcz
         by_cases hqc : (q : Int) < cz
         ·have hqd : decide ((q : Int) < cz) = true := decide_eq_true hqc
          have HQC := Lib.hid hqc
          clear hqc
          go_upto_region 9 with fail
          go_quiet (fail)
          go_wp2
          go_ret
          refine ⟨?_, below_drewN HBR3.out _⟩
          rw [HNF2.out, part_some (x := xn) HXN.out (by unfold partB; rw [HMX.out]; simp only; rw [decide_eq_true HZR.out, HCZ.out, decide_eq_true (show (q : Int) < cz from by have h := HQC.out; omega)]; rfl)]
          rw [Bool.not_true, Bool.and_false]
          rfl
         ·have hqd : decide ((q : Int) < cz) = false := decide_eq_false hqc
          have HQC := Lib.hid hqc
          clear hqc
          go_upto_region 9 with fail
          go_quiet (fail)
          go_wp2
          go_roundg cnt3
          case measure => exact HLT3.out
          case rel => exact ⟨_, ⟨HRG3.out.kept rfl rfl⟩, ⟨part_step HNO.out (by unfold partB; rw [HMX.out]; simp only; rw [HCZ.out, decide_eq_false (show ¬ (q : Int) < cz from by have h := HQC.out; omega), Bool.and_false])⟩, ⟨below_drewN HBR3.out _⟩, ⟨below_drewN HBR73.out _⟩⟩
        ·have hzd : (z == r) = false := by simpa using hzr
         have HZR := Lib.hid hzr
         clear hzr
         go_upto_region 9 with fail
         go_quiet (fail)
         go_wp2
         go_roundg cnt3
         case measure => exact HLT3.out
         case rel => exact ⟨_, ⟨HRG3.out.kept rfl rfl⟩, ⟨part_step HNO.out (by unfold partB; rw [HMX.out]; simp only; rw [decide_eq_false HZR.out, Bool.false_and])⟩, ⟨below_drewN HBR3.out _⟩, ⟨below_drewN HBR73.out _⟩⟩
   ·have hqe := HQ4.out hl
    have hqt : Int.tdiv r 4096 = (pg : Int) := by rw [Int.tdiv_eq_ediv_of_nonneg (by omega), hqe]
    have hqw : IntKind.u64.wrap (pg : Int) = (pg : Int) := u64_in (by omega) (by omega)
    have HCS1 := HCS
    have HLR := Lib.hid hl
    by_cases h2 : 0 < sv2
    ·have hd2 : decide (0 < sv2) = true := decide_eq_true h2
     have H2 := Lib.hid h2
     clear h2
     go_wp2_with (go_at_call 47; refine HCS1.out.mono ?_; rintro e w8 ⟨rfl, hb8⟩; have HB8 := Lib.hid (HB7.out.trans (hb8.mono HB7.out.size)); clear hb8)
     go_ret
     refine ⟨?_, HB8.out⟩
     rw [HNF2.out, decide_eq_false (by have := H2.out; have := HS2.out; omega), Bool.false_and]
     rfl
    ·have hd2 : decide (0 < sv2) = false := decide_eq_false h2
     have H2 := Lib.hid h2
     clear h2
     go_wp2_with (first
      | (go_at_call 47; refine HCS1.out.mono ?_; rintro e w8 ⟨rfl, hb8⟩; have HB8 := Lib.hid (HB7.out.trans (hb8.mono HB7.out.size)); have HB78 := Lib.hid hb8; have HM8 := Lib.hid (HM7.out.of_block (hb8.block _ HM7.out.lt)); clear hb8)
      | (at_range; refine wpList_rangeI (by rfl) _ 74 (by rfl) El.ptr 3 87 .i64 KI Try.underlying74 mb s ptr (by rfl) HM8.out ?_; intro w9 cnt9 rb hrb hrg hcnt hg9 hsz9; have HRB := Lib.hid hrb; have HRG := Lib.hid hrg; have HG9 := Lib.hid hg9; clear hrb hrg hg9 hcnt hsz9))
     go_frame
     have HB9 := Lib.hid (show Below w.heap.size w w9 from HB8.out.trans ⟨HG9.out.os, HG9.out.tape, HG9.out.output, HG9.out.size, fun q hq => HG9.out.block q (Nat.lt_of_lt_of_le hq HB8.out.size) (by simp)⟩)
     have HB79 := Lib.hid (show Below w7.heap.size w7 w9 from HB78.out.trans ⟨HG9.out.os, HG9.out.tape, HG9.out.output, HG9.out.size, fun q hq => HG9.out.block q (Nat.lt_of_lt_of_le hq HB78.out.size) (by simp)⟩)
     have HRBB := Lib.hid (show w7.heap.size ≤ rb from by have h1 := HRB.out; have h2 := HB78.out.size; omega)
     have HRBW := Lib.hid (show w.heap.size ≤ rb from by have h1 := HRBB.out; have h2 := HB7.out.size; omega)
     clear HRB HG9 HB8 HB78
     go_loopg [12] cnt9 (fun g v wx => ∃ (left : Int → Bool), Aside0 (RangeI Try.prog El.ptr 3 .i64 wx mb rb s ptr left g) ∧ Aside0 (∀ x : Nat, x < 1024 → (m (x : Int)).isSome = true → left (x : Int) = false → partB m r x = false) ∧ Aside0 (Below w.heap.size w wx) ∧ Aside0 (Below w7.heap.size w7 wx))
     case atStart => exact ⟨_, ⟨HRG.out⟩, ⟨fun x _ h1 h2 => by rw [ptr_some HPTR.out, h1] at h2; cases h2⟩, ⟨HB9.out⟩, ⟨HB79.out⟩⟩
     case round =>
      obtain ⟨left, hrg, hno, hbr, hbr7⟩ := hrel
      go_wp2_with (first
       | (at_next; refine wpList_nextI (by rfl) _ (by rfl) El.ptr 3 .i64 KI Try.underlying3 mb rb s ptr left gk (by rfl) hrg.out ?_ ?_))
      ·intro hc0 hl0
       have HNO := Lib.hid (part_none hno.out (fun x hx => hl0 _ (wfI (by omega) (by omega))))
       clear hl0 hc0
       go_wp2
       go_ret
       refine ⟨?_, hbr.out⟩
       rw [HNF2.out, decide_eq_true (by have := H2.out; have := HS2.out; omega), HNO.out]
       rfl
      ·intro x c3 cv w3 cnt3 hcv hwx hlx hfx hok hrg3 hlt hgr3 hsz3 hen
       obtain ⟨lt, hmx, g', c', hpx, hlot⟩ := ptr_at HPTR.out hfx
       have hcv2 : cv = .pointer (some ⟨g', 0, none⟩) := by rw [hcv, hpx]; exact ptrV_nat g'
       subst hcv2
       have hdx := HFINE.out.dom HMAY.out HN0.out HNL.out x (by rw [hmx]; rfl)
       obtain ⟨xn, rfl⟩ := Int.eq_ofNat_of_zero_le hdx.1
       have HXN := Lib.hid (show xn < 1024 from by omega)
       have hlot3 : LotAt w3 g' c' lt := (hlot.keep (hbr7.out.block _ hlot.lt) (fun z cs n e => by subst e; exact hbr7.out.block _ hlot.2.lt)).keep (hgr3.block _ (Nat.lt_of_lt_of_le hlot.lt hbr7.out.size) (by intro e; injection e with e; have := hlot.lt; have := HRBB.out; omega)) (fun z cs n e => by subst e; exact hgr3.block _ (Nat.lt_of_lt_of_le hlot.2.lt hbr7.out.size) (by intro e; injection e with e; have := hlot.2.lt; have := HRBB.out; omega))
       have HBR3 := Lib.hid (show Below w.heap.size w w3 from below_grownW hbr.out hgr3 HRBW.out)
       have HBR73 := Lib.hid (show Below w7.heap.size w7 w3 from below_grownW hbr7.out hgr3 HRBB.out)
       have HRG3 := Lib.hid hrg3
       have HLT3 := Lib.hid hlt
       have HMX := Lib.hid hmx
       have HNO := Lib.hid hno.out
       clear hcv hpx hfx hlx hok hwx hlot hrg3 hgr3 hsz3 hdx hmx hrg hno hbr hbr7 hlt
       cases lt with
       | great sz =>
        have q0 : w3.cell? ⟨g', 0, none⟩ = some (.bool true) := blk_cell hlot3 0
        clear hlot3
        go_upto_region 9 with fail
        go_quiet (fail)
        go_wp2
        go_roundg cnt3
        case measure => exact HLT3.out
        case rel => exact ⟨_, ⟨HRG3.out.kept rfl rfl⟩, ⟨part_step HNO.out (by unfold partB; rw [HMX.out])⟩, ⟨below_drewN HBR3.out _⟩, ⟨below_drewN HBR73.out _⟩⟩
       | small z cs q =>
        have q0 : w3.cell? ⟨g', 0, none⟩ = some (.bool false) := blk_cell hlot3.1 0
        have q1 : w3.cell? ⟨g', 1, none⟩ = some (.int .u64 z) := blk_cell hlot3.1 1
        have q2 : w3.cell? ⟨g', 2, none⟩ = some (.map (some c')) := blk_cell hlot3.1 2
        have HLOT := Lib.hid hlot3
        have hln : ∀ ty qq, (Builtin.len_ #[88] ty #[.map (some c')]).run Try.prog (w3.drewN qq) = .ok (.int .i64 q) (w3.drewN qq) := fun ty qq => (HLOT.out.2.of_block (w' := w3.drewN qq) rfl).len Try.underlying88 ty
        have hqb : q ≤ 8796093022208 := Nat.le_trans ((HFINE.out.2 _ _ _ _ HMX.out).2) HG.out.2.2
        clear hlot3
        by_cases hzr : z = r
        ·have hzd : (z == r) = true := by simpa using hzr
         have HZR := Lib.hid hzr
         clear hzr
         obtain ⟨cz, hcz⟩ : ∃ cz, 4096 / r = cz := ⟨_, rfl⟩
         have hczt : Int.tdiv 4096 r = cz := by rw [Int.tdiv_eq_ediv_of_nonneg (by decide), hcz]
         have hczb : 0 ≤ cz ∧ cz ≤ 4096 := by rw [← hcz]; exact ⟨Int.ediv_nonneg (by decide) (by omega), Int.ediv_le_self _ (by decide)⟩
         have hczw : IntKind.u64.wrap cz = cz := u64_in hczb.1 (by omega)
         have hqw2 : IntKind.u64.wrap (q : Int) = (q : Int) := u64_in (by omega) (by omega)
         have hrn : ¬ r = 0 := by omega
         have HCZ := Lib.hid hcz
         clear hcz
         by_cases hqc : (q : Int) < cz
         ·have hqd : decide ((q : Int) < cz) = true := decide_eq_true hqc
          have HQC := Lib.hid hqc
          clear hqc
          go_upto_region 9 with fail
          go_quiet (fail)
          go_wp2
          go_ret
          refine ⟨?_, below_drewN HBR3.out _⟩
          rw [HNF2.out, part_some (x := xn) HXN.out (by unfold partB; rw [HMX.out]; simp only; rw [decide_eq_true HZR.out, HCZ.out, decide_eq_true (show (q : Int) < cz from by have h := HQC.out; omega)]; rfl)]
          rw [Bool.not_true, Bool.and_false]
          rfl
         ·have hqd : decide ((q : Int) < cz) = false := decide_eq_false hqc
          have HQC := Lib.hid hqc
          clear hqc
          go_upto_region 9 with fail
          go_quiet (fail)
          go_wp2
          go_roundg cnt3
          case measure => exact HLT3.out
          case rel => exact ⟨_, ⟨HRG3.out.kept rfl rfl⟩, ⟨part_step HNO.out (by unfold partB; rw [HMX.out]; simp only; rw [HCZ.out, decide_eq_false (show ¬ (q : Int) < cz from by have h := HQC.out; omega), Bool.and_false])⟩, ⟨below_drewN HBR3.out _⟩, ⟨below_drewN HBR73.out _⟩⟩
        ·have hzd : (z == r) = false := by simpa using hzr
         have HZR := Lib.hid hzr
         clear hzr
         go_upto_region 9 with fail
         go_quiet (fail)
         go_wp2
         go_roundg cnt3
         case measure => exact HLT3.out
         case rel => exact ⟨_, ⟨HRG3.out.kept rfl rfl⟩, ⟨part_step HNO.out (by unfold partB; rw [HMX.out]; simp only; rw [decide_eq_false HZR.out, Bool.false_and])⟩, ⟨below_drewN HBR3.out _⟩, ⟨below_drewN HBR73.out _⟩⟩
  ·have HNF := Lib.hid (nofit_2 (base := base) (limit := limit) (n := n) (l := l) (show sizeB order r = false from by simpa using hz))
   have HZ := Lib.hid (show sizeB order r = false from by simpa using hz)
   clear hsv hz hsc hfine hmay hn0 hnl
   go_enter Try.func23, Try.ntmps23
   go_wp2_with (first
    | (go_at_call 14; refine (sound_c base limit order n A c l _ (Kd.C_below HR.out HA.out) HC.out HG.out).mono ?_; rintro e w5 ⟨rfl, hb5⟩; rw [HSV.out]; have HB5 := Lib.hid (HA.out.trans (hb5.mono HA.out.size)); have HX5 := Lib.hid ((hb5.block _ (by simp)).trans HAX.out); have hx0 : w5.cell? ⟨w.heap.size, 0, none⟩ = some (.int .u64 base) := blk_cell HX5.out 0; have hx1 : w5.cell? ⟨w.heap.size, 1, none⟩ = some (.int .i64 limit) := blk_cell HX5.out 1; have hx2 : w5.cell? ⟨w.heap.size, 2, none⟩ = some (.int .i64 order) := blk_cell HX5.out 2; clear hb5)
    | (go_at_call 46; refine (size_c base limit hord hord8 r false HZ.out _).mono ?_; rintro e w6 ⟨rfl, hb6⟩; have HB6 := Lib.hid (HB5.out.trans (hb6.mono HB5.out.size)); clear hb6))
   go_ret
   rw [HNF.out]
   exact ⟨rfl, HB6.out⟩
 ·have HNF := Lib.hid (nofit_1 (r := r) (show ¬ soundI base limit order n l = -1 from by rw [hsv]; exact hs))
  have hsb : (sv != -1) = true := by simpa using hs
  clear hs hsv
  go_enter Try.func23, Try.ntmps23
  go_wp2_with (go_at_call 14; refine (sound_c base limit order n A c l _ (Kd.C_below HR.out HA.out) HC.out HG.out).mono ?_; rintro e w5 ⟨rfl, hb5⟩; rw [HSV.out]; have HB5 := Lib.hid (HA.out.trans (hb5.mono HA.out.size)); clear hb5)
  go_ret
  rw [HNF.out]
  exact ⟨rfl, HB5.out⟩
end Go.Proofs.Ytihfblnjgaalcaa.OC
