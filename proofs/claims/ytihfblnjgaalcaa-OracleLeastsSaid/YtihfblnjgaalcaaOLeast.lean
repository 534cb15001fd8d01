/- Least, walked. -/
import Derived.Test.YtihfblnjgaalcaaOLeast0
namespace Go.Proofs.Ytihfblnjgaalcaa.OC
open Go Go.RowKit Go.Maps Go.Proofs.YtihfblnjgaalcaaW.PrintWords Go.Proofs.YtihfblnjgaalcaaW.PrintLast Go.Proofs.YtihfblnjgaalcaaW.PrintMore Go.Proofs.Ytihfblnjgaalcaa.R Go.Proofs.Ytihfblnjgaalcaa.OM Go.Proofs.Ytihfblnjgaalcaa.OP Go.Proofs.Ytihfblnjgaalcaa.OR Go.Proofs.Ytihfblnjgaalcaa.OS Go.Proofs.Ytihfblnjgaalcaa.OB Go.Proofs.Ytihfblnjgaalcaa.OF Go.Proofs.Ytihfblnjgaalcaa.OW Go.Proofs.Ytihfblnjgaalcaa.ON Go.Proofs.Ytihfblnjgaalcaa.OG
set_option linter.unusedVariables false
set_option linter.unusedSimpArgs false
theorem needOf_length (m : PM) (order : Int) (l : List Int) : (needOf m order l).length = order.toNat + 1 := by unfold needOf; rw [List.length_set, bigs_length]
theorem topI_bd (m : PM) (o : Nat) : topI m o ≤ 1024 := top_le m o 1024 (fun x hx _ => by have := Nat.div_le_self x (2 ^ o); omega)
theorem shr_eq {order : Int} {on xn px : Nat} (h : order = (on : Int)) (hp : xn / 2 ^ on = px) (hb : px ≤ 1024) : wrap64 ((xn : Int) / 2 ^ order.toNat + 1) = ((px + 1 : Nat) : Int) := by
 have e : (xn : Int) / 2 ^ order.toNat = (px : Int) := by
  rw [h, Int.toNat_natCast, ← hp]
  simp
 rw [e]
 unfold wrap64; omega
theorem tot_k {base limit order : Int} {on lim k : Nat} (hm : mayB base limit order = true) (ho : order = (on : Int)) (hl : limit = (lim : Int)) (hk : k ≤ lim) : (k : Int) * 2 ^ order.toNat = ((k * 2 ^ on : Nat) : Int) ∧ k * 2 ^ on ≤ 1024 := by
 obtain ⟨a, b, c, d, e, f, g, i⟩ := mayB_iff.1 hm
 rw [ho, Int.toNat_natCast, hl] at e
 have e1 : ((lim * 2 ^ on : Nat) : Int) = (lim : Int) * 2 ^ on := by simp
 have e2 : k * 2 ^ on ≤ lim * 2 ^ on := Nat.mul_le_mul_right _ hk
 rw [ho, Int.toNat_natCast]
 refine ⟨by simp, ?_⟩
 omega
theorem top_bd {m : PM} {o t : Nat} {left : Int → Bool} (h : TopSo m o left t) : t ≤ 1024 := by
 rcases h.2 with h2 | ⟨x, hx, _, h2⟩
 ·omega
 ·have := Nat.div_le_self x (2 ^ o); omega
attribute [local go_sem] max2_int min2_int max_two min_two max_three min_three max_four min_four
set_option maxRecDepth 100000 in
set_option maxHeartbeats 8000000 in
theorem least_c (base limit order : Int) (A : Option Addr) (c : Nat) (l : List S55) (A2 : Option Addr) (c2 : Nat) (z : List Int) (w : World) (hr : Kd.C k55 w A l.length l) (hc : l.length ≤ c) (hr2 : Kd.C (Kd.int .u64) w A2 z.length z) (hc2 : z.length ≤ c2) (hG : Good base l)
  (hzl : z.length ≤ 17592186044416) (hzw : ∀ x ∈ z, 0 ≤ x ∧ x < 18446744073709551616) :
  Calls Try.prog 20 #[.agg #[.int .u64 base, .int .i64 limit, .int .i64 order], .slice A l.length c, .slice A2 z.length c2] w fun e w' => e = .returned (.tuple #[.int .i64 (leastI base limit order l z).1, .bool (leastI base limit order l z).2]) ∧ Below w.heap.size w w' := by
 have HR := Lib.hid hr
 have HG := Lib.hid hG
 have HC := Lib.hid hc
 have HR2 := Lib.hid hr2
 have HZL := Lib.hid hzl
 have HZW := Lib.hid hzw
 obtain ⟨sv, hsv⟩ : ∃ sv, soundI base limit order limit l = sv := ⟨_, rfl⟩
 have HSV := Lib.hid hsv
 have HA := Lib.hid ((Below.refl w.heap.size w).alloc (Nat.le_refl _) (cfgC base limit order))
 have HAX := Lib.hid (blk_new w (cfgC base limit order))
 clear hr hG hc hr2 hc2 hzl hzw
 by_cases hs : sv = -1
 ·subst hs
  obtain ⟨hmay, hn0, hnl, m, hsc, hfine⟩ := sound_ok HG.out.2.1 hsv
  have hord := (mayB_iff.1 hmay).1
  have hord8 := (mayB_iff.1 hmay).2.1
  have HSC := Lib.hid hsc
  have HFINE := Lib.hid hfine
  have HMAY := Lib.hid hmay
  have HN0 := Lib.hid hn0
  have HSND := Lib.hid hsv
  have HFEW := Lib.hid (by have h := scan_few hmay hn0 (Int.le_refl _) l PM.none m 0 0 (-1) HG.out.2.1 few_none hsc; rw [Nat.zero_add] at h; exact h)
  clear hsv hsc hfine hmay hn0 hnl
  go_enter Try.func20, Try.ntmps20
  go_upto_region 5 with (first
   | (go_at_call 14; refine (sound_c base limit order limit A c l _ (Kd.C_below HR.out HA.out) HC.out HG.out).mono ?_; rintro e w5 ⟨rfl, hb5⟩; rw [HSV.out]; have HB5 := Lib.hid (HA.out.trans (hb5.mono HA.out.size)); have HX5 := Lib.hid ((hb5.block _ (by simp)).trans HAX.out); have hx0 : w5.cell? ⟨w.heap.size, 0, none⟩ = some (.int .u64 base) := blk_cell HX5.out 0; have hx1 : w5.cell? ⟨w.heap.size, 1, none⟩ = some (.int .i64 limit) := blk_cell HX5.out 1; have hx2 : w5.cell? ⟨w.heap.size, 2, none⟩ = some (.int .i64 order) := blk_cell HX5.out 2; clear hb5)
   | (go_at_call 39; refine (pages_calls base limit order limit A c l _ (Kd.C_below HR.out HB5.out) HC.out HG.out.2.2 HMAY.out HN0.out (Int.le_refl _) HG.out.2.1 HG.out.1.1).mono ?_; rintro e w7 ⟨hb7, hp⟩; obtain ⟨mb, s, rfl, hrep, hss⟩ := pages_some HSC.out hp; have HREP := Lib.hid hrep; have HSS := Lib.hid hss; have HB7 := Lib.hid (HB5.out.trans (hb7.mono HB5.out.size)); have HX7 := Lib.hid ((hb7.block _ (blk_lt HX5.out)).trans HX5.out); have hz0 : w7.cell? ⟨w.heap.size, 0, none⟩ = some (.int .u64 base) := blk_cell HX7.out 0; have hz1 : w7.cell? ⟨w.heap.size, 1, none⟩ = some (.int .i64 limit) := blk_cell HX7.out 1; have hz2 : w7.cell? ⟨w.heap.size, 2, none⟩ = some (.int .i64 order) := blk_cell HX7.out 2; clear hb7 hp hrep hss hx0 hx1 hx2)
   | (go_at_call 43; refine (wanted_calls base limit order mb s m _ HREP.out (HFINE.out.dom HMAY.out HN0.out (Int.le_refl _)) (fun x z cs q h => ⟨(HFINE.out.2 x z cs q h).1, Nat.le_trans (HFINE.out.2 x z cs q h).2 HG.out.2.2⟩) hord hord8 z (by have := HSS.out; have := HG.out.2.2; omega) HZL.out HZW.out A2 c2 (Kd.C_below HR2.out HB7.out)).mono ?_; rintro e w8 ⟨hb8, hp8⟩; have HB8 := Lib.hid (HB7.out.trans (hb8.mono HB7.out.size)); have HB78 := Lib.hid hb8; have HX8 := Lib.hid ((hb8.block _ (blk_lt HX7.out)).trans HX7.out); have hy0 : w8.cell? ⟨w.heap.size, 0, none⟩ = some (.int .u64 base) := blk_cell HX8.out 0; have hy1 : w8.cell? ⟨w.heap.size, 1, none⟩ = some (.int .i64 limit) := blk_cell HX8.out 1; have hy2 : w8.cell? ⟨w.heap.size, 2, none⟩ = some (.int .i64 order) := blk_cell HX8.out 2; clear hb8 hz0 hz1 hz2; have HPW := Lib.hid hp8; rcases hp8 with ⟨hall, ga, c', rfl, hnr⟩ | ⟨hall, rfl⟩))
  ·have HALL := Lib.hid hall
   have HNR := Lib.hid hnr
   clear hall hnr HPW
   obtain ⟨ptr, hM, hptr⟩ := HREP.out
   have HM8 := Lib.hid (hM.of_block (HB78.out.block _ hM.lt))
   have HMW := Lib.hid hM.lt
   have HPTR := Lib.hid hptr
   obtain ⟨on, hon⟩ := Int.eq_ofNat_of_zero_le hord
   have HON := Lib.hid hon
   clear hM hptr hon
   go_wp2_with (first
    | (at_range; refine wpList_rangeI (by rfl) _ 74 (by rfl) El.ptr 3 87 .i64 KI Try.underlying74 mb s ptr (by rfl) HM8.out ?_; intro w9 cnt9 rb hrb hrg hcnt hg9 hsz9; have HRB := Lib.hid hrb; have HRG := Lib.hid hrg; have HG9 := Lib.hid hg9; clear hrb hrg hg9 hcnt hsz9))
   go_frame
   have HB9 := Lib.hid (show Below w.heap.size w w9 from HB8.out.trans ⟨HG9.out.os, HG9.out.tape, HG9.out.output, HG9.out.size, fun q hq => HG9.out.block q (Nat.lt_of_lt_of_le hq HB8.out.size) (by simp)⟩)
   have HB89 := Lib.hid (show Below w8.heap.size w8 w9 from ⟨HG9.out.os, HG9.out.tape, HG9.out.output, HG9.out.size, fun q hq => HG9.out.block q hq (by simp)⟩)
   have HRBB := Lib.hid (show w8.heap.size ≤ rb from by have h1 := HRB.out; omega)
   have HRBW := Lib.hid (show w.heap.size ≤ rb from by have h1 := HRBB.out; have h2 := HB8.out.size; omega)
   clear HRB HG9 hy0 hy1 hy2
   go_loopg [12, 13] cnt9 (fun g v v2 wx => ∃ (left : Int → Bool) (t : Nat), v = .int .i64 (t : Int) ∧ Aside0 (RangeI Try.prog El.ptr 3 .i64 wx mb rb s ptr left g) ∧ Aside0 (TopSo m on left t) ∧ Aside0 (Below w.heap.size w wx) ∧ Aside0 (Below w8.heap.size w8 wx))
   case atStart => exact ⟨_, 0, rfl, ⟨HRG.out⟩, ⟨top_start (fun x => ptr_some HPTR.out x)⟩, ⟨HB9.out⟩, ⟨HB89.out⟩⟩
   case round =>
    obtain ⟨left, t, rfl, hrg, htop, hbr, hbr8⟩ := hrel
    have HX := Lib.hid ((hbr8.out.block _ (blk_lt HX8.out)).trans HX8.out)
    go_wp2_with (first
     | (at_next; refine wpList_nextI (by rfl) _ (by rfl) El.ptr 3 .i64 KI Try.underlying3 mb rb s ptr left gk (by rfl) hrg.out ?_ ?_))
    ·intro hc0 hl0
     have HTE := Lib.hid (top_end htop.out (fun x hx => hl0 _ (wfI (by omega) (by omega))))
     have HB := Lib.hid hbr.out
     have HB8w := Lib.hid hbr8.out
     clear hl0 hc0 hrg htop hbr hbr8
     have HNF := Lib.hid (least_3 HSND.out HALL.out HSC.out)
     obtain ⟨top, htp⟩ : ∃ top, topI m on = top := ⟨_, rfl⟩
     have HTP := Lib.hid htp
     have HTE2 := Lib.hid (HTE.out.trans htp)
     have htb : t ≤ 1024 := by rw [HTE2.out, ← htp]; exact topI_bd m on
     obtain ⟨lim, hlim⟩ := Int.eq_ofNat_of_zero_le HN0.out
     have HLIM := Lib.hid hlim
     have hlb : lim ≤ 64 := by have := (mayB_iff.1 HMAY.out).2.2.2.1; omega
     have HND := Lib.hid (need_bd (m := m) (order := order) (l := z) HFEW.out HG.out.2.2 HZL.out)
     obtain ⟨nd, hnd⟩ : ∃ nd, needOf m order z = nd := ⟨_, rfl⟩
     have HNDE := Lib.hid hnd
     have HNL := Lib.hid (show nd.length = order.toNat + 1 from hnd ▸ needOf_length m order z)
     have HNR9 := Lib.hid (show NR w8 ga (order.toNat + 1) c' nd from hnd ▸ HNR.out)
     have HNDB := Lib.hid (show ∀ j, nd.getD j 0 ≤ 2251799813685248 from hnd ▸ HND.out)
     have HRP8 := Lib.hid (RepR.below HREP.out HB78.out)
     have HMT := Lib.hid (fun k (hk : k ≤ lim) => tot_k (limit := limit) HMAY.out HON.out hlim hk)
     have HGAL := Lib.hid (show ga < w8.heap.size from (HNR9.out.at_ 0 (by omega)).2.2.1)
     clear htp hlim hnd
     obtain ⟨wo, rfl⟩ : ∃ wo : World, wo = wr := ⟨_, rfl⟩
     go_wp2
     go_loopg [14] (lim + 1 - t) (fun g v wx => ∃ k : Nat, v = .int .i64 (k : Int) ∧ Aside0 (k ≤ 1024) ∧ Aside0 (g = lim + 1 - k) ∧ Aside0 (outOf (findF (fitAt m on nd) (lim + 1 - k) k) = leastI base limit order l z) ∧ Aside0 (Below w.heap.size w wx) ∧ Aside0 (Below w8.heap.size w8 wx))
     case atStart => exact ⟨t, rfl, ⟨htb⟩, ⟨rfl⟩, ⟨by rw [HNF.out, HNDE.out, HLIM.out, HON.out, Int.toNat_natCast, Int.toNat_natCast, HTP.out, HTE2.out]⟩, ⟨HB.out⟩, ⟨HB8w.out⟩⟩
     case round =>
      obtain ⟨k, rfl, hk1, hgk, hout, hbr, hbr8⟩ := hrel
      have HX := Lib.hid ((hbr8.out.block _ (blk_lt HX8.out)).trans HX8.out)
      have hc0 : wr.cell? ⟨w.heap.size, 0, none⟩ = some (.int .u64 base) := blk_cell HX.out 0
      have hc1 : wr.cell? ⟨w.heap.size, 1, none⟩ = some (.int .i64 limit) := blk_cell HX.out 1
      have hc2 : wr.cell? ⟨w.heap.size, 2, none⟩ = some (.int .i64 order) := blk_cell HX.out 2
      have hkb := hk1.out
      by_cases hkl : k ≤ lim
      ·have hd : decide ((k : Int) ≤ limit) = true := decide_eq_true (by have := HLIM.out; omega)
       have HKL := Lib.hid hkl
       obtain ⟨b, hb⟩ : ∃ b, fitAt m on nd k = b := ⟨_, rfl⟩
       have HFC := Lib.hid (show ∀ X, Below w8.heap.size w8 X → Calls Try.prog 44 #[.agg #[.int .u64 base, .int .i64 limit, .int .i64 order], .int .i64 (k : Int), .map (some mb), .slice (some ⟨ga, 0, none⟩) (order.toNat + 1) c'] X fun e w' => e = .returned (.bool b) ∧ Below X.heap.size X w' from fun X hX => by
        have h := fits_calls base limit order (k : Int) (k * 2 ^ on) mb s m X (RepR.below HRP8.out hX) (HFINE.out.dom HMAY.out HN0.out (Int.le_refl _)) hord hord8 (HMT.out k HKL.out).1 (HMT.out k HKL.out).2 nd (by rw [HNL.out]; omega) HNDB.out (some ⟨ga, 0, none⟩) c' (by rw [HNL.out]; exact (HNR9.out.keep (hX.block _ HGAL.out)).C)
        rw [HNL.out] at h
        rw [← hb]
        exact h)
       have HBB := Lib.hid hb
       clear hkl hb
       have HSU := Lib.hid (show (k : Int) + 1 = ((k + 1 : Nat) : Int) from by omega)
       cases b with
       | true =>
        go_wp2_with (go_at_call 44; refine (HFC.out _ hbr8.out).mono ?_; rintro e w5 ⟨rfl, hb5⟩; have HB5 := Lib.hid hb5; clear hb5)
        go_ret2
        refine ⟨?_, hbr.out.trans (HB5.out.mono hbr.out.size)⟩
        rw [← hout.out, show lim + 1 - k = (lim - k) + 1 from by have := HKL.out; omega, findF, if_pos HBB.out]
        rfl
       | false =>
        go_wp2_with (go_at_call 44; refine (HFC.out _ hbr8.out).mono ?_; rintro e w5 ⟨rfl, hb5⟩; have HB5 := Lib.hid hb5; clear hb5)
        go_roundg (lim + 1 - (k + 1))
        case measure => have := HKL.out; have := hgk.out; omega
        case rel =>
         refine ⟨k + 1, congrArg (Value.int .i64) HSU.out, ⟨by have := HKL.out; omega⟩, ⟨rfl⟩, ⟨?_⟩, ⟨hbr.out.trans (HB5.out.mono hbr.out.size)⟩, ⟨hbr8.out.trans (HB5.out.mono hbr8.out.size)⟩⟩
         rw [← hout.out, show lim + 1 - k = (lim + 1 - (k + 1)) + 1 from by have := HKL.out; omega, findF, if_neg (by rw [HBB.out]; simp)]
      ·have hd : decide ((k : Int) ≤ limit) = false := decide_eq_false (by have := HLIM.out; omega)
       have HKL := Lib.hid hkl
       clear hkl
       go_wp2
       go_ret2
       refine ⟨?_, hbr.out⟩
       rw [← hout.out, show lim + 1 - k = 0 from by have := HKL.out; omega]
       rfl
    ·intro x c3 cv w3 cnt3 hcv hwx hlx hfx hok hrg3 hlt hgr3 hsz3 hen
     have hmx : (m x).isSome = true := by rw [← ptr_some HPTR.out, hfx]; rfl
     have hdx := HFINE.out.dom HMAY.out HN0.out (Int.le_refl _) x hmx
     obtain ⟨xn, rfl⟩ := Int.eq_ofNat_of_zero_le hdx.1
     have HXN := Lib.hid (show xn < 1024 from by omega)
     have htb : t ≤ 1024 := top_bd htop.out
     have hc2 : w3.cell? ⟨w.heap.size, 2, none⟩ = some (.int .i64 order) := blk_cell ((hgr3.block _ (Nat.lt_of_lt_of_le (blk_lt HX8.out) hbr8.out.size) (by intro e; injection e with e; have := blk_lt HX8.out; have := HRBB.out; omega)).trans HX.out) 2
     have HBR3 := Lib.hid (show Below w.heap.size w w3 from below_grownW hbr.out hgr3 HRBW.out)
     have HBR83 := Lib.hid (show Below w8.heap.size w8 w3 from below_grownW hbr8.out hgr3 HRBB.out)
     have HRG3 := Lib.hid hrg3
     have HLT3 := Lib.hid hlt
     have HMX := Lib.hid hmx
     have HTOP := Lib.hid htop.out
     obtain ⟨px, hpx⟩ : ∃ px : Nat, xn / 2 ^ on = px := ⟨_, rfl⟩
     have hpxb : px ≤ 1024 := by rw [← hpx]; exact Nat.le_trans (Nat.div_le_self _ _) (by omega)
     have HPX := Lib.hid hpx
     clear hcv hfx hlx hok hwx hrg3 hgr3 hsz3 hdx hmx hrg htop hbr hbr8 hlt hpx
     have HSHE := Lib.hid (shr_eq (order := order) HON.out HPX.out hpxb)
     go_wp2
     all_goals
      go_roundg cnt3
      case measure => exact HLT3.out
      case rel =>
       refine ⟨_, max t (xn / 2 ^ on + 1), ?_, ⟨HRG3.out⟩, ⟨top_step HTOP.out HXN.out HMX.out⟩, ⟨HBR3.out⟩, ⟨HBR83.out⟩⟩
       have e := HSHE.out
       by_cases hle : px + 1 ≤ t
       ·(rw [HPX.out, Nat.max_eq_left hle]) <;> first | rfl | (congr 1; omega)
       ·(rw [HPX.out, Nat.max_eq_right (by omega)]) <;> first | rfl | exact congrArg _ e | (congr 1; omega)
  ·have HALL := Lib.hid hall
   clear hall HPW
   go_wp2
   go_ret2
   rw [least_2 HALL.out]
   exact ⟨rfl, HB8.out⟩
 ·have HNF := Lib.hid (least_1 (z := z) (show ¬ soundI base limit order limit l = -1 from by rw [hsv]; exact hs))
  have hsb : (sv != -1) = true := by simpa using hs
  clear hs hsv
  go_enter Try.func20, Try.ntmps20
  go_wp2_with (go_at_call 14; refine (sound_c base limit order limit A c l _ (Kd.C_below HR.out HA.out) HC.out HG.out).mono ?_; rintro e w5 ⟨rfl, hb5⟩; rw [HSV.out]; have HB5 := Lib.hid (HA.out.trans (hb5.mono HA.out.size)); clear hb5)
  go_ret2
  rw [HNF.out]
  exact ⟨rfl, HB5.out⟩
end Go.Proofs.Ytihfblnjgaalcaa.OC
