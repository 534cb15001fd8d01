/- Stretches, walked. -/
import Derived.Test.YtihfblnjgaalcaaOStr
import Derived.Lib.Hide
import Derived.IntWalk
namespace Go.Proofs.Ytihfblnjgaalcaa.OS
open Go Go.RowKit Go.Maps Go.Proofs.YtihfblnjgaalcaaW.PrintWords Go.Proofs.YtihfblnjgaalcaaW.PrintLast Go.Proofs.YtihfblnjgaalcaaW.PrintMore Go.Proofs.Ytihfblnjgaalcaa.R Go.Proofs.Ytihfblnjgaalcaa.OM Go.Proofs.Ytihfblnjgaalcaa.OP Go.Proofs.Ytihfblnjgaalcaa.OR
set_option linter.unusedVariables false
set_option linter.unusedSimpArgs false
theorem div_k (x k : Nat) (hx : x < 1024) (hk : 0 < k) : 0 ≤ ((x / k : Nat) : Int) ∧ ((x / k : Nat) : Int) < 9223372036854775808 := by have := Nat.div_le_self x k; generalize x / k = q at *; omega
theorem div_eq (x k : Nat) (hx : x < 1024) (hk : 0 < k) : wrap64 ((x : Int) / (k : Int)) = ((x / k : Nat) : Int) := by
 have := Nat.div_le_self x k
 rw [← Int.natCast_ediv]
 generalize x / k = q at *
 unfold wrap64; omega
theorem div_wf (x k : Nat) (hx : x < 1024) (hk : 0 < k) : (Lit.int .i64 (wrap64 ((x : Int) / (k : Int)))).wf = true := by
 rw [div_eq x k hx hk]; exact wfI (div_k x k hx hk).1 (div_k x k hx hk).2
theorem res_eq (T k sz : Nat) (hT : T ≤ 1024) (hk : 0 < k) (hs : sz ≤ 1024) : Ending.returned (.int .i64 (wrap64 (wrap64 ((T : Int) / (k : Int)) - (sz : Int)))) = .returned (.int .i64 (((T / k : Nat) : Int) - (sz : Int))) := by
 have := Nat.div_le_self T k
 rw [← Int.natCast_ediv]
 generalize T / k = q at *
 congr 2
 unfold wrap64; omega
theorem below_drewN {B : Nat} {w w' : World} (h : Below B w w') (n : Nat) : Below B w (w'.drewN n) := ⟨h.os, h.tape, h.output, h.size, h.block⟩
set_option maxRecDepth 100000 in
set_option maxHeartbeats 4000000 in
theorem stretches_calls (base limit order n : Int) (T k : Nat) (mb s : Nat) (m : PM) (w : World) (hR : RepR w mb s m) (hdom : ∀ x, (m x).isSome = true → 0 ≤ x ∧ x < 1024) (h0 : 0 ≤ order) (h8 : order ≤ 8) (hT : n * 2 ^ order.toNat = (T : Int)) (hT2 : T ≤ 1024) (hk : 0 < k) (hk2 : k ≤ 1024) :
  Calls Try.prog 47 #[.agg #[.int .u64 base, .int .i64 limit, .int .i64 order], .int .i64 n, .map (some mb), .int .i64 (k : Int)] w fun e w' => e = .returned (.int .i64 (((T / k : Nat) : Int) - (occN m T k : Int))) ∧ Below w.heap.size w w' := by
 obtain ⟨ptr, hM, hsome⟩ := RepR.open_ hR
 have hsh : IntKind.i64.wrap (n * 2 ^ min order.toNat 64) = (T : Int) := by
  rw [Nat.min_eq_left (by omega), hT]; exact IntWalk.i64_in _ (by omega)
 have hsh2 : wrap64 (n * 2 ^ order.toNat) = (T : Int) := by rw [hT]; unfold wrap64; omega
 have hdt : wrap64 (Int.tdiv (T : Int) (k : Int)) = ((T / k : Nat) : Int) := by
  rw [Int.tdiv_eq_ediv_of_nonneg (by omega)]
  have := Nat.div_le_self T k
  rw [← Int.natCast_ediv]
  generalize T / k = q at *
  unfold wrap64; omega
 have HDT := Lib.hid hdt
 clear hdt
 have HM := Lib.hid hM
 have HS := Lib.hid hsome
 have HD := Lib.hid hdom
 have HT2 := Lib.hid hT2
 have HK2 := Lib.hid hk2
 clear hM hsome hR hdom hT
 have hmm := @run_makeMap Try.prog
 go_enter Try.func47, Try.ntmps47
 go_wp2_with (first
  | (at_range; refine wpList_rangeI (by rfl) _ 74 (by rfl) El.ptr 3 87 .i64 KI Try.underlying74 mb s ptr (by rfl) ((HM.out.alloc _).alloc _) ?_; intro w1 cnt rb hrb hrg hcnt hg hsz))
 go_frame
 have HBX := Lib.hid (show w1.heap[w.heap.size]? = some (.cells #[.int .u64 base, .int .i64 limit, .int .i64 order] 29 (0, 0)) from (hg.block _ (by simp; omega) (by simp)).trans ((Below.heap_alloc _ _ _ (by simp)).trans (blk_new w _)))
 have HM1 := Lib.hid (show MapI Try.prog (El.int .i64) 3 .i64 w1 (w.heap.size + 1) 0 (fun _ => none) from (by have h := MapI.made (w.alloc (.cells #[.int .u64 base, .int .i64 limit, .int .i64 order] 29)) Try.prog (El.int .i64) 3 .i64; simp at h; exact h.of_block (hg.block _ (by simp) (by simp))))
 have HB1 := Lib.hid (show Below w.heap.size w w1 from ((((Below.refl w.heap.size w).alloc (Nat.le_refl _) _).alloc (by simp) _).trans ⟨hg.os, hg.tape, hg.output, hg.size, fun k hk => hg.block k (by simp; omega) (by simp)⟩))
 simp at hrb hsz
 have HRB := Lib.hid hrb
 have HRG := Lib.hid hrg
 have HSZ := Lib.hid hsz
 clear hrg hsz hg hrb hmm
 go_loopg [10] cnt (fun g v wr => ∃ (left : Int → Bool) (gf : Int → Option Int) (sz : Nat), Aside0 (RangeI Try.prog El.ptr 3 .i64 wr mb rb s ptr left g) ∧ Aside0 (MapI Try.prog (El.int .i64) 3 .i64 wr (w.heap.size + 1) sz gf) ∧ Aside0 (Met m T k left gf sz) ∧ Aside0 (Below w.heap.size w wr) ∧
  Aside0 (wr.heap[w.heap.size]? = some (.cells #[.int .u64 base, .int .i64 limit, .int .i64 order] 29 (0, 0))))
 case atStart => exact ⟨_, _, 0, ⟨HRG.out⟩, ⟨HM1.out⟩, ⟨met_start m T k _ (fun x => HS.out x)⟩, ⟨HB1.out⟩, ⟨HBX.out⟩⟩
 case round =>
  obtain ⟨left, gf, sz, hrg, hmm1, hmet, hbr, hbx⟩ := hrel
  have hcb : wr.cell? ⟨w.heap.size, 2, none⟩ = some (.int .i64 order) := blk_cell hbx.out 2
  go_wp2_with (first
   | (at_next; refine wpList_nextI (by rfl) _ (by rfl) El.ptr 3 .i64 KI Try.underlying3 mb rb s ptr left gk (by rfl) hrg.out ?_ ?_))
  ·intro hc0 hl0
   have HSL := Lib.hid (show sz ≤ 1024 from by rw [hmet.out.2]; simpa using List.countP_le_length (p := fun j : Nat => (gf (j : Int)).isSome) (l := List.range 1024))
   have HE := Lib.hid (met_end hmet.out (fun x hx => hl0 _ (by have h1 := HD.out _ hx; exact wfI h1.1 (by omega))))
   have hlen : ∀ ty q, (Builtin.len_ #[100] ty #[.map (some (w.heap.size + 1))]).run Try.prog (wr.drewN q) = .ok (.int .i64 sz) (wr.drewN q) := fun ty q => (hmm1.out.of_block (w' := wr.drewN q) rfl).len Try.underlying100 ty
   clear hl0 hc0
   have HB := Lib.hid hbr.out
   clear hbr hrg hmm1 hmet hbx
   go_wp2
   go_quiet (fail)
   go_wp2
   go_ret
   refine ⟨?_, below_drewN HB.out _⟩
   exact (res_eq T k sz hT2 hk HSL.out).trans (by rw [HE.out])
  ·intro x c cv w2 cnt2 hcv hwx hlx hfx hok hrg2 hlt hgr2 hsz2 hen
   have hmx := HD.out x (by rw [← HS.out, hfx]; rfl)
   obtain ⟨xn, rfl⟩ := Int.eq_ofNat_of_zero_le hmx.1
   have HX := Lib.hid (show xn < 1024 from by omega)
   have HMX := Lib.hid (show (m (xn : Int)).isSome = true from by rw [← HS.out, hfx]; rfl)
   have hne : rb ≠ w.heap.size := by have := HRB.out; omega
   have hne2 : rb ≠ w.heap.size + 1 := by have := HRB.out; omega
   have HB2 := Lib.hid (show Below w.heap.size w w2 from hbr.out.trans ⟨hgr2.os, hgr2.tape, hgr2.output, hgr2.size, fun q hq => hgr2.block q (Nat.lt_of_lt_of_le hq hbr.out.size) (by intro e; injection e with e; have := HRB.out; omega)⟩)
   have HBX2 := Lib.hid ((hgr2.block _ (blk_lt hbx.out) (by intro e; injection e with e; exact hne e.symm)).trans hbx.out)
   have hcb2 : w2.cell? ⟨w.heap.size, 2, none⟩ = some (.int .i64 order) := blk_cell HBX2.out 2
   have HM2 := Lib.hid (hmm1.out.of_block (hgr2.block _ hmm1.out.lt (by intro e; injection e with e; exact hne2 e.symm)))
   have HRG2 := Lib.hid hrg2
   have HLT := Lib.hid hlt
   have HMET := Lib.hid hmet.out
   have HSL := Lib.hid (show sz ≤ 1024 from by rw [hmet.out.2]; simpa using List.countP_le_length (p := fun j : Nat => (gf (j : Int)).isSome) (l := List.range 1024))
   clear hrg2 hlt hmet hmm1 hbr hbx hrg hgr2 hsz2 hfx hlx hwx hok hmx hcb hcv
   by_cases ht : xn < T
   ·have hd : decide (xn < T) = true := decide_eq_true ht
    have HTT := Lib.hid ht
    clear ht
    obtain ⟨cg, hcg⟩ : ∃ cg, (gf (wrap64 ((xn : Int) / (k : Int)))).getD 0 = cg := ⟨_, rfl⟩
    have HCG := Lib.hid hcg
    clear hcg
    have hszl : sz < maxLen := by have := HSL.out; unfold maxLen; omega
    have HSZL := Lib.hid hszl
    clear hszl
    go_wp2_with (first
     | (at_lookup; refine wpList_lookI (by rfl) _ _ 100 (by rfl) (El.int .i64) 3 3 .i64 KI Try.underlying3 Try.underlying100 0 trivial (zero_int _) (w.heap.size + 1) sz gf (by rfl) HM2.out (wrap64 ((xn : Int) / (k : Int))) (by rfl) (div_wf xn k HX.out hk) (.int .i64 cg) (by rw [HCG.out]; rfl) ?_)
     | (at_mapUpdate; refine wpList_putI (by rfl) _ _ _ 100 (by rfl) (El.int .i64) 3 3 .i64 KI Try.underlying3 Try.underlying100 (w.heap.size + 1) sz gf (by rfl) HM2.out HSZL.out (wrap64 ((xn : Int) / (k : Int))) (wrap64 (cg + 1)) (by rfl) (by rfl) (div_wf xn k HX.out hk) trivial ?_; intro w3 hm3 hg3; have HM3 := Lib.hid hm3; have HG3 := Lib.hid hg3; clear hm3 hg3))
    go_roundg cnt2
    case measure => exact HLT.out
    case rel =>
     have hgr := HG3.out
     refine ⟨_, _, _, ⟨HRG2.out.kept (hgr.block _ HRG2.out.map.lt (by intro e; injection e with e; have := HM.out.lt; omega)) (hgr.block _ HRG2.out.lt (by intro e; injection e with e; exact hne2 e))⟩, ⟨HM3.out⟩, ⟨by rw [div_eq xn k HX.out hk]; exact met_hit HMET.out HMX.out HTT.out hT2 _⟩, ⟨?_⟩, ⟨(hgr.block _ (blk_lt HBX2.out) (by simp)).trans HBX2.out⟩⟩
     exact HB2.out.trans ⟨hgr.os, hgr.tape, hgr.output, hgr.size, fun q hq => hgr.block q (Nat.lt_of_lt_of_le hq HB2.out.size) (by intro e; injection e with e; omega)⟩
   ·have hd : decide (xn < T) = false := decide_eq_false ht
    have HTT := Lib.hid ht
    clear ht
    go_wp2
    go_roundg cnt2
    case measure => exact HLT.out
    case rel => exact ⟨_, gf, sz, ⟨HRG2.out⟩, ⟨HM2.out⟩, ⟨met_miss HMET.out (by have := HTT.out; omega)⟩, ⟨HB2.out⟩, ⟨HBX2.out⟩⟩
end Go.Proofs.Ytihfblnjgaalcaa.OS
