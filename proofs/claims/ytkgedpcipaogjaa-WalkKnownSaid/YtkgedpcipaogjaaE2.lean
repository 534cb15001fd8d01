/- Part 2 of what the rows of this seat rest on: words of the print that they need; how images, spaces, sets lie in memory; the functions walked. -/
import Derived.Test.YtkgedpcipaogjaaE1
import Derived.Test.YtkgedpcipaogjaaZ1
import Derived.Test.YtkgedpcipaogjaaZ2
import Derived.Test.YtkgedpcipaogjaaZ3
import Derived.Test.YtkgedpcipaogjaaZ4
import Derived.Test.YtkgedpcipaogjaaZ5
import Derived.Test.YtkgedpcipaogjaaZ6
import Derived.Test.YtkgedpcipaogjaaZ7
import Derived.Test.YtkgedpcipaogjaaZ8
import Derived.Test.YtkgedpcipaogjaaZ9
import Derived.Test.YtkgedpcipaogjaaZ10
import Derived.Test.YtkgedpcipaogjaaZ11
import Derived.Test.YtkgedpcipaogjaaZ12
namespace Go.Proofs.Ytkgedpcipaogjaa.WB
open Go Go.RowKit Go.Proofs.YtkgedpcipaogjaaW.PrintWords Go.Proofs.YtkgedpcipaogjaaW.PrintLast Go.Proofs.YtkgedpcipaogjaaW.PrintMore Go.Proofs.Ytkgedpcipaogjaa.Mem
set_option linter.unusedVariables false
set_option linter.unusedSimpArgs false
set_option maxRecDepth 100000 in
set_option maxHeartbeats 8000000 in
theorem known_core (w : World) : Calls Try.prog 3 #[] w (DocP w (.bool true)) := by
  have HAW := Lib.hid awake_ok
  have HVO := Lib.hid void_z
  have HSB := Lib.hid slab_z
  have HF1 : True := trivial
  have HFC := fld_cfg
  have HFP := fld_par
  go_enter Try.func3, Try.ntmps3
  go_upto_region 2 with (first
    | (go_at_call 10; clear HF1; refine (HVO.out _).mono ?_; rintro e w1 ⟨s, g1, gp, g5, g6, gh, g8, rfl, hb, hk⟩; clear hk; have HB1 := Lib.hid hb; obtain ⟨a3, ha3⟩ : ∃ W, ((w1.alloc (.cells #[] 22)).alloc (.cells #[.slice (some ⟨w1.heap.size, 0, none⟩) 0 0] 28)).alloc (.cells #[.int .u64 0, .int .u64 0] 22) = W := ⟨_, rfl⟩; clear hb)
    | (go_at_call 10; refine (HVO.out _).mono ?_; rintro e w2 ⟨s, g1, gp, g5, g6, gh, g8, rfl, hb, hk⟩; have HB2 := Lib.hid hb; have HK := Lib.hid hk; clear hb hk; obtain ⟨W3, hW3⟩ : ∃ W, w2.alloc (.cells #[.int .u64 65536, .int .i64 2, .int .i64 1, .int .i64 0, .slice none 0 0, .slice none 0 0, .slice (some ⟨w1.heap.size + 1, 0, none⟩) 1 1, .slice (some ⟨w1.heap.size + 1 + 1, 0, none⟩) 2 2, .slice (some ⟨g8, 0, none⟩) 8 8] 31) = W := ⟨_, rfl⟩))
  clear HFC HFP
  have hc3 : a3.heap[w1.heap.size + 1]? = some (.cells #[.slice (some ⟨w1.heap.size, 0, none⟩) 0 0] 28 (0, 0)) := by
    rw [← ha3]
    have := blk_new (w1.alloc (.cells #[] 22)) (.cells #[.slice (some ⟨w1.heap.size, 0, none⟩) 0 0] 28)
    simp only [World.size_alloc] at this
    exact blk_alloc this _
  have hd3 : a3.heap[w1.heap.size + 1 + 1]? = some (.cells #[.int .u64 0, .int .u64 0] 22 (0, 0)) := by
    rw [← ha3]
    have := blk_new ((w1.alloc (.cells #[] 22)).alloc (.cells #[.slice (some ⟨w1.heap.size, 0, none⟩) 0 0] 28)) (.cells #[.int .u64 0, .int .u64 0] 22)
    simp only [World.size_alloc] at this
    exact this
  have HA3 := Lib.hid (show Below w1.heap.size w1 a3 from by rw [← ha3]; exact (((Below.refl _ _).alloc (Nat.le_refl _) _).alloc (by simp) _).alloc (by simp; omega) _)
  have HV3 := Lib.hid (show W3.heap[w2.heap.size]? = some (.cells #[.int .u64 65536, .int .i64 2, .int .i64 1, .int .i64 0, .slice none 0 0, .slice none 0 0, .slice (some ⟨w1.heap.size + 1, 0, none⟩) 1 1, .slice (some ⟨w1.heap.size + 1 + 1, 0, none⟩) 2 2, .slice (some ⟨g8, 0, none⟩) 8 8] 31 (0, 0)) from by rw [← hW3]; exact blk_new w2 _)
  have HB3 := Lib.hid (show Below w2.heap.size w2 W3 from by rw [← hW3]; exact (Below.refl _ _).alloc (Nat.le_refl _) _)
  have HBW := Lib.hid (show Below w.heap.size w W3 from (HB1.out.trans ((HA3.out.trans (HB2.out.mono HA3.out.size)).mono HB1.out.size)).trans (HB3.out.mono (Nat.le_trans HB1.out.size (Nat.le_trans HA3.out.size HB2.out.size))))
  have HNI := Lib.hid (show ImAt (fun b => b < W3.heap.size) W3 noneIm ⟨none, 0, none, 0, some ⟨w1.heap.size + 1, 0, none⟩, 1, some ⟨w1.heap.size + 1 + 1, 0, none⟩, 2, some ⟨g8, 0, none⟩, 8⟩ from by
    have h6 := (HB3.out.block _ (Nat.lt_of_lt_of_le (blk_lt hc3) HB2.out.size)).trans ((HB2.out.block _ (blk_lt hc3)).trans hc3)
    have hh := (HB3.out.block _ (Nat.lt_of_lt_of_le (blk_lt hd3) HB2.out.size)).trans ((HB2.out.block _ (blk_lt hd3)).trans hd3)
    have h8 := (HB3.out.block _ (blk_lt HK.out.h8)).trans HK.out.h8
    refine ⟨fun h0 => absurd h0 (by decide), fun h0 => absurd h0 (by decide), rowR_at (l := []) (c := 0) (B := some ⟨w1.heap.size, 0, none⟩) h6 (Nat.le_refl 0) (blk_lt h6) (fun h0 => absurd h0 (by decide)), rowI_at (xs := [0, 0]) hh rfl (blk_lt hh), (rowO_row h8).mono (fun b hb => hb ▸ blk_lt h8), Nat.le_refl _, Nat.le_refl _, Nat.le_refl _, Nat.le_refl _, Nat.le_refl _, none_wf⟩)
  clear ha3 hW3 hc3 hd3
  have HFN := Lib.hid (fun (wx : World) (hx : Below W3.heap.size W3 wx) => show ∀ b, b < W3.heap.size → b < wx.heap.size from fun b hb => Nat.lt_of_lt_of_le hb hx.size)
  have HNI2 := Lib.hid (fun (wx : World) (hx : Below W3.heap.size W3 wx) => HNI.out.keep (w' := wx) (fun b hb => hx.block b hb))
  have HIN := Lib.hid (fun (wx : World) (hx : Below W3.heap.size W3 wx) => show Calls Try.prog 13 #[.agg #[.int .u64 65536, .int .i64 2, .int .i64 1, .int .i64 0, .slice none 0 0, .slice none 0 0, .slice (some ⟨w1.heap.size + 1, 0, none⟩) 1 1, .slice (some ⟨w1.heap.size + 1 + 1, 0, none⟩) 2 2, .slice (some ⟨g8, 0, none⟩) 8 8], .int .i64 0, .int .i64 0] wx (DocP wx (.bool true)) from is_t (HNI2.out wx hx) (HFN.out wx hx) none_ok)
  have HBN := Lib.hid (fun (wx : World) (hx : Below W3.heap.size W3 wx) => show Calls Try.prog 12 #[.agg #[.int .u64 65536, .int .i64 2, .int .i64 1, .int .i64 0, .slice none 0 0, .slice none 0 0, .slice (some ⟨w1.heap.size + 1, 0, none⟩) 1 1, .slice (some ⟨w1.heap.size + 1 + 1, 0, none⟩) 2 2, .slice (some ⟨g8, 0, none⟩) 8 8]] wx (fun e w' => ∃ A cap, e = .returned (.slice A 0 cap) ∧ Below wx.heap.size wx w') from by
    have := Blocks_c (HNI2.out wx hx) (HFN.out wx hx)
    unfold BlocksP at this
    rw [none_told] at this
    exact this.mono (fun e w' ⟨A, cap, h1, _, _, h3⟩ => ⟨A, cap, h1, h3⟩))
  have HVN := Lib.hid (fun (wx : World) (hx : Below W3.heap.size W3 wx) => (hx.block _ (blk_lt HV3.out)).trans HV3.out)
  have HF2 : True := trivial
  go_upto_region 4 with (first
    | (go_at_call 11; refine (HAW.out _).mono ?_; rintro e w4 ⟨rfl, hb4⟩; have HB4 := Lib.hid hb4; clear hb4)
    | (go_at_call 10; refine (HVO.out _).mono ?_; rintro e w5 ⟨s, g1, gp, g5, g6, gh, g8', rfl, hb, hk⟩; have HB5 := Lib.hid (HB4.out.trans (hb.mono HB4.out.size)); have HK5 := Lib.hid hk; clear hb hk)
    | (go_at_call 12; clear HF2; refine (kn_blocks HK5.out wf0 void_told).mono ?_; rintro e w6 ⟨A6, cap6, rfl, -, hb⟩; have HB6 := Lib.hid (HB5.out.trans (hb.mono HB5.out.size)); have HN := fun i => blk_cell (HVN.out w6 HB6.out) i; have c0 := HN 0; have c1 := HN 1; have c2 := HN 2; have c3 := HN 3; have c4 := HN 4; have c5 := HN 5; have c6 := HN 6; have c7 := HN 7; have c8 := HN 8; clear HN; simp at c0 c1 c2 c3 c4 c5 c6 c7 c8; clear hb)
    | (go_at_call 13; refine (HIN.out w6 HB6.out).mono ?_; rintro e w7 ⟨rfl, hb⟩; have HB7 := Lib.hid (HB6.out.trans (hb.mono HB6.out.size)); clear c0 c1 c2 c3 c4 c5 c6 c7 c8; have HN := fun i => blk_cell (HVN.out w7 HB7.out) i; have c0 := HN 0; have c1 := HN 1; have c2 := HN 2; have c3 := HN 3; have c4 := HN 4; have c5 := HN 5; have c6 := HN 6; have c7 := HN 7; have c8 := HN 8; clear HN; simp at c0 c1 c2 c3 c4 c5 c6 c7 c8; clear hb)
    | (go_at_call 12; refine (HBN.out w7 HB7.out).mono ?_; rintro e w8 ⟨A8, cap8, rfl, hb⟩; have HB8 := Lib.hid (HBW.out.trans ((HB7.out.trans (hb.mono HB7.out.size)).mono HBW.out.size)); clear hb))
  clear c0 c1 c2 c3 c4 c5 c6 c7 c8 HNI HNI2 HFN HIN HBN HVN HV3 HB3 HBW HB1 HB2 HK HA3
  have HN0 := Lib.hid HB8.out.size
  go_upto_region 5 with (go_at_call 10; refine (HVO.out _).mono ?_; rintro e v1 ⟨s, g1, gp, g5, g6, gh, g8, rfl, hb, hk⟩; obtain ⟨X1, hX⟩ : ∃ V, v1.alloc (.cells #[.int .u64 65536, .int .i64 2, .int .i64 1, .int .i64 1, .slice (some ⟨g1, 0, none⟩) 8192 8192, .slice (some ⟨gp, 0, none⟩) 2 2, .slice (some ⟨g6, 0, none⟩) 1 1, .slice (some ⟨gh, 0, none⟩) 2 2, .slice (some ⟨g8, 0, none⟩) 8 8] 31) = V := ⟨_, rfl⟩; have HB8 := Lib.hid (HB8.out.trans (hb.mono HB8.out.size)); have HK := Lib.hid hk; clear hb hk)
  have HV := Lib.hid (show X1.heap[v1.heap.size]? = some (.cells #[.int .u64 65536, .int .i64 2, .int .i64 1, .int .i64 1, .slice (some ⟨g1, 0, none⟩) 8192 8192, .slice (some ⟨gp, 0, none⟩) 2 2, .slice (some ⟨g6, 0, none⟩) 1 1, .slice (some ⟨gh, 0, none⟩) 2 2, .slice (some ⟨g8, 0, none⟩) 8 8] 31 (0, 0)) from by rw [← hX]; exact blk_new v1 _)
  have HB := Lib.hid (show Below w.heap.size w X1 from by rw [← hX]; exact HB8.out.alloc HB8.out.size _)
  have HK := Lib.hid (HK.out.step (w' := X1) (by rw [← hX]; simp) (fun b hb => by rw [← hX]; exact Below.heap_alloc v1 _ b hb.2))
  have HQ := Lib.hid HB8.out.size
  clear hX HB8
  generalize v1.heap.size = q at *
  generalize w8.heap.size = n at *
  have HN := fun i => blk_cell (HV.out) i
  have c1 := HN 1
  clear HN
  simp at c1
  have f1 := blk_frozen (HV.out) 1
  obtain ⟨X2, hX⟩ : ∃ V, X1.setCell ⟨q, 1, none⟩ (.int .i64 65) = V := ⟨_, rfl⟩
  go_upto_region 6 with (fail)
  clear c1 f1
  have HK := Lib.hid (HK.out.put_q (w' := X2) HV.out (by rw [← hX]; simp [World.setCell]) (fun b hb => by rw [← hX]; exact Below.heap_setCell _ _ _ _ hb))
  have HV := Lib.hid (show X2.heap[q]? = some (.cells #[.int .u64 65536, .int .i64 65, .int .i64 1, .int .i64 1, .slice (some ⟨g1, 0, none⟩) 8192 8192, .slice (some ⟨gp, 0, none⟩) 2 2, .slice (some ⟨g6, 0, none⟩) 1 1, .slice (some ⟨gh, 0, none⟩) 2 2, .slice (some ⟨g8, 0, none⟩) 8 8] 31 (0, 0)) from by rw [← hX]; exact blk_put HV.out 1 _ rfl)
  have HB := Lib.hid (show Below w.heap.size w X2 from by rw [← hX]; exact HB.out.setCell HQ.out _)
  clear hX
  have HN := fun i => blk_cell (HV.out) i
  have c0 := HN 0
  have c1 := HN 1
  have c2 := HN 2
  have c3 := HN 3
  have c4 := HN 4
  have c5 := HN 5
  have c6 := HN 6
  have c7 := HN 7
  have c8 := HN 8
  clear HN
  simp at c0 c1 c2 c3 c4 c5 c6 c7 c8
  go_upto_region 8 with (go_at_call 13; refine (kn_is HK.out wf1 ck1).mono ?_; rintro e X3 ⟨rfl, hb⟩; have HV := Lib.hid ((hb.block q (blk_lt HV.out)).trans HV.out); have HB := Lib.hid (HB.out.trans (hb.mono HB.out.size)); have HK := Lib.hid (HK.out.step hb.size (fun b hbb => hb.block b hbb.2)); clear hb c0 c1 c2 c3 c4 c5 c6 c7 c8)
  have HN0 := Lib.hid HB.out.size
  go_upto_region 9 with (go_at_call 10; refine (HVO.out _).mono ?_; rintro e v1 ⟨s, g1, gp, g5, g6, gh, g8, rfl, hb, hk⟩; have HV := Lib.hid ((hb.block q (blk_lt HV.out)).trans HV.out); have HB := Lib.hid (HB.out.trans (hb.mono HB.out.size)); have HK := Lib.hid hk; clear hb hk; have HN := fun i => blk_cell (HV.out) i; have c0 := HN 0; have c1 := HN 1; have c2 := HN 2; have c3 := HN 3; have c4 := HN 4; have c5 := HN 5; have c6 := HN 6; have c7 := HN 7; have c8 := HN 8; clear HN; simp at c0 c1 c2 c3 c4 c5 c6 c7 c8; have f0 := blk_frozen (HV.out) 0; have f1 := blk_frozen (HV.out) 1; have f2 := blk_frozen (HV.out) 2; have f3 := blk_frozen (HV.out) 3; have f4 := blk_frozen (HV.out) 4; have f5 := blk_frozen (HV.out) 5; have f6 := blk_frozen (HV.out) 6; have f7 := blk_frozen (HV.out) 7; have f8 := blk_frozen (HV.out) 8; obtain ⟨X4, hX⟩ : ∃ V, ((((((((v1.setCell ⟨q, 0, none⟩ (.int .u64 65536)).setCell ⟨q, 1, none⟩ (.int .i64 2)).setCell ⟨q, 2, none⟩ (.int .i64 1)).setCell ⟨q, 3, none⟩ (.int .i64 1)).setCell ⟨q, 4, none⟩ (.slice (some ⟨g1, 0, none⟩) 8192 8192)).setCell ⟨q, 5, none⟩ (.slice (some ⟨gp, 0, none⟩) 2 2)).setCell ⟨q, 6, none⟩ (.slice (some ⟨g6, 0, none⟩) 1 1)).setCell ⟨q, 7, none⟩ (.slice (some ⟨gh, 0, none⟩) 2 2)).setCell ⟨q, 8, none⟩ (.slice (some ⟨g8, 0, none⟩) 8 8) = V := ⟨_, rfl⟩)
  have HP := Lib.hid (show PutG v1 X4 q #[.int .u64 65536, .int .i64 2, .int .i64 1, .int .i64 1, .slice (some ⟨g1, 0, none⟩) 8192 8192, .slice (some ⟨gp, 0, none⟩) 2 2, .slice (some ⟨g6, 0, none⟩) 1 1, .slice (some ⟨gh, 0, none⟩) 2 2, .slice (some ⟨g8, 0, none⟩) 8 8] 31 from by rw [← hX]; exact set9 HV.out (.int .u64 65536) (.int .i64 2) (.int .i64 1) (.int .i64 1) (.slice (some ⟨g1, 0, none⟩) 8192 8192) (.slice (some ⟨gp, 0, none⟩) 2 2) (.slice (some ⟨g6, 0, none⟩) 1 1) (.slice (some ⟨gh, 0, none⟩) 2 2) (.slice (some ⟨g8, 0, none⟩) 8 8))
  clear hX c0 f0 c1 f1 c2 f2 c3 f3 c4 f4 c5 f5 c6 f6 c7 f7 c8 f8
  have HK := Lib.hid (HK.out.put_q HV.out HP.out.size HP.out.far)
  have HV := Lib.hid HP.out.at_
  have HB := Lib.hid (HP.out.below _ _ HQ.out HB.out)
  clear HP
  generalize X3.heap.size = n at *
  obtain ⟨X5, hA⟩ : ∃ V, X4.alloc (.cells #[.int .u64 0, .int .u64 65536, .int .u64 0] 22) = V := ⟨_, rfl⟩
  have HVa := Lib.hid (show X5.heap[q]? = some (.cells #[.int .u64 65536, .int .i64 2, .int .i64 1, .int .i64 1, .slice (some ⟨g1, 0, none⟩) 8192 8192, .slice (some ⟨gp, 0, none⟩) 2 2, .slice (some ⟨g6, 0, none⟩) 1 1, .slice (some ⟨gh, 0, none⟩) 2 2, .slice (some ⟨g8, 0, none⟩) 8 8] 31 (0, 0)) from by rw [← hA]; exact blk_alloc HV.out _)
  have HKa := Lib.hid (HK.out.put_h (w' := X5) (g := X4.heap.size) (ks := [0, 65536, 0]) (by rw [← hA]; simp) (fun b hb => by rw [← hA]; exact Below.heap_alloc _ _ b hb.2) (by rw [← hA]; exact blk_new _ _) ⟨Nat.le_trans HK.out.n1.1 (Nat.le_of_lt HK.out.n1.2), by rw [← hA]; simp⟩)
  have HB := Lib.hid (show Below w.heap.size w X5 from by rw [← hA]; exact HB.out.alloc HB.out.size _)
  have HN := fun i => blk_cell (HVa.out) i
  have c7 := HN 7
  clear HN
  simp at c7
  have f7 := blk_frozen (HVa.out) 7
  obtain ⟨X6, hX⟩ : ∃ V, X5.setCell ⟨q, 7, none⟩ (.slice (some ⟨X4.heap.size, 0, none⟩) 3 3) = V := ⟨_, rfl⟩
  go_upto_region 10 with (fail)
  clear c7 f7 hA HV HK
  have HV := HVa
  have HK := HKa
  clear HVa HKa
  generalize X4.heap.size = gh at *
  have HK := Lib.hid (HK.out.put_q (w' := X6) HV.out (by rw [← hX]; simp [World.setCell]) (fun b hb => by rw [← hX]; exact Below.heap_setCell _ _ _ _ hb))
  have HV := Lib.hid (show X6.heap[q]? = some (.cells #[.int .u64 65536, .int .i64 2, .int .i64 1, .int .i64 1, .slice (some ⟨g1, 0, none⟩) 8192 8192, .slice (some ⟨gp, 0, none⟩) 2 2, .slice (some ⟨g6, 0, none⟩) 1 1, .slice (some ⟨gh, 0, none⟩) 3 3, .slice (some ⟨g8, 0, none⟩) 8 8] 31 (0, 0)) from by rw [← hX]; exact blk_put HV.out 7 _ rfl)
  have HB := Lib.hid (show Below w.heap.size w X6 from by rw [← hX]; exact HB.out.setCell HQ.out _)
  clear hX
  have HN := fun i => blk_cell (HV.out) i
  have c0 := HN 0
  have c1 := HN 1
  have c2 := HN 2
  have c3 := HN 3
  have c4 := HN 4
  have c5 := HN 5
  have c6 := HN 6
  have c7 := HN 7
  have c8 := HN 8
  clear HN
  simp at c0 c1 c2 c3 c4 c5 c6 c7 c8
  go_upto_region 12 with (go_at_call 13; refine (kn_is HK.out wf2 ck2).mono ?_; rintro e X7 ⟨rfl, hb⟩; have HV := Lib.hid ((hb.block q (blk_lt HV.out)).trans HV.out); have HB := Lib.hid (HB.out.trans (hb.mono HB.out.size)); have HK := Lib.hid (HK.out.step hb.size (fun b hbb => hb.block b hbb.2)); clear hb c0 c1 c2 c3 c4 c5 c6 c7 c8)
  have HN0 := Lib.hid HB.out.size
  go_upto_region 13 with (go_at_call 10; refine (HVO.out _).mono ?_; rintro e v1 ⟨s, g1, gp, g5, g6, gh, g8, rfl, hb, hk⟩; have HV := Lib.hid ((hb.block q (blk_lt HV.out)).trans HV.out); have HB := Lib.hid (HB.out.trans (hb.mono HB.out.size)); have HK := Lib.hid hk; clear hb hk; have HN := fun i => blk_cell (HV.out) i; have c0 := HN 0; have c1 := HN 1; have c2 := HN 2; have c3 := HN 3; have c4 := HN 4; have c5 := HN 5; have c6 := HN 6; have c7 := HN 7; have c8 := HN 8; clear HN; simp at c0 c1 c2 c3 c4 c5 c6 c7 c8; have f0 := blk_frozen (HV.out) 0; have f1 := blk_frozen (HV.out) 1; have f2 := blk_frozen (HV.out) 2; have f3 := blk_frozen (HV.out) 3; have f4 := blk_frozen (HV.out) 4; have f5 := blk_frozen (HV.out) 5; have f6 := blk_frozen (HV.out) 6; have f7 := blk_frozen (HV.out) 7; have f8 := blk_frozen (HV.out) 8; obtain ⟨X8, hX⟩ : ∃ V, ((((((((v1.setCell ⟨q, 0, none⟩ (.int .u64 65536)).setCell ⟨q, 1, none⟩ (.int .i64 2)).setCell ⟨q, 2, none⟩ (.int .i64 1)).setCell ⟨q, 3, none⟩ (.int .i64 1)).setCell ⟨q, 4, none⟩ (.slice (some ⟨g1, 0, none⟩) 8192 8192)).setCell ⟨q, 5, none⟩ (.slice (some ⟨gp, 0, none⟩) 2 2)).setCell ⟨q, 6, none⟩ (.slice (some ⟨g6, 0, none⟩) 1 1)).setCell ⟨q, 7, none⟩ (.slice (some ⟨gh, 0, none⟩) 2 2)).setCell ⟨q, 8, none⟩ (.slice (some ⟨g8, 0, none⟩) 8 8) = V := ⟨_, rfl⟩)
  have HP := Lib.hid (show PutG v1 X8 q #[.int .u64 65536, .int .i64 2, .int .i64 1, .int .i64 1, .slice (some ⟨g1, 0, none⟩) 8192 8192, .slice (some ⟨gp, 0, none⟩) 2 2, .slice (some ⟨g6, 0, none⟩) 1 1, .slice (some ⟨gh, 0, none⟩) 2 2, .slice (some ⟨g8, 0, none⟩) 8 8] 31 from by rw [← hX]; exact set9 HV.out (.int .u64 65536) (.int .i64 2) (.int .i64 1) (.int .i64 1) (.slice (some ⟨g1, 0, none⟩) 8192 8192) (.slice (some ⟨gp, 0, none⟩) 2 2) (.slice (some ⟨g6, 0, none⟩) 1 1) (.slice (some ⟨gh, 0, none⟩) 2 2) (.slice (some ⟨g8, 0, none⟩) 8 8))
  clear hX c0 f0 c1 f1 c2 f2 c3 f3 c4 f4 c5 f5 c6 f6 c7 f7 c8 f8
  have HK := Lib.hid (HK.out.put_q HV.out HP.out.size HP.out.far)
  have HV := Lib.hid HP.out.at_
  have HB := Lib.hid (HP.out.below _ _ HQ.out HB.out)
  clear HP
  generalize X7.heap.size = n at *
  have HN := fun i => blk_cell (HV.out) i
  have c5 := HN 5
  clear HN
  simp at c5
  have HN := fun i => blk_cell HK.out.hp i
  have t11 := HN 11
  clear HN
  simp [Pg.cells, vPg0, vPg1, sPg0, sPg1] at t11
  have f11 := blk_frozen HK.out.hp 11
  obtain ⟨X9, hX⟩ : ∃ V, X8.setCell ⟨gp, 11, none⟩ (.int .i64 2) = V := ⟨_, rfl⟩
  go_upto_region 14 with (fail)
  clear c5 t11 f11
  have HP := Lib.hid (show PutG X8 X9 gp ((vPg0 : Pg).cells ++ ({ vPg1 with kd := 2 } : Pg).cells).toArray 39 from by rw [← hX]; exact ((show PutG X8 X8 gp _ _ from ⟨HK.out.hp, fun _ _ => rfl, rfl, fun _ _ _ h => h⟩).set 11 (.int .i64 2) rfl))
  have HV := Lib.hid ((HP.out.far q (blk_ne HV.out HK.out.hp (by decide))).trans HV.out)
  have HB := Lib.hid (HP.out.below _ _ (Nat.le_trans HN0.out HK.out.np.1) HB.out)
  have HK := Lib.hid (HK.out.put_p (p' := vPg0) (q' := { vPg1 with kd := 2 }) HP.out)
  clear HP hX
  have HN := fun i => blk_cell (HV.out) i
  have c0 := HN 0
  have c1 := HN 1
  have c2 := HN 2
  have c3 := HN 3
  have c4 := HN 4
  have c5 := HN 5
  have c6 := HN 6
  have c7 := HN 7
  have c8 := HN 8
  clear HN
  simp at c0 c1 c2 c3 c4 c5 c6 c7 c8
  go_upto_region 16 with (go_at_call 13; refine (kn_is HK.out wf3 ck3).mono ?_; rintro e X10 ⟨rfl, hb⟩; have HV := Lib.hid ((hb.block q (blk_lt HV.out)).trans HV.out); have HB := Lib.hid (HB.out.trans (hb.mono HB.out.size)); have HK := Lib.hid (HK.out.step hb.size (fun b hbb => hb.block b hbb.2)); clear hb c0 c1 c2 c3 c4 c5 c6 c7 c8)
  have HN0 := Lib.hid HB.out.size
  go_upto_region 17 with (go_at_call 10; refine (HVO.out _).mono ?_; rintro e v1 ⟨s, g1, gp, g5, g6, gh, g8, rfl, hb, hk⟩; have HV := Lib.hid ((hb.block q (blk_lt HV.out)).trans HV.out); have HB := Lib.hid (HB.out.trans (hb.mono HB.out.size)); have HK := Lib.hid hk; clear hb hk; have HN := fun i => blk_cell (HV.out) i; have c0 := HN 0; have c1 := HN 1; have c2 := HN 2; have c3 := HN 3; have c4 := HN 4; have c5 := HN 5; have c6 := HN 6; have c7 := HN 7; have c8 := HN 8; clear HN; simp at c0 c1 c2 c3 c4 c5 c6 c7 c8; have f0 := blk_frozen (HV.out) 0; have f1 := blk_frozen (HV.out) 1; have f2 := blk_frozen (HV.out) 2; have f3 := blk_frozen (HV.out) 3; have f4 := blk_frozen (HV.out) 4; have f5 := blk_frozen (HV.out) 5; have f6 := blk_frozen (HV.out) 6; have f7 := blk_frozen (HV.out) 7; have f8 := blk_frozen (HV.out) 8; obtain ⟨X11, hX⟩ : ∃ V, ((((((((v1.setCell ⟨q, 0, none⟩ (.int .u64 65536)).setCell ⟨q, 1, none⟩ (.int .i64 2)).setCell ⟨q, 2, none⟩ (.int .i64 1)).setCell ⟨q, 3, none⟩ (.int .i64 1)).setCell ⟨q, 4, none⟩ (.slice (some ⟨g1, 0, none⟩) 8192 8192)).setCell ⟨q, 5, none⟩ (.slice (some ⟨gp, 0, none⟩) 2 2)).setCell ⟨q, 6, none⟩ (.slice (some ⟨g6, 0, none⟩) 1 1)).setCell ⟨q, 7, none⟩ (.slice (some ⟨gh, 0, none⟩) 2 2)).setCell ⟨q, 8, none⟩ (.slice (some ⟨g8, 0, none⟩) 8 8) = V := ⟨_, rfl⟩)
  have HP := Lib.hid (show PutG v1 X11 q #[.int .u64 65536, .int .i64 2, .int .i64 1, .int .i64 1, .slice (some ⟨g1, 0, none⟩) 8192 8192, .slice (some ⟨gp, 0, none⟩) 2 2, .slice (some ⟨g6, 0, none⟩) 1 1, .slice (some ⟨gh, 0, none⟩) 2 2, .slice (some ⟨g8, 0, none⟩) 8 8] 31 from by rw [← hX]; exact set9 HV.out (.int .u64 65536) (.int .i64 2) (.int .i64 1) (.int .i64 1) (.slice (some ⟨g1, 0, none⟩) 8192 8192) (.slice (some ⟨gp, 0, none⟩) 2 2) (.slice (some ⟨g6, 0, none⟩) 1 1) (.slice (some ⟨gh, 0, none⟩) 2 2) (.slice (some ⟨g8, 0, none⟩) 8 8))
  clear hX c0 f0 c1 f1 c2 f2 c3 f3 c4 f4 c5 f5 c6 f6 c7 f7 c8 f8
  have HK := Lib.hid (HK.out.put_q HV.out HP.out.size HP.out.far)
  have HV := Lib.hid HP.out.at_
  have HB := Lib.hid (HP.out.below _ _ HQ.out HB.out)
  clear HP
  generalize X10.heap.size = n at *
  have HN := fun i => blk_cell (HV.out) i
  have c5 := HN 5
  clear HN
  simp at c5
  have HN := fun i => blk_cell HK.out.hp i
  have t12 := HN 12
  clear HN
  simp [Pg.cells, vPg0, vPg1, sPg0, sPg1] at t12
  have f12 := blk_frozen HK.out.hp 12
  obtain ⟨X12, hX⟩ : ∃ V, X11.setCell ⟨gp, 12, none⟩ (.int .i64 0) = V := ⟨_, rfl⟩
  go_upto_region 18 with (fail)
  clear c5 t12 f12
  have HP := Lib.hid (show PutG X11 X12 gp ((vPg0 : Pg).cells ++ ({ vPg1 with od := 0 } : Pg).cells).toArray 39 from by rw [← hX]; exact ((show PutG X11 X11 gp _ _ from ⟨HK.out.hp, fun _ _ => rfl, rfl, fun _ _ _ h => h⟩).set 12 (.int .i64 0) rfl))
  have HV := Lib.hid ((HP.out.far q (blk_ne HV.out HK.out.hp (by decide))).trans HV.out)
  have HB := Lib.hid (HP.out.below _ _ (Nat.le_trans HN0.out HK.out.np.1) HB.out)
  have HK := Lib.hid (HK.out.put_p (p' := vPg0) (q' := { vPg1 with od := 0 }) HP.out)
  clear HP hX
  have HN := fun i => blk_cell (HV.out) i
  have c0 := HN 0
  have c1 := HN 1
  have c2 := HN 2
  have c3 := HN 3
  have c4 := HN 4
  have c5 := HN 5
  have c6 := HN 6
  have c7 := HN 7
  have c8 := HN 8
  clear HN
  simp at c0 c1 c2 c3 c4 c5 c6 c7 c8
  go_upto_region 20 with (go_at_call 13; refine (kn_is HK.out wf4 ck4).mono ?_; rintro e X13 ⟨rfl, hb⟩; have HV := Lib.hid ((hb.block q (blk_lt HV.out)).trans HV.out); have HB := Lib.hid (HB.out.trans (hb.mono HB.out.size)); have HK := Lib.hid (HK.out.step hb.size (fun b hbb => hb.block b hbb.2)); clear hb c0 c1 c2 c3 c4 c5 c6 c7 c8)
  have HN0 := Lib.hid HB.out.size
  go_upto_region 21 with (go_at_call 10; refine (HVO.out _).mono ?_; rintro e v1 ⟨s, g1, gp, g5, g6, gh, g8, rfl, hb, hk⟩; have HV := Lib.hid ((hb.block q (blk_lt HV.out)).trans HV.out); have HB := Lib.hid (HB.out.trans (hb.mono HB.out.size)); have HK := Lib.hid hk; clear hb hk; have HN := fun i => blk_cell (HV.out) i; have c0 := HN 0; have c1 := HN 1; have c2 := HN 2; have c3 := HN 3; have c4 := HN 4; have c5 := HN 5; have c6 := HN 6; have c7 := HN 7; have c8 := HN 8; clear HN; simp at c0 c1 c2 c3 c4 c5 c6 c7 c8; have f0 := blk_frozen (HV.out) 0; have f1 := blk_frozen (HV.out) 1; have f2 := blk_frozen (HV.out) 2; have f3 := blk_frozen (HV.out) 3; have f4 := blk_frozen (HV.out) 4; have f5 := blk_frozen (HV.out) 5; have f6 := blk_frozen (HV.out) 6; have f7 := blk_frozen (HV.out) 7; have f8 := blk_frozen (HV.out) 8; obtain ⟨X14, hX⟩ : ∃ V, ((((((((v1.setCell ⟨q, 0, none⟩ (.int .u64 65536)).setCell ⟨q, 1, none⟩ (.int .i64 2)).setCell ⟨q, 2, none⟩ (.int .i64 1)).setCell ⟨q, 3, none⟩ (.int .i64 1)).setCell ⟨q, 4, none⟩ (.slice (some ⟨g1, 0, none⟩) 8192 8192)).setCell ⟨q, 5, none⟩ (.slice (some ⟨gp, 0, none⟩) 2 2)).setCell ⟨q, 6, none⟩ (.slice (some ⟨g6, 0, none⟩) 1 1)).setCell ⟨q, 7, none⟩ (.slice (some ⟨gh, 0, none⟩) 2 2)).setCell ⟨q, 8, none⟩ (.slice (some ⟨g8, 0, none⟩) 8 8) = V := ⟨_, rfl⟩)
  have HP := Lib.hid (show PutG v1 X14 q #[.int .u64 65536, .int .i64 2, .int .i64 1, .int .i64 1, .slice (some ⟨g1, 0, none⟩) 8192 8192, .slice (some ⟨gp, 0, none⟩) 2 2, .slice (some ⟨g6, 0, none⟩) 1 1, .slice (some ⟨gh, 0, none⟩) 2 2, .slice (some ⟨g8, 0, none⟩) 8 8] 31 from by rw [← hX]; exact set9 HV.out (.int .u64 65536) (.int .i64 2) (.int .i64 1) (.int .i64 1) (.slice (some ⟨g1, 0, none⟩) 8192 8192) (.slice (some ⟨gp, 0, none⟩) 2 2) (.slice (some ⟨g6, 0, none⟩) 1 1) (.slice (some ⟨gh, 0, none⟩) 2 2) (.slice (some ⟨g8, 0, none⟩) 8 8))
  clear hX c0 f0 c1 f1 c2 f2 c3 f3 c4 f4 c5 f5 c6 f6 c7 f7 c8 f8
  have HK := Lib.hid (HK.out.put_q HV.out HP.out.size HP.out.far)
  have HV := Lib.hid HP.out.at_
  have HB := Lib.hid (HP.out.below _ _ HQ.out HB.out)
  clear HP
  generalize X13.heap.size = n at *
  have HN := fun i => blk_cell (HV.out) i
  have c5 := HN 5
  clear HN
  simp at c5
  have HN := fun i => blk_cell HK.out.hp i
  have t1 := HN 1
  clear HN
  simp [Pg.cells, vPg0, vPg1, sPg0, sPg1] at t1
  have f1 := blk_frozen HK.out.hp 1
  obtain ⟨X15, hX⟩ : ∃ V, X14.setCell ⟨gp, 1, none⟩ (.int .i64 0) = V := ⟨_, rfl⟩
  go_upto_region 22 with (fail)
  clear c5 t1 f1
  have HP := Lib.hid (show PutG X14 X15 gp (({ vPg0 with od := 0 } : Pg).cells ++ (vPg1 : Pg).cells).toArray 39 from by rw [← hX]; exact ((show PutG X14 X14 gp _ _ from ⟨HK.out.hp, fun _ _ => rfl, rfl, fun _ _ _ h => h⟩).set 1 (.int .i64 0) rfl))
  have HV := Lib.hid ((HP.out.far q (blk_ne HV.out HK.out.hp (by decide))).trans HV.out)
  have HB := Lib.hid (HP.out.below _ _ (Nat.le_trans HN0.out HK.out.np.1) HB.out)
  have HK := Lib.hid (HK.out.put_p (p' := { vPg0 with od := 0 }) (q' := vPg1) HP.out)
  clear HP hX
  have HN := fun i => blk_cell (HV.out) i
  have c5 := HN 5
  clear HN
  simp at c5
  have HN := fun i => blk_cell HK.out.hp i
  have t0 := HN 0
  have t1 := HN 1
  have t2 := HN 2
  have t3 := HN 3
  have t4 := HN 4
  have t5 := HN 5
  have t6 := HN 6
  have t7 := HN 7
  have t8 := HN 8
  have t9 := HN 9
  have t10 := HN 10
  clear HN
  simp [Pg.cells, vPg0, vPg1] at t0 t1 t2 t3 t4 t5 t6 t7 t8 t9 t10
  refine quiet_tail 6 (by kernel_rfl) (by kernel_rfl) ?_
  simp only [List.take_succ_cons, List.take_zero, List.drop_succ_cons, List.drop_zero]
  repeat (go_big_quiet_step (fail))
  refine wpQuiet_nil ?_
  intro wq hwq
  obtain ⟨nq, hwq⟩ := hwq
  subst hwq
  clear c5 t0 t1 t2 t3 t4 t5 t6 t7 t8 t9 t10
  have HV := Lib.hid (show (X15.drewN nq).heap[q]? = some (.cells #[.int .u64 65536, .int .i64 2, .int .i64 1, .int .i64 1, .slice (some ⟨g1, 0, none⟩) 8192 8192, .slice (some ⟨gp, 0, none⟩) 2 2, .slice (some ⟨g6, 0, none⟩) 1 1, .slice (some ⟨gh, 0, none⟩) 2 2, .slice (some ⟨g8, 0, none⟩) 8 8] 31 (0, 0)) from HV.out)
  have HB := Lib.hid (pw_below_drewN HB.out nq)
  have HK := Lib.hid (HK.out.step (w' := X15.drewN nq) (Nat.le_refl _) (fun b hb => rfl))
  generalize X15.drewN nq = X16 at *
  have HN := fun i => blk_cell (HV.out) i
  have c5 := HN 5
  clear HN
  simp at c5
  have HN := fun i => blk_cell HK.out.hp i
  have t0 := HN 0
  have t1 := HN 1
  have t2 := HN 2
  have t3 := HN 3
  have t4 := HN 4
  have t5 := HN 5
  have t6 := HN 6
  have t7 := HN 7
  have t8 := HN 8
  have t9 := HN 9
  have t10 := HN 10
  have t11 := HN 11
  have t12 := HN 12
  have t13 := HN 13
  have t14 := HN 14
  have t15 := HN 15
  have t16 := HN 16
  have t17 := HN 17
  have t18 := HN 18
  have t19 := HN 19
  have t20 := HN 20
  have t21 := HN 21
  clear HN
  simp [Pg.cells, vPg0, vPg1, sPg0, sPg1] at t0 t1 t2 t3 t4 t5 t6 t7 t8 t9 t10 t11 t12 t13 t14 t15 t16 t17 t18 t19 t20 t21
  have f11 := blk_frozen HK.out.hp 11
  have f12 := blk_frozen HK.out.hp 12
  have f13 := blk_frozen HK.out.hp 13
  have f14 := blk_frozen HK.out.hp 14
  have f15 := blk_frozen HK.out.hp 15
  have f16 := blk_frozen HK.out.hp 16
  have f17 := blk_frozen HK.out.hp 17
  have f18 := blk_frozen HK.out.hp 18
  have f19 := blk_frozen HK.out.hp 19
  have f20 := blk_frozen HK.out.hp 20
  have f21 := blk_frozen HK.out.hp 21
  obtain ⟨X17, hX⟩ : ∃ V, ((((((((((X16.setCell ⟨gp, 11, none⟩ (.int .i64 0)).setCell ⟨gp, 12, none⟩ (.int .i64 0)).setCell ⟨gp, 13, none⟩ (.int .i64 0)).setCell ⟨gp, 14, none⟩ (.int .i64 0)).setCell ⟨gp, 15, none⟩ (.int .i64 (-1))).setCell ⟨gp, 16, none⟩ (.int .i64 (-1))).setCell ⟨gp, 17, none⟩ (.int .i64 (-1))).setCell ⟨gp, 18, none⟩ (.int .u64 0)).setCell ⟨gp, 19, none⟩ (.int .u64 0)).setCell ⟨gp, 20, none⟩ (.int .u64 0)).setCell ⟨gp, 21, none⟩ (.int .u64 0) = V := ⟨_, rfl⟩
  go_upto_region 23 with (fail)
  clear c5 t0 t1 t2 t3 t4 t5 t6 t7 t8 t9 t10 t11 t12 t13 t14 t15 t16 t17 t18 t19 t20 t21 f11 f12 f13 f14 f15 f16 f17 f18 f19 f20 f21
  have HP := Lib.hid (show PutG X16 X17 gp (({ vPg0 with od := 0 } : Pg).cells ++ ({ vPg0 with od := 0 } : Pg).cells).toArray 39 from by rw [← hX]; exact ((((((((((((show PutG X16 X16 gp _ _ from ⟨HK.out.hp, fun _ _ => rfl, rfl, fun _ _ _ h => h⟩).set 11 (.int .i64 0) rfl).set 12 (.int .i64 0) rfl).set 13 (.int .i64 0) rfl).set 14 (.int .i64 0) rfl).set 15 (.int .i64 (-1)) rfl).set 16 (.int .i64 (-1)) rfl).set 17 (.int .i64 (-1)) rfl).set 18 (.int .u64 0) rfl).set 19 (.int .u64 0) rfl).set 20 (.int .u64 0) rfl).set 21 (.int .u64 0) rfl))
  have HV := Lib.hid ((HP.out.far q (blk_ne HV.out HK.out.hp (by decide))).trans HV.out)
  have HB := Lib.hid (HP.out.below _ _ (Nat.le_trans HN0.out HK.out.np.1) HB.out)
  have HK := Lib.hid (HK.out.put_p (p' := { vPg0 with od := 0 }) (q' := { vPg0 with od := 0 }) HP.out)
  clear HP hX
  have HN := fun i => blk_cell (HV.out) i
  have c0 := HN 0
  have c1 := HN 1
  have c2 := HN 2
  have c3 := HN 3
  have c4 := HN 4
  have c5 := HN 5
  have c6 := HN 6
  have c7 := HN 7
  have c8 := HN 8
  clear HN
  simp at c0 c1 c2 c3 c4 c5 c6 c7 c8
  go_upto_region 25 with (go_at_call 13; refine (kn_is HK.out wf5 ck5).mono ?_; rintro e X18 ⟨rfl, hb⟩; have HV := Lib.hid ((hb.block q (blk_lt HV.out)).trans HV.out); have HB := Lib.hid (HB.out.trans (hb.mono HB.out.size)); have HK := Lib.hid (HK.out.step hb.size (fun b hbb => hb.block b hbb.2)); clear hb c0 c1 c2 c3 c4 c5 c6 c7 c8)
  have HN0 := Lib.hid HB.out.size
  go_upto_region 26 with (go_at_call 10; refine (HVO.out _).mono ?_; rintro e v1 ⟨s, g1, gp, g5, g6, gh, g8, rfl, hb, hk⟩; have HV := Lib.hid ((hb.block q (blk_lt HV.out)).trans HV.out); have HB := Lib.hid (HB.out.trans (hb.mono HB.out.size)); have HK := Lib.hid hk; clear hb hk; have HN := fun i => blk_cell (HV.out) i; have c0 := HN 0; have c1 := HN 1; have c2 := HN 2; have c3 := HN 3; have c4 := HN 4; have c5 := HN 5; have c6 := HN 6; have c7 := HN 7; have c8 := HN 8; clear HN; simp at c0 c1 c2 c3 c4 c5 c6 c7 c8; have f0 := blk_frozen (HV.out) 0; have f1 := blk_frozen (HV.out) 1; have f2 := blk_frozen (HV.out) 2; have f3 := blk_frozen (HV.out) 3; have f4 := blk_frozen (HV.out) 4; have f5 := blk_frozen (HV.out) 5; have f6 := blk_frozen (HV.out) 6; have f7 := blk_frozen (HV.out) 7; have f8 := blk_frozen (HV.out) 8; obtain ⟨X19, hX⟩ : ∃ V, ((((((((v1.setCell ⟨q, 0, none⟩ (.int .u64 65536)).setCell ⟨q, 1, none⟩ (.int .i64 2)).setCell ⟨q, 2, none⟩ (.int .i64 1)).setCell ⟨q, 3, none⟩ (.int .i64 1)).setCell ⟨q, 4, none⟩ (.slice (some ⟨g1, 0, none⟩) 8192 8192)).setCell ⟨q, 5, none⟩ (.slice (some ⟨gp, 0, none⟩) 2 2)).setCell ⟨q, 6, none⟩ (.slice (some ⟨g6, 0, none⟩) 1 1)).setCell ⟨q, 7, none⟩ (.slice (some ⟨gh, 0, none⟩) 2 2)).setCell ⟨q, 8, none⟩ (.slice (some ⟨g8, 0, none⟩) 8 8) = V := ⟨_, rfl⟩)
  have HP := Lib.hid (show PutG v1 X19 q #[.int .u64 65536, .int .i64 2, .int .i64 1, .int .i64 1, .slice (some ⟨g1, 0, none⟩) 8192 8192, .slice (some ⟨gp, 0, none⟩) 2 2, .slice (some ⟨g6, 0, none⟩) 1 1, .slice (some ⟨gh, 0, none⟩) 2 2, .slice (some ⟨g8, 0, none⟩) 8 8] 31 from by rw [← hX]; exact set9 HV.out (.int .u64 65536) (.int .i64 2) (.int .i64 1) (.int .i64 1) (.slice (some ⟨g1, 0, none⟩) 8192 8192) (.slice (some ⟨gp, 0, none⟩) 2 2) (.slice (some ⟨g6, 0, none⟩) 1 1) (.slice (some ⟨gh, 0, none⟩) 2 2) (.slice (some ⟨g8, 0, none⟩) 8 8))
  clear hX c0 f0 c1 f1 c2 f2 c3 f3 c4 f4 c5 f5 c6 f6 c7 f7 c8 f8
  have HK := Lib.hid (HK.out.put_q HV.out HP.out.size HP.out.far)
  have HV := Lib.hid HP.out.at_
  have HB := Lib.hid (HP.out.below _ _ HQ.out HB.out)
  clear HP
  generalize X18.heap.size = n at *
  have HN := fun i => blk_cell (HV.out) i
  have c5 := HN 5
  clear HN
  simp at c5
  have HN := fun i => blk_cell HK.out.hp i
  have t0 := HN 0
  have t1 := HN 1
  have t2 := HN 2
  have t3 := HN 3
  have t4 := HN 4
  have t5 := HN 5
  have t6 := HN 6
  have t7 := HN 7
  have t8 := HN 8
  have t9 := HN 9
  have t10 := HN 10
  clear HN
  simp [Pg.cells, vPg0, vPg1, sPg0, sPg1] at t0 t1 t2 t3 t4 t5 t6 t7 t8 t9 t10
  have f0 := blk_frozen HK.out.hp 0
  have f1 := blk_frozen HK.out.hp 1
  have f2 := blk_frozen HK.out.hp 2
  have f3 := blk_frozen HK.out.hp 3
  have f4 := blk_frozen HK.out.hp 4
  have f5 := blk_frozen HK.out.hp 5
  have f6 := blk_frozen HK.out.hp 6
  have f7 := blk_frozen HK.out.hp 7
  have f8 := blk_frozen HK.out.hp 8
  have f9 := blk_frozen HK.out.hp 9
  have f10 := blk_frozen HK.out.hp 10
  obtain ⟨X20, hX⟩ : ∃ V, ((((((((((X19.setCell ⟨gp, 0, none⟩ (.int .i64 2)).setCell ⟨gp, 1, none⟩ (.int .i64 0)).setCell ⟨gp, 2, none⟩ (.int .i64 0)).setCell ⟨gp, 3, none⟩ (.int .i64 0)).setCell ⟨gp, 4, none⟩ (.int .i64 (-1))).setCell ⟨gp, 5, none⟩ (.int .i64 (-1))).setCell ⟨gp, 6, none⟩ (.int .i64 (-1))).setCell ⟨gp, 7, none⟩ (.int .u64 0)).setCell ⟨gp, 8, none⟩ (.int .u64 0)).setCell ⟨gp, 9, none⟩ (.int .u64 0)).setCell ⟨gp, 10, none⟩ (.int .u64 0) = V := ⟨_, rfl⟩
  go_upto_region 27 with (fail)
  clear c5 t0 t1 t2 t3 t4 t5 t6 t7 t8 t9 t10 f0 f1 f2 f3 f4 f5 f6 f7 f8 f9 f10
  have HP := Lib.hid (show PutG X19 X20 gp (({ kd := 2, od := 0, cl := 0, lv := 0, nx := -1, pv := -1, fs := -1, b0 := 0, b1 := 0, b2 := 0, b3 := 0 } : Pg).cells ++ (vPg1 : Pg).cells).toArray 39 from by rw [← hX]; exact ((((((((((((show PutG X19 X19 gp _ _ from ⟨HK.out.hp, fun _ _ => rfl, rfl, fun _ _ _ h => h⟩).set 0 (.int .i64 2) rfl).set 1 (.int .i64 0) rfl).set 2 (.int .i64 0) rfl).set 3 (.int .i64 0) rfl).set 4 (.int .i64 (-1)) rfl).set 5 (.int .i64 (-1)) rfl).set 6 (.int .i64 (-1)) rfl).set 7 (.int .u64 0) rfl).set 8 (.int .u64 0) rfl).set 9 (.int .u64 0) rfl).set 10 (.int .u64 0) rfl))
  have HV := Lib.hid ((HP.out.far q (blk_ne HV.out HK.out.hp (by decide))).trans HV.out)
  have HB := Lib.hid (HP.out.below _ _ (Nat.le_trans HN0.out HK.out.np.1) HB.out)
  have HK := Lib.hid (HK.out.put_p (p' := { kd := 2, od := 0, cl := 0, lv := 0, nx := -1, pv := -1, fs := -1, b0 := 0, b1 := 0, b2 := 0, b3 := 0 }) (q' := vPg1) HP.out)
  clear HP hX
  have HN := fun i => blk_cell (HV.out) i
  have c5 := HN 5
  clear HN
  simp at c5
  have HN := fun i => blk_cell HK.out.hp i
  have t11 := HN 11
  have t12 := HN 12
  have t13 := HN 13
  have t14 := HN 14
  have t15 := HN 15
  have t16 := HN 16
  have t17 := HN 17
  have t18 := HN 18
  have t19 := HN 19
  have t20 := HN 20
  have t21 := HN 21
  clear HN
  simp [Pg.cells, vPg0, vPg1, sPg0, sPg1] at t11 t12 t13 t14 t15 t16 t17 t18 t19 t20 t21
  have f11 := blk_frozen HK.out.hp 11
  have f12 := blk_frozen HK.out.hp 12
  have f13 := blk_frozen HK.out.hp 13
  have f14 := blk_frozen HK.out.hp 14
  have f15 := blk_frozen HK.out.hp 15
  have f16 := blk_frozen HK.out.hp 16
  have f17 := blk_frozen HK.out.hp 17
  have f18 := blk_frozen HK.out.hp 18
  have f19 := blk_frozen HK.out.hp 19
  have f20 := blk_frozen HK.out.hp 20
  have f21 := blk_frozen HK.out.hp 21
  obtain ⟨X21, hX⟩ : ∃ V, ((((((((((X20.setCell ⟨gp, 11, none⟩ (.int .i64 0)).setCell ⟨gp, 12, none⟩ (.int .i64 0)).setCell ⟨gp, 13, none⟩ (.int .i64 0)).setCell ⟨gp, 14, none⟩ (.int .i64 0)).setCell ⟨gp, 15, none⟩ (.int .i64 (-1))).setCell ⟨gp, 16, none⟩ (.int .i64 (-1))).setCell ⟨gp, 17, none⟩ (.int .i64 (-1))).setCell ⟨gp, 18, none⟩ (.int .u64 0)).setCell ⟨gp, 19, none⟩ (.int .u64 0)).setCell ⟨gp, 20, none⟩ (.int .u64 0)).setCell ⟨gp, 21, none⟩ (.int .u64 0) = V := ⟨_, rfl⟩
  go_upto_region 28 with (fail)
  clear c5 t11 t12 t13 t14 t15 t16 t17 t18 t19 t20 t21 f11 f12 f13 f14 f15 f16 f17 f18 f19 f20 f21
  have HP := Lib.hid (show PutG X20 X21 gp (({ kd := 2, od := 0, cl := 0, lv := 0, nx := -1, pv := -1, fs := -1, b0 := 0, b1 := 0, b2 := 0, b3 := 0 } : Pg).cells ++ ({ kd := 0, od := 0, cl := 0, lv := 0, nx := -1, pv := -1, fs := -1, b0 := 0, b1 := 0, b2 := 0, b3 := 0 } : Pg).cells).toArray 39 from by rw [← hX]; exact ((((((((((((show PutG X20 X20 gp _ _ from ⟨HK.out.hp, fun _ _ => rfl, rfl, fun _ _ _ h => h⟩).set 11 (.int .i64 0) rfl).set 12 (.int .i64 0) rfl).set 13 (.int .i64 0) rfl).set 14 (.int .i64 0) rfl).set 15 (.int .i64 (-1)) rfl).set 16 (.int .i64 (-1)) rfl).set 17 (.int .i64 (-1)) rfl).set 18 (.int .u64 0) rfl).set 19 (.int .u64 0) rfl).set 20 (.int .u64 0) rfl).set 21 (.int .u64 0) rfl))
  have HV := Lib.hid ((HP.out.far q (blk_ne HV.out HK.out.hp (by decide))).trans HV.out)
  have HB := Lib.hid (HP.out.below _ _ (Nat.le_trans HN0.out HK.out.np.1) HB.out)
  have HK := Lib.hid (HK.out.put_p (p' := { kd := 2, od := 0, cl := 0, lv := 0, nx := -1, pv := -1, fs := -1, b0 := 0, b1 := 0, b2 := 0, b3 := 0 }) (q' := { kd := 0, od := 0, cl := 0, lv := 0, nx := -1, pv := -1, fs := -1, b0 := 0, b1 := 0, b2 := 0, b3 := 0 }) HP.out)
  clear HP hX
  obtain ⟨X22, hA⟩ : ∃ V, X21.alloc (.cells #[.int .u64 69632, .int .u64 0] 22) = V := ⟨_, rfl⟩
  have HVa := Lib.hid (show X22.heap[q]? = some (.cells #[.int .u64 65536, .int .i64 2, .int .i64 1, .int .i64 1, .slice (some ⟨g1, 0, none⟩) 8192 8192, .slice (some ⟨gp, 0, none⟩) 2 2, .slice (some ⟨g6, 0, none⟩) 1 1, .slice (some ⟨gh, 0, none⟩) 2 2, .slice (some ⟨g8, 0, none⟩) 8 8] 31 (0, 0)) from by rw [← hA]; exact blk_alloc HV.out _)
  have HKa := Lib.hid (HK.out.put_h (w' := X22) (g := X21.heap.size) (ks := [69632, 0]) (by rw [← hA]; simp) (fun b hb => by rw [← hA]; exact Below.heap_alloc _ _ b hb.2) (by rw [← hA]; exact blk_new _ _) ⟨Nat.le_trans HK.out.n1.1 (Nat.le_of_lt HK.out.n1.2), by rw [← hA]; simp⟩)
  have HB := Lib.hid (show Below w.heap.size w X22 from by rw [← hA]; exact HB.out.alloc HB.out.size _)
  have HN := fun i => blk_cell (HVa.out) i
  have c7 := HN 7
  clear HN
  simp at c7
  have f7 := blk_frozen (HVa.out) 7
  obtain ⟨X23, hX⟩ : ∃ V, X22.setCell ⟨q, 7, none⟩ (.slice (some ⟨X21.heap.size, 0, none⟩) 2 2) = V := ⟨_, rfl⟩
  go_upto_region 29 with (fail)
  clear c7 f7 hA HV HK
  have HV := HVa
  have HK := HKa
  clear HVa HKa
  generalize X21.heap.size = gh at *
  have HK := Lib.hid (HK.out.put_q (w' := X23) HV.out (by rw [← hX]; simp [World.setCell]) (fun b hb => by rw [← hX]; exact Below.heap_setCell _ _ _ _ hb))
  have HV := Lib.hid (show X23.heap[q]? = some (.cells #[.int .u64 65536, .int .i64 2, .int .i64 1, .int .i64 1, .slice (some ⟨g1, 0, none⟩) 8192 8192, .slice (some ⟨gp, 0, none⟩) 2 2, .slice (some ⟨g6, 0, none⟩) 1 1, .slice (some ⟨gh, 0, none⟩) 2 2, .slice (some ⟨g8, 0, none⟩) 8 8] 31 (0, 0)) from by rw [← hX]; exact blk_put HV.out 7 _ rfl)
  have HB := Lib.hid (show Below w.heap.size w X23 from by rw [← hX]; exact HB.out.setCell HQ.out _)
  clear hX
  have HN := fun i => blk_cell (HV.out) i
  have c0 := HN 0
  have c1 := HN 1
  have c2 := HN 2
  have c3 := HN 3
  have c4 := HN 4
  have c5 := HN 5
  have c6 := HN 6
  have c7 := HN 7
  have c8 := HN 8
  clear HN
  simp at c0 c1 c2 c3 c4 c5 c6 c7 c8
  go_upto_region 31 with (go_at_call 13; refine (kn_is HK.out wf6 ck6).mono ?_; rintro e X24 ⟨rfl, hb⟩; have HV := Lib.hid ((hb.block q (blk_lt HV.out)).trans HV.out); have HB := Lib.hid (HB.out.trans (hb.mono HB.out.size)); have HK := Lib.hid (HK.out.step hb.size (fun b hbb => hb.block b hbb.2)); clear hb c0 c1 c2 c3 c4 c5 c6 c7 c8)
  have HN := fun i => blk_cell (HV.out) i
  have c6 := HN 6
  clear HN
  simp at c6
  have t0 := blk_cell HK.out.h6 0
  have t1 := blk_cell HK.out.h5 0
  simp at t0 t1
  have f0 := blk_frozen HK.out.h5 0
  obtain ⟨X25, hX⟩ : ∃ V, X24.setCell ⟨g5, 0, none⟩ (.int .u64 1) = V := ⟨_, rfl⟩
  go_upto_region 32 with (fail)
  clear c6 t0 t1 f0
  have HV := Lib.hid (show X25.heap[q]? = some (.cells #[.int .u64 65536, .int .i64 2, .int .i64 1, .int .i64 1, .slice (some ⟨g1, 0, none⟩) 8192 8192, .slice (some ⟨gp, 0, none⟩) 2 2, .slice (some ⟨g6, 0, none⟩) 1 1, .slice (some ⟨gh, 0, none⟩) 2 2, .slice (some ⟨g8, 0, none⟩) 8 8] 31 (0, 0)) from by rw [← hX, Below.heap_setCell _ _ _ _ (blk_ne HV.out HK.out.h5 (by decide))]; exact HV.out)
  have HB := Lib.hid (show Below w.heap.size w X25 from by rw [← hX]; exact HB.out.setCell (Nat.le_trans HN0.out HK.out.n5.1) _)
  have hk := HK.out.put_5 rfl 1
  rw [hX] at hk
  have HK := Lib.hid hk
  clear hX hk
  have HN := fun i => blk_cell (HV.out) i
  have c0 := HN 0
  have c1 := HN 1
  have c2 := HN 2
  have c3 := HN 3
  have c4 := HN 4
  have c5 := HN 5
  have c6 := HN 6
  have c7 := HN 7
  have c8 := HN 8
  clear HN
  simp at c0 c1 c2 c3 c4 c5 c6 c7 c8
  go_upto_region 34 with (first
    | (go_at_call 13; refine (kn_is HK.out wf7 ck7).mono ?_; rintro e X26 ⟨rfl, hb⟩; have HV := Lib.hid ((hb.block q (blk_lt HV.out)).trans HV.out); have HB := Lib.hid (HB.out.trans (hb.mono HB.out.size)); have HK := Lib.hid (HK.out.step hb.size (fun b hbb => hb.block b hbb.2)); clear hb c0 c1 c2 c3 c4 c5 c6 c7 c8; have HN := fun i => blk_cell (HV.out) i; have c0 := HN 0; have c1 := HN 1; have c2 := HN 2; have c3 := HN 3; have c4 := HN 4; have c5 := HN 5; have c6 := HN 6; have c7 := HN 7; have c8 := HN 8; clear HN; simp at c0 c1 c2 c3 c4 c5 c6 c7 c8)
    | (go_at_call 12; refine (kn_blocks HK.out wf7 told7).mono ?_; rintro e X27 ⟨Ab, capb, rfl, hr, hb⟩; have HV := Lib.hid ((hb.block q (blk_lt HV.out)).trans HV.out); have HB := Lib.hid (HB.out.trans (hb.mono HB.out.size)); have HK := Lib.hid (HK.out.step hb.size (fun b hbb => hb.block b hbb.2)); have HR := Lib.hid hr; clear hb hr c0 c1 c2 c3 c4 c5 c6 c7 c8; obtain ⟨X28, hA⟩ : ∃ V, X27.alloc (.cells #[.int .u64 65536, .int .u64 4096] 42) = V := ⟨_, rfl⟩; have HV := Lib.hid (show X28.heap[q]? = some (.cells #[.int .u64 65536, .int .i64 2, .int .i64 1, .int .i64 1, .slice (some ⟨g1, 0, none⟩) 8192 8192, .slice (some ⟨gp, 0, none⟩) 2 2, .slice (some ⟨g6, 0, none⟩) 1 1, .slice (some ⟨gh, 0, none⟩) 2 2, .slice (some ⟨g8, 0, none⟩) 8 8] 31 (0, 0)) from by rw [← hA]; exact blk_alloc HV.out _); have HB := Lib.hid (show Below w.heap.size w X28 from by rw [← hA]; exact HB.out.alloc HB.out.size _); have HK := Lib.hid (HK.out.step (w' := X28) (by rw [← hA]; simp) (fun b hbb => by rw [← hA]; exact Below.heap_alloc _ _ b hbb.2)); have HR := Lib.hid ((HR.out.keep (w' := X28) (fun b hbb => by rw [← hA]; exact Below.heap_alloc _ _ b hbb.2)).mono (F' := fun _ => True) (fun _ _ => trivial)); have HS := Lib.hid (rowB_one (w := X28) (F := fun _ => True) (show X28.heap[X27.heap.size]? = some (.cells #[.int .u64 65536, .int .u64 4096] 42 (0, 0)) from by rw [← hA]; exact blk_new _ _) trivial))
    | (go_at_call 14; refine (Same_t HR.out HS.out (by decide)).mono ?_; rintro e z9 ⟨rfl, nz, rfl⟩))
  clear HR HS hA
  have HV := Lib.hid (show (X28.drewN nz).heap[q]? = some (.cells #[.int .u64 65536, .int .i64 2, .int .i64 1, .int .i64 1, .slice (some ⟨g1, 0, none⟩) 8192 8192, .slice (some ⟨gp, 0, none⟩) 2 2, .slice (some ⟨g6, 0, none⟩) 1 1, .slice (some ⟨gh, 0, none⟩) 2 2, .slice (some ⟨g8, 0, none⟩) 8 8] 31 (0, 0)) from HV.out)
  have HB := Lib.hid (pw_below_drewN HB.out nz)
  have HK := Lib.hid (HK.out.step (w' := X28.drewN nz) (Nat.le_refl _) (fun b hb => rfl))
  generalize X28.drewN nz = X29 at *
  have HN := fun i => blk_cell (HV.out) i
  have c4 := HN 4
  clear HN
  simp at c4
  obtain ⟨t0, f0⟩ := rowO_cell HK.out.h1 4104 (by rw [HK.out.lm]; decide)
  obtain ⟨X30, hX⟩ : ∃ V, X29.setCell ⟨g1, 4104, none⟩ (.int .u8 1) = V := ⟨_, rfl⟩
  go_upto_region 35 with (fail)
  clear c4 t0 f0
  have HV := Lib.hid (show X30.heap[q]? = some (.cells #[.int .u64 65536, .int .i64 2, .int .i64 1, .int .i64 1, .slice (some ⟨g1, 0, none⟩) 8192 8192, .slice (some ⟨gp, 0, none⟩) 2 2, .slice (some ⟨g6, 0, none⟩) 1 1, .slice (some ⟨gh, 0, none⟩) 2 2, .slice (some ⟨g8, 0, none⟩) 8 8] 31 (0, 0)) from by rw [← hX, Below.heap_setCell _ _ _ _ (blk_ne HV.out HK.out.h1 (by decide))]; exact HV.out)
  have HB := Lib.hid (show Below w.heap.size w X30 from by rw [← hX]; exact HB.out.setCell (Nat.le_trans HN0.out HK.out.n1.1) _)
  have hk := HK.out.put_1 4104 1
  rw [hX] at hk
  have HK := Lib.hid hk
  clear hX hk
  have HN := fun i => blk_cell (HV.out) i
  have c0 := HN 0
  have c1 := HN 1
  have c2 := HN 2
  have c3 := HN 3
  have c4 := HN 4
  have c5 := HN 5
  have c6 := HN 6
  have c7 := HN 7
  have c8 := HN 8
  clear HN
  simp at c0 c1 c2 c3 c4 c5 c6 c7 c8
  go_upto_region 37 with (first
    | (go_at_call 13; refine (kn_is HK.out wf8 ck8).mono ?_; rintro e X31 ⟨rfl, hb⟩; have HV := Lib.hid ((hb.block q (blk_lt HV.out)).trans HV.out); have HB := Lib.hid (HB.out.trans (hb.mono HB.out.size)); have HK := Lib.hid (HK.out.step hb.size (fun b hbb => hb.block b hbb.2)); clear hb c0 c1 c2 c3 c4 c5 c6 c7 c8; have HN := fun i => blk_cell (HV.out) i; have c0 := HN 0; have c1 := HN 1; have c2 := HN 2; have c3 := HN 3; have c4 := HN 4; have c5 := HN 5; have c6 := HN 6; have c7 := HN 7; have c8 := HN 8; clear HN; simp at c0 c1 c2 c3 c4 c5 c6 c7 c8)
    | (go_at_call 12; refine (kn_blocks HK.out wf8 told8).mono ?_; rintro e X32 ⟨Ab, capb, rfl, hr, hb⟩; have HV := Lib.hid ((hb.block q (blk_lt HV.out)).trans HV.out); have HB := Lib.hid (HB.out.trans (hb.mono HB.out.size)); have HK := Lib.hid (HK.out.step hb.size (fun b hbb => hb.block b hbb.2)); have HR := Lib.hid hr; clear hb hr c0 c1 c2 c3 c4 c5 c6 c7 c8))
  clear HR
  have HN := fun i => blk_cell (HV.out) i
  have c4 := HN 4
  clear HN
  simp at c4
  obtain ⟨t0, f0⟩ := rowO_cell HK.out.h1 4104 (by rw [HK.out.lm]; decide)
  obtain ⟨X33, hX⟩ : ∃ V, X32.setCell ⟨g1, 4104, none⟩ (.int .u8 0) = V := ⟨_, rfl⟩
  go_upto_region 38 with (fail)
  clear c4 t0 f0
  have HV := Lib.hid (show X33.heap[q]? = some (.cells #[.int .u64 65536, .int .i64 2, .int .i64 1, .int .i64 1, .slice (some ⟨g1, 0, none⟩) 8192 8192, .slice (some ⟨gp, 0, none⟩) 2 2, .slice (some ⟨g6, 0, none⟩) 1 1, .slice (some ⟨gh, 0, none⟩) 2 2, .slice (some ⟨g8, 0, none⟩) 8 8] 31 (0, 0)) from by rw [← hX, Below.heap_setCell _ _ _ _ (blk_ne HV.out HK.out.h1 (by decide))]; exact HV.out)
  have HB := Lib.hid (show Below w.heap.size w X33 from by rw [← hX]; exact HB.out.setCell (Nat.le_trans HN0.out HK.out.n1.1) _)
  have hk := HK.out.put_1 4104 0
  rw [hX] at hk
  have HK := Lib.hid hk
  clear hX hk
  have HN := fun i => blk_cell (HV.out) i
  have c4 := HN 4
  clear HN
  simp at c4
  obtain ⟨t0, f0⟩ := rowO_cell HK.out.h1 4098 (by rw [HK.out.lm]; decide)
  obtain ⟨X34, hX⟩ : ∃ V, X33.setCell ⟨g1, 4098, none⟩ (.int .u8 1) = V := ⟨_, rfl⟩
  go_upto_region 39 with (fail)
  clear c4 t0 f0
  have HV := Lib.hid (show X34.heap[q]? = some (.cells #[.int .u64 65536, .int .i64 2, .int .i64 1, .int .i64 1, .slice (some ⟨g1, 0, none⟩) 8192 8192, .slice (some ⟨gp, 0, none⟩) 2 2, .slice (some ⟨g6, 0, none⟩) 1 1, .slice (some ⟨gh, 0, none⟩) 2 2, .slice (some ⟨g8, 0, none⟩) 8 8] 31 (0, 0)) from by rw [← hX, Below.heap_setCell _ _ _ _ (blk_ne HV.out HK.out.h1 (by decide))]; exact HV.out)
  have HB := Lib.hid (show Below w.heap.size w X34 from by rw [← hX]; exact HB.out.setCell (Nat.le_trans HN0.out HK.out.n1.1) _)
  have hk := HK.out.put_1 4098 1
  rw [hX] at hk
  have HK := Lib.hid hk
  clear hX hk
  have HN := fun i => blk_cell (HV.out) i
  have c0 := HN 0
  have c1 := HN 1
  have c2 := HN 2
  have c3 := HN 3
  have c4 := HN 4
  have c5 := HN 5
  have c6 := HN 6
  have c7 := HN 7
  have c8 := HN 8
  clear HN
  simp at c0 c1 c2 c3 c4 c5 c6 c7 c8
  go_upto_region 41 with (go_at_call 13; refine (kn_is HK.out wf9 ck9).mono ?_; rintro e X35 ⟨rfl, hb⟩; have HV := Lib.hid ((hb.block q (blk_lt HV.out)).trans HV.out); have HB := Lib.hid (HB.out.trans (hb.mono HB.out.size)); have HK := Lib.hid (HK.out.step hb.size (fun b hbb => hb.block b hbb.2)); clear hb c0 c1 c2 c3 c4 c5 c6 c7 c8)
  have HN0 := Lib.hid HB.out.size
  go_upto_region 42 with (go_at_call 15; refine (HSB.out _).mono ?_; rintro e v1 ⟨s, g1, gp, g5, g6, gh, g8, rfl, hb, hk⟩; have HV := Lib.hid ((hb.block q (blk_lt HV.out)).trans HV.out); have HB := Lib.hid (HB.out.trans (hb.mono HB.out.size)); have HK := Lib.hid hk; clear hb hk; have HN := fun i => blk_cell (HV.out) i; have c0 := HN 0; have c1 := HN 1; have c2 := HN 2; have c3 := HN 3; have c4 := HN 4; have c5 := HN 5; have c6 := HN 6; have c7 := HN 7; have c8 := HN 8; clear HN; simp at c0 c1 c2 c3 c4 c5 c6 c7 c8; have f0 := blk_frozen (HV.out) 0; have f1 := blk_frozen (HV.out) 1; have f2 := blk_frozen (HV.out) 2; have f3 := blk_frozen (HV.out) 3; have f4 := blk_frozen (HV.out) 4; have f5 := blk_frozen (HV.out) 5; have f6 := blk_frozen (HV.out) 6; have f7 := blk_frozen (HV.out) 7; have f8 := blk_frozen (HV.out) 8; obtain ⟨X36, hX⟩ : ∃ V, ((((((((v1.setCell ⟨q, 0, none⟩ (.int .u64 65536)).setCell ⟨q, 1, none⟩ (.int .i64 2)).setCell ⟨q, 2, none⟩ (.int .i64 1)).setCell ⟨q, 3, none⟩ (.int .i64 1)).setCell ⟨q, 4, none⟩ (.slice (some ⟨g1, 0, none⟩) 8192 8192)).setCell ⟨q, 5, none⟩ (.slice (some ⟨gp, 0, none⟩) 2 2)).setCell ⟨q, 6, none⟩ (.slice (some ⟨g6, 0, none⟩) 1 1)).setCell ⟨q, 7, none⟩ (.slice (some ⟨gh, 0, none⟩) 2 2)).setCell ⟨q, 8, none⟩ (.slice (some ⟨g8, 0, none⟩) 8 8) = V := ⟨_, rfl⟩)
  have HP := Lib.hid (show PutG v1 X36 q #[.int .u64 65536, .int .i64 2, .int .i64 1, .int .i64 1, .slice (some ⟨g1, 0, none⟩) 8192 8192, .slice (some ⟨gp, 0, none⟩) 2 2, .slice (some ⟨g6, 0, none⟩) 1 1, .slice (some ⟨gh, 0, none⟩) 2 2, .slice (some ⟨g8, 0, none⟩) 8 8] 31 from by rw [← hX]; exact set9 HV.out (.int .u64 65536) (.int .i64 2) (.int .i64 1) (.int .i64 1) (.slice (some ⟨g1, 0, none⟩) 8192 8192) (.slice (some ⟨gp, 0, none⟩) 2 2) (.slice (some ⟨g6, 0, none⟩) 1 1) (.slice (some ⟨gh, 0, none⟩) 2 2) (.slice (some ⟨g8, 0, none⟩) 8 8))
  clear hX c0 f0 c1 f1 c2 f2 c3 f3 c4 f4 c5 f5 c6 f6 c7 f7 c8 f8
  have HK := Lib.hid (HK.out.put_q HV.out HP.out.size HP.out.far)
  have HV := Lib.hid HP.out.at_
  have HB := Lib.hid (HP.out.below _ _ HQ.out HB.out)
  clear HP
  generalize X35.heap.size = n at *
  have HN := fun i => blk_cell (HV.out) i
  have c0 := HN 0
  have c1 := HN 1
  have c2 := HN 2
  have c3 := HN 3
  have c4 := HN 4
  have c5 := HN 5
  have c6 := HN 6
  have c7 := HN 7
  have c8 := HN 8
  clear HN
  simp at c0 c1 c2 c3 c4 c5 c6 c7 c8
  go_upto_region 44 with (first
    | (go_at_call 13; refine (kn_is HK.out wf10 ck10).mono ?_; rintro e X37 ⟨rfl, hb⟩; have HV := Lib.hid ((hb.block q (blk_lt HV.out)).trans HV.out); have HB := Lib.hid (HB.out.trans (hb.mono HB.out.size)); have HK := Lib.hid (HK.out.step hb.size (fun b hbb => hb.block b hbb.2)); clear hb c0 c1 c2 c3 c4 c5 c6 c7 c8; have HN := fun i => blk_cell (HV.out) i; have c0 := HN 0; have c1 := HN 1; have c2 := HN 2; have c3 := HN 3; have c4 := HN 4; have c5 := HN 5; have c6 := HN 6; have c7 := HN 7; have c8 := HN 8; clear HN; simp at c0 c1 c2 c3 c4 c5 c6 c7 c8)
    | (go_at_call 12; refine (kn_blocks HK.out wf10 told10).mono ?_; rintro e X38 ⟨Ab, capb, rfl, hr, hb⟩; have HV := Lib.hid ((hb.block q (blk_lt HV.out)).trans HV.out); have HB := Lib.hid (HB.out.trans (hb.mono HB.out.size)); have HK := Lib.hid (HK.out.step hb.size (fun b hbb => hb.block b hbb.2)); have HR := Lib.hid hr; clear hb hr c0 c1 c2 c3 c4 c5 c6 c7 c8; obtain ⟨X39, hA⟩ : ∃ V, X38.alloc (.cells #[.int .u64 67584, .int .u64 2048, .int .u64 69632, .int .u64 4096] 42) = V := ⟨_, rfl⟩; have HV := Lib.hid (show X39.heap[q]? = some (.cells #[.int .u64 65536, .int .i64 2, .int .i64 1, .int .i64 1, .slice (some ⟨g1, 0, none⟩) 8192 8192, .slice (some ⟨gp, 0, none⟩) 2 2, .slice (some ⟨g6, 0, none⟩) 1 1, .slice (some ⟨gh, 0, none⟩) 2 2, .slice (some ⟨g8, 0, none⟩) 8 8] 31 (0, 0)) from by rw [← hA]; exact blk_alloc HV.out _); have HB := Lib.hid (show Below w.heap.size w X39 from by rw [← hA]; exact HB.out.alloc HB.out.size _); have HK := Lib.hid (HK.out.step (w' := X39) (by rw [← hA]; simp) (fun b hbb => by rw [← hA]; exact Below.heap_alloc _ _ b hbb.2)); have HR := Lib.hid ((HR.out.keep (w' := X39) (fun b hbb => by rw [← hA]; exact Below.heap_alloc _ _ b hbb.2)).mono (F' := fun _ => True) (fun _ _ => trivial)); have HS := Lib.hid (rowB_two (w := X39) (F := fun _ => True) (show X39.heap[X38.heap.size]? = some (.cells #[.int .u64 67584, .int .u64 2048, .int .u64 69632, .int .u64 4096] 42 (0, 0)) from by rw [← hA]; exact blk_new _ _) trivial))
    | (go_at_call 14; refine (Same_t HR.out HS.out (by decide)).mono ?_; rintro e z9 ⟨rfl, nz, rfl⟩))
  clear HR HS hA
  have HV := Lib.hid (show (X39.drewN nz).heap[q]? = some (.cells #[.int .u64 65536, .int .i64 2, .int .i64 1, .int .i64 1, .slice (some ⟨g1, 0, none⟩) 8192 8192, .slice (some ⟨gp, 0, none⟩) 2 2, .slice (some ⟨g6, 0, none⟩) 1 1, .slice (some ⟨gh, 0, none⟩) 2 2, .slice (some ⟨g8, 0, none⟩) 8 8] 31 (0, 0)) from HV.out)
  have HB := Lib.hid (pw_below_drewN HB.out nz)
  have HK := Lib.hid (HK.out.step (w' := X39.drewN nz) (Nat.le_refl _) (fun b hb => rfl))
  generalize X39.drewN nz = X40 at *
  have HN := fun i => blk_cell (HV.out) i
  have c5 := HN 5
  clear HN
  simp at c5
  have HN := fun i => blk_cell HK.out.hp i
  have t6 := HN 6
  clear HN
  simp [Pg.cells, vPg0, vPg1, sPg0, sPg1] at t6
  have f6 := blk_frozen HK.out.hp 6
  obtain ⟨X41, hX⟩ : ∃ V, X40.setCell ⟨gp, 6, none⟩ (.int .i64 (-1)) = V := ⟨_, rfl⟩
  go_upto_region 45 with (fail)
  clear c5 t6 f6
  have HP := Lib.hid (show PutG X40 X41 gp (({ sPg0 with fs := -1 } : Pg).cells ++ (sPg1 : Pg).cells).toArray 39 from by rw [← hX]; exact ((show PutG X40 X40 gp _ _ from ⟨HK.out.hp, fun _ _ => rfl, rfl, fun _ _ _ h => h⟩).set 6 (.int .i64 (-1)) rfl))
  have HV := Lib.hid ((HP.out.far q (blk_ne HV.out HK.out.hp (by decide))).trans HV.out)
  have HB := Lib.hid (HP.out.below _ _ (Nat.le_trans HN0.out HK.out.np.1) HB.out)
  have HK := Lib.hid (HK.out.put_p (p' := { sPg0 with fs := -1 }) (q' := sPg1) HP.out)
  clear HP hX
  have HN := fun i => blk_cell (HV.out) i
  have c0 := HN 0
  have c1 := HN 1
  have c2 := HN 2
  have c3 := HN 3
  have c4 := HN 4
  have c5 := HN 5
  have c6 := HN 6
  have c7 := HN 7
  have c8 := HN 8
  clear HN
  simp at c0 c1 c2 c3 c4 c5 c6 c7 c8
  go_upto_region 47 with (go_at_call 13; refine (kn_is HK.out wf11 ck11).mono ?_; rintro e X42 ⟨rfl, hb⟩; have HV := Lib.hid ((hb.block q (blk_lt HV.out)).trans HV.out); have HB := Lib.hid (HB.out.trans (hb.mono HB.out.size)); have HK := Lib.hid (HK.out.step hb.size (fun b hbb => hb.block b hbb.2)); clear hb c0 c1 c2 c3 c4 c5 c6 c7 c8)
  have HN0 := Lib.hid HB.out.size
  go_upto_region 48 with (go_at_call 15; refine (HSB.out _).mono ?_; rintro e v1 ⟨s, g1, gp, g5, g6, gh, g8, rfl, hb, hk⟩; have HV := Lib.hid ((hb.block q (blk_lt HV.out)).trans HV.out); have HB := Lib.hid (HB.out.trans (hb.mono HB.out.size)); have HK := Lib.hid hk; clear hb hk; have HN := fun i => blk_cell (HV.out) i; have c0 := HN 0; have c1 := HN 1; have c2 := HN 2; have c3 := HN 3; have c4 := HN 4; have c5 := HN 5; have c6 := HN 6; have c7 := HN 7; have c8 := HN 8; clear HN; simp at c0 c1 c2 c3 c4 c5 c6 c7 c8; have f0 := blk_frozen (HV.out) 0; have f1 := blk_frozen (HV.out) 1; have f2 := blk_frozen (HV.out) 2; have f3 := blk_frozen (HV.out) 3; have f4 := blk_frozen (HV.out) 4; have f5 := blk_frozen (HV.out) 5; have f6 := blk_frozen (HV.out) 6; have f7 := blk_frozen (HV.out) 7; have f8 := blk_frozen (HV.out) 8; obtain ⟨X43, hX⟩ : ∃ V, ((((((((v1.setCell ⟨q, 0, none⟩ (.int .u64 65536)).setCell ⟨q, 1, none⟩ (.int .i64 2)).setCell ⟨q, 2, none⟩ (.int .i64 1)).setCell ⟨q, 3, none⟩ (.int .i64 1)).setCell ⟨q, 4, none⟩ (.slice (some ⟨g1, 0, none⟩) 8192 8192)).setCell ⟨q, 5, none⟩ (.slice (some ⟨gp, 0, none⟩) 2 2)).setCell ⟨q, 6, none⟩ (.slice (some ⟨g6, 0, none⟩) 1 1)).setCell ⟨q, 7, none⟩ (.slice (some ⟨gh, 0, none⟩) 2 2)).setCell ⟨q, 8, none⟩ (.slice (some ⟨g8, 0, none⟩) 8 8) = V := ⟨_, rfl⟩)
  have HP := Lib.hid (show PutG v1 X43 q #[.int .u64 65536, .int .i64 2, .int .i64 1, .int .i64 1, .slice (some ⟨g1, 0, none⟩) 8192 8192, .slice (some ⟨gp, 0, none⟩) 2 2, .slice (some ⟨g6, 0, none⟩) 1 1, .slice (some ⟨gh, 0, none⟩) 2 2, .slice (some ⟨g8, 0, none⟩) 8 8] 31 from by rw [← hX]; exact set9 HV.out (.int .u64 65536) (.int .i64 2) (.int .i64 1) (.int .i64 1) (.slice (some ⟨g1, 0, none⟩) 8192 8192) (.slice (some ⟨gp, 0, none⟩) 2 2) (.slice (some ⟨g6, 0, none⟩) 1 1) (.slice (some ⟨gh, 0, none⟩) 2 2) (.slice (some ⟨g8, 0, none⟩) 8 8))
  clear hX c0 f0 c1 f1 c2 f2 c3 f3 c4 f4 c5 f5 c6 f6 c7 f7 c8 f8
  have HK := Lib.hid (HK.out.put_q HV.out HP.out.size HP.out.far)
  have HV := Lib.hid HP.out.at_
  have HB := Lib.hid (HP.out.below _ _ HQ.out HB.out)
  clear HP
  generalize X42.heap.size = n at *
  have HN := fun i => blk_cell (HV.out) i
  have c8 := HN 8
  clear HN
  simp at c8
  obtain ⟨t0, f0⟩ := rowO_cell HK.out.h8 7 (by rw [HK.out.lt]; decide)
  obtain ⟨X44, hX⟩ : ∃ V, X43.setCell ⟨g8, 7, none⟩ (.int .i64 (-1)) = V := ⟨_, rfl⟩
  go_upto_region 49 with (fail)
  clear c8 t0 f0
  have HV := Lib.hid (show X44.heap[q]? = some (.cells #[.int .u64 65536, .int .i64 2, .int .i64 1, .int .i64 1, .slice (some ⟨g1, 0, none⟩) 8192 8192, .slice (some ⟨gp, 0, none⟩) 2 2, .slice (some ⟨g6, 0, none⟩) 1 1, .slice (some ⟨gh, 0, none⟩) 2 2, .slice (some ⟨g8, 0, none⟩) 8 8] 31 (0, 0)) from by rw [← hX, Below.heap_setCell _ _ _ _ (blk_ne HV.out HK.out.h8 (by decide))]; exact HV.out)
  have HB := Lib.hid (show Below w.heap.size w X44 from by rw [← hX]; exact HB.out.setCell (Nat.le_trans HN0.out HK.out.n8.1) _)
  have hk := HK.out.put_8 7 (-1)
  rw [hX] at hk
  have HK := Lib.hid hk
  clear hX hk
  have HN := fun i => blk_cell (HV.out) i
  have c0 := HN 0
  have c1 := HN 1
  have c2 := HN 2
  have c3 := HN 3
  have c4 := HN 4
  have c5 := HN 5
  have c6 := HN 6
  have c7 := HN 7
  have c8 := HN 8
  clear HN
  simp at c0 c1 c2 c3 c4 c5 c6 c7 c8
  go_upto_region 51 with (go_at_call 13; refine (kn_is HK.out wf12 ck12).mono ?_; rintro e X45 ⟨rfl, hb⟩; have HV := Lib.hid ((hb.block q (blk_lt HV.out)).trans HV.out); have HB := Lib.hid (HB.out.trans (hb.mono HB.out.size)); have HK := Lib.hid (HK.out.step hb.size (fun b hbb => hb.block b hbb.2)); clear hb c0 c1 c2 c3 c4 c5 c6 c7 c8)
  have HN0 := Lib.hid HB.out.size
  go_upto_region 52 with (go_at_call 15; refine (HSB.out _).mono ?_; rintro e v1 ⟨s, g1, gp, g5, g6, gh, g8, rfl, hb, hk⟩; have HV := Lib.hid ((hb.block q (blk_lt HV.out)).trans HV.out); have HB := Lib.hid (HB.out.trans (hb.mono HB.out.size)); have HK := Lib.hid hk; clear hb hk; have HN := fun i => blk_cell (HV.out) i; have c0 := HN 0; have c1 := HN 1; have c2 := HN 2; have c3 := HN 3; have c4 := HN 4; have c5 := HN 5; have c6 := HN 6; have c7 := HN 7; have c8 := HN 8; clear HN; simp at c0 c1 c2 c3 c4 c5 c6 c7 c8; have f0 := blk_frozen (HV.out) 0; have f1 := blk_frozen (HV.out) 1; have f2 := blk_frozen (HV.out) 2; have f3 := blk_frozen (HV.out) 3; have f4 := blk_frozen (HV.out) 4; have f5 := blk_frozen (HV.out) 5; have f6 := blk_frozen (HV.out) 6; have f7 := blk_frozen (HV.out) 7; have f8 := blk_frozen (HV.out) 8; obtain ⟨X46, hX⟩ : ∃ V, ((((((((v1.setCell ⟨q, 0, none⟩ (.int .u64 65536)).setCell ⟨q, 1, none⟩ (.int .i64 2)).setCell ⟨q, 2, none⟩ (.int .i64 1)).setCell ⟨q, 3, none⟩ (.int .i64 1)).setCell ⟨q, 4, none⟩ (.slice (some ⟨g1, 0, none⟩) 8192 8192)).setCell ⟨q, 5, none⟩ (.slice (some ⟨gp, 0, none⟩) 2 2)).setCell ⟨q, 6, none⟩ (.slice (some ⟨g6, 0, none⟩) 1 1)).setCell ⟨q, 7, none⟩ (.slice (some ⟨gh, 0, none⟩) 2 2)).setCell ⟨q, 8, none⟩ (.slice (some ⟨g8, 0, none⟩) 8 8) = V := ⟨_, rfl⟩)
  have HP := Lib.hid (show PutG v1 X46 q #[.int .u64 65536, .int .i64 2, .int .i64 1, .int .i64 1, .slice (some ⟨g1, 0, none⟩) 8192 8192, .slice (some ⟨gp, 0, none⟩) 2 2, .slice (some ⟨g6, 0, none⟩) 1 1, .slice (some ⟨gh, 0, none⟩) 2 2, .slice (some ⟨g8, 0, none⟩) 8 8] 31 from by rw [← hX]; exact set9 HV.out (.int .u64 65536) (.int .i64 2) (.int .i64 1) (.int .i64 1) (.slice (some ⟨g1, 0, none⟩) 8192 8192) (.slice (some ⟨gp, 0, none⟩) 2 2) (.slice (some ⟨g6, 0, none⟩) 1 1) (.slice (some ⟨gh, 0, none⟩) 2 2) (.slice (some ⟨g8, 0, none⟩) 8 8))
  clear hX c0 f0 c1 f1 c2 f2 c3 f3 c4 f4 c5 f5 c6 f6 c7 f7 c8 f8
  have HK := Lib.hid (HK.out.put_q HV.out HP.out.size HP.out.far)
  have HV := Lib.hid HP.out.at_
  have HB := Lib.hid (HP.out.below _ _ HQ.out HB.out)
  clear HP
  generalize X45.heap.size = n at *
  have HN := fun i => blk_cell (HV.out) i
  have c5 := HN 5
  clear HN
  simp at c5
  have HN := fun i => blk_cell HK.out.hp i
  have t3 := HN 3
  clear HN
  simp [Pg.cells, vPg0, vPg1, sPg0, sPg1] at t3
  have f3 := blk_frozen HK.out.hp 3
  obtain ⟨X47, hX⟩ : ∃ V, X46.setCell ⟨gp, 3, none⟩ (.int .i64 2) = V := ⟨_, rfl⟩
  go_upto_region 53 with (fail)
  clear c5 t3 f3
  have HP := Lib.hid (show PutG X46 X47 gp (({ sPg0 with lv := 2 } : Pg).cells ++ (sPg1 : Pg).cells).toArray 39 from by rw [← hX]; exact ((show PutG X46 X46 gp _ _ from ⟨HK.out.hp, fun _ _ => rfl, rfl, fun _ _ _ h => h⟩).set 3 (.int .i64 2) rfl))
  have HV := Lib.hid ((HP.out.far q (blk_ne HV.out HK.out.hp (by decide))).trans HV.out)
  have HB := Lib.hid (HP.out.below _ _ (Nat.le_trans HN0.out HK.out.np.1) HB.out)
  have HK := Lib.hid (HK.out.put_p (p' := { sPg0 with lv := 2 }) (q' := sPg1) HP.out)
  clear HP hX
  have HN := fun i => blk_cell (HV.out) i
  have c5 := HN 5
  clear HN
  simp at c5
  have HN := fun i => blk_cell HK.out.hp i
  have t7 := HN 7
  clear HN
  simp [Pg.cells, vPg0, vPg1, sPg0, sPg1] at t7
  have f7 := blk_frozen HK.out.hp 7
  obtain ⟨X48, hX⟩ : ∃ V, X47.setCell ⟨gp, 7, none⟩ (.int .u64 3) = V := ⟨_, rfl⟩
  go_upto_region 54 with (fail)
  clear c5 t7 f7
  have HP := Lib.hid (show PutG X47 X48 gp (({ sPg0 with lv := 2, b0 := 3 } : Pg).cells ++ (sPg1 : Pg).cells).toArray 39 from by rw [← hX]; exact ((show PutG X47 X47 gp _ _ from ⟨HK.out.hp, fun _ _ => rfl, rfl, fun _ _ _ h => h⟩).set 7 (.int .u64 3) rfl))
  have HV := Lib.hid ((HP.out.far q (blk_ne HV.out HK.out.hp (by decide))).trans HV.out)
  have HB := Lib.hid (HP.out.below _ _ (Nat.le_trans HN0.out HK.out.np.1) HB.out)
  have HK := Lib.hid (HK.out.put_p (p' := { sPg0 with lv := 2, b0 := 3 }) (q' := sPg1) HP.out)
  clear HP hX
  have HN := fun i => blk_cell (HV.out) i
  have c5 := HN 5
  clear HN
  simp at c5
  have HN := fun i => blk_cell HK.out.hp i
  have t6 := HN 6
  clear HN
  simp [Pg.cells, vPg0, vPg1, sPg0, sPg1] at t6
  have f6 := blk_frozen HK.out.hp 6
  obtain ⟨X49, hX⟩ : ∃ V, X48.setCell ⟨gp, 6, none⟩ (.int .i64 (-1)) = V := ⟨_, rfl⟩
  go_upto_region 55 with (fail)
  clear c5 t6 f6
  have HP := Lib.hid (show PutG X48 X49 gp (({ sPg0 with lv := 2, b0 := 3, fs := -1 } : Pg).cells ++ (sPg1 : Pg).cells).toArray 39 from by rw [← hX]; exact ((show PutG X48 X48 gp _ _ from ⟨HK.out.hp, fun _ _ => rfl, rfl, fun _ _ _ h => h⟩).set 6 (.int .i64 (-1)) rfl))
  have HV := Lib.hid ((HP.out.far q (blk_ne HV.out HK.out.hp (by decide))).trans HV.out)
  have HB := Lib.hid (HP.out.below _ _ (Nat.le_trans HN0.out HK.out.np.1) HB.out)
  have HK := Lib.hid (HK.out.put_p (p' := { sPg0 with lv := 2, b0 := 3, fs := -1 }) (q' := sPg1) HP.out)
  clear HP hX
  have HN := fun i => blk_cell (HV.out) i
  have c0 := HN 0
  have c1 := HN 1
  have c2 := HN 2
  have c3 := HN 3
  have c4 := HN 4
  have c5 := HN 5
  have c6 := HN 6
  have c7 := HN 7
  have c8 := HN 8
  clear HN
  simp at c0 c1 c2 c3 c4 c5 c6 c7 c8
  go_upto_region 57 with (go_at_call 13; refine (kn_is HK.out wf13 ck13).mono ?_; rintro e X50 ⟨rfl, hb⟩; have HV := Lib.hid ((hb.block q (blk_lt HV.out)).trans HV.out); have HB := Lib.hid (HB.out.trans (hb.mono HB.out.size)); have HK := Lib.hid (HK.out.step hb.size (fun b hbb => hb.block b hbb.2)); clear hb c0 c1 c2 c3 c4 c5 c6 c7 c8)
  have HN := fun i => blk_cell (HV.out) i
  have c8 := HN 8
  clear HN
  simp at c8
  obtain ⟨t0, f0⟩ := rowO_cell HK.out.h8 7 (by rw [HK.out.lt]; decide)
  obtain ⟨X51, hX⟩ : ∃ V, X50.setCell ⟨g8, 7, none⟩ (.int .i64 (-1)) = V := ⟨_, rfl⟩
  go_upto_region 58 with (fail)
  clear c8 t0 f0
  have HV := Lib.hid (show X51.heap[q]? = some (.cells #[.int .u64 65536, .int .i64 2, .int .i64 1, .int .i64 1, .slice (some ⟨g1, 0, none⟩) 8192 8192, .slice (some ⟨gp, 0, none⟩) 2 2, .slice (some ⟨g6, 0, none⟩) 1 1, .slice (some ⟨gh, 0, none⟩) 2 2, .slice (some ⟨g8, 0, none⟩) 8 8] 31 (0, 0)) from by rw [← hX, Below.heap_setCell _ _ _ _ (blk_ne HV.out HK.out.h8 (by decide))]; exact HV.out)
  have HB := Lib.hid (show Below w.heap.size w X51 from by rw [← hX]; exact HB.out.setCell (Nat.le_trans HN0.out HK.out.n8.1) _)
  have hk := HK.out.put_8 7 (-1)
  rw [hX] at hk
  have HK := Lib.hid hk
  clear hX hk
  have HN := fun i => blk_cell (HV.out) i
  have c0 := HN 0
  have c1 := HN 1
  have c2 := HN 2
  have c3 := HN 3
  have c4 := HN 4
  have c5 := HN 5
  have c6 := HN 6
  have c7 := HN 7
  have c8 := HN 8
  clear HN
  simp at c0 c1 c2 c3 c4 c5 c6 c7 c8
  go_upto_region 60 with (go_at_call 13; refine (kn_is HK.out wf14 ck14).mono ?_; rintro e X52 ⟨rfl, hb⟩; have HV := Lib.hid ((hb.block q (blk_lt HV.out)).trans HV.out); have HB := Lib.hid (HB.out.trans (hb.mono HB.out.size)); have HK := Lib.hid (HK.out.step hb.size (fun b hbb => hb.block b hbb.2)); clear hb c0 c1 c2 c3 c4 c5 c6 c7 c8)
  have HN := fun i => blk_cell (HV.out) i
  have c5 := HN 5
  clear HN
  simp at c5
  have HN := fun i => blk_cell HK.out.hp i
  have t4 := HN 4
  clear HN
  simp [Pg.cells, vPg0, vPg1, sPg0, sPg1] at t4
  have f4 := blk_frozen HK.out.hp 4
  obtain ⟨X53, hX⟩ : ∃ V, X52.setCell ⟨gp, 4, none⟩ (.int .i64 1) = V := ⟨_, rfl⟩
  go_upto_region 61 with (fail)
  clear c5 t4 f4
  have HP := Lib.hid (show PutG X52 X53 gp (({ sPg0 with lv := 2, b0 := 3, fs := -1, nx := 1 } : Pg).cells ++ (sPg1 : Pg).cells).toArray 39 from by rw [← hX]; exact ((show PutG X52 X52 gp _ _ from ⟨HK.out.hp, fun _ _ => rfl, rfl, fun _ _ _ h => h⟩).set 4 (.int .i64 1) rfl))
  have HV := Lib.hid ((HP.out.far q (blk_ne HV.out HK.out.hp (by decide))).trans HV.out)
  have HB := Lib.hid (HP.out.below _ _ (Nat.le_trans HN0.out HK.out.np.1) HB.out)
  have HK := Lib.hid (HK.out.put_p (p' := { sPg0 with lv := 2, b0 := 3, fs := -1, nx := 1 }) (q' := sPg1) HP.out)
  clear HP hX
  have HN := fun i => blk_cell (HV.out) i
  have c0 := HN 0
  have c1 := HN 1
  have c2 := HN 2
  have c3 := HN 3
  have c4 := HN 4
  have c5 := HN 5
  have c6 := HN 6
  have c7 := HN 7
  have c8 := HN 8
  clear HN
  simp at c0 c1 c2 c3 c4 c5 c6 c7 c8
  go_wp2_with (go_at_call 13; refine (kn_is HK.out wf15 ck15).mono ?_; rintro e X54 ⟨rfl, hb⟩; have HV := Lib.hid ((hb.block q (blk_lt HV.out)).trans HV.out); have HB := Lib.hid (HB.out.trans (hb.mono HB.out.size)); have HK := Lib.hid (HK.out.step hb.size (fun b hbb => hb.block b hbb.2)); clear hb c0 c1 c2 c3 c4 c5 c6 c7 c8)
  go_ret
  exact ⟨rfl, HB.out⟩
end Go.Proofs.Ytkgedpcipaogjaa.WB
