/- Part 12 of what the rows of this seat rest on: words of the print that they need; how images, spaces, sets lie in memory; the functions walked. -/
import Derived.Test.YtkgedpcipaogjaaZ11
section
namespace Go.Proofs.Ytkgedpcipaogjaa.WB
open Go Go.RowKit Go.Proofs.YtkgedpcipaogjaaW.PrintWords Go.Proofs.YtkgedpcipaogjaaW.PrintLast Go.Proofs.YtkgedpcipaogjaaW.PrintMore
set_option linter.unusedVariables false
set_option linter.unusedSimpArgs false
def AwakeOk : Prop := ∀ w : World, Calls Try.prog 11 #[] w fun e w' => e = .returned (.bool true) ∧ Below w.heap.size w w'
section
variable {F : Nat → Prop} {im : Im} {s : Sl} {w : World}
theorem is_t (h : ImAt F w im s) (hF : ∀ b, F b → b < w.heap.size) {r p : Int} (hr : im.check = (r, p)) : Calls Try.prog 13 #[.agg (im.cells s), .int .i64 r, .int .i64 p] w (DocP w (.bool true)) := by
  have := is_d h hF r p
  rw [hr] at this
  simpa using this
set_option maxRecDepth 100000 in
set_option maxHeartbeats 4000000 in
theorem checks_core (haw : AwakeOk) (h : ImAt F w im s) (hF : ∀ b, F b → b < w.heap.size) : Calls Try.prog 4 #[.agg (im.cells s)] w (DocP w (.bool true)) := by
  obtain ⟨A, a, B, b, C, c, D, d, E, e⟩ := s
  obtain ⟨WA, hWA⟩ : ∃ W, w.alloc (imO im ⟨A, a, B, b, C, c, D, d, E, e⟩) = W := ⟨_, rfl⟩
  obtain ⟨hsa, hbl, hvl⟩ := box_facts h hF hWA
  have HBL := Lib.hid hbl
  have HVL := Lib.hid hvl
  have HFA := Lib.hid (show ∀ b, F b → b < WA.heap.size from fun b hb => by have := hF b hb; omega)
  have HWF := Lib.hid h.wf
  have hl := len_i64 h.wf
  obtain ⟨c0, c1, c2, c3, c4, c5, c6, c7, c8⟩ := (hvl WA (Below.refl _ _)).cell
  dsimp only at c0 c1 c2 c3 c4 c5 c6 c7 c8
  unfold imO Im.cells at hWA
  unfold Im.cells
  clear h hF hvl hbl
  have HAW := Lib.hid haw
  have HCK := Lib.hid (fun (wx : World) (hx : Below WA.heap.size WA wx) => docCheck (HVL.out wx hx).im (fun b hb => Nat.lt_of_lt_of_le (HFA.out b hb) hx.size))
  obtain ⟨⟨a1, a2⟩, ha⟩ : ∃ b, im.check = b := ⟨_, rfl⟩
  have HIS := Lib.hid (fun (wx : World) (hx : Below WA.heap.size WA wx) => is_t (HVL.out wx hx).im (fun b hb => Nat.lt_of_lt_of_le (HFA.out b hb) hx.size) ha)
  rw [ha] at HCK
  unfold Im.cells at HCK HIS
  dsimp only at HCK HIS
  clear haw ha
  go_enter Try.func4, Try.ntmps4
  go_wp2_with (first | (go_at_call 11; refine (HAW.out _).mono ?_; rintro e w4 ⟨rfl, hb4⟩; have HB4 := Lib.hid hb4; obtain ⟨d0, d1, d2, d3, d4, d5, d6, d7, d8⟩ := (HVL.out w4 hb4).cell; dsimp only at d0 d1 d2 d3 d4 d5 d6 d7 d8; clear hb4 c0 c1 c2 c3 c4 c5 c6 c7 c8) | (go_at_call 16; refine (HCK.out w4 HB4.out).mono ?_; rintro e w5 ⟨rfl, hb5⟩; have hb6 : Below WA.heap.size WA w5 := HB4.out.trans (hb5.mono HB4.out.size); have HB6 := Lib.hid hb6; obtain ⟨e0, e1, e2, e3, e4, e5, e6, e7, e8⟩ := (HVL.out w5 hb6).cell; dsimp only at e0 e1 e2 e3 e4 e5 e6 e7 e8; clear hb5 hb6 d0 d1 d2 d3 d4 d5 d6 d7 d8) | (go_at_call 13; refine (HIS.out w5 HB6.out).mono ?_; rintro e w7 ⟨rfl, hb7⟩; have HB7 := Lib.hid hb7; clear hb7))
  go_ret
  exact ⟨rfl, HBL.out _ (HB6.out.trans (HB7.out.mono HB6.out.size))⟩
end
end Go.Proofs.Ytkgedpcipaogjaa.WB
end
section
namespace Go.Proofs.Ytkgedpcipaogjaa.WB
open Go Go.RowKit Go.Proofs.YtkgedpcipaogjaaW.PrintWords Go.Proofs.YtkgedpcipaogjaaW.PrintLast Go.Proofs.YtkgedpcipaogjaaW.PrintMore Go.Proofs.Ytkgedpcipaogjaa.PWalkChecks Go.Proofs.Ytkgedpcipaogjaa.Mem
set_option linter.unusedVariables false
set_option linter.unusedSimpArgs false
def sPg0 : Pg := { kd := 4, od := 0, cl := 7, lv := 1, nx := -1, pv := -1, fs := 0, b0 := 2, b1 := 0, b2 := 0, b3 := 0 }
def sPg1 : Pg := { kd := 2, od := 0, cl := 0, lv := 0, nx := -1, pv := -1, fs := -1, b0 := 0, b1 := 0, b2 := 0, b3 := 0 }
def slabIm : Im := { base := 65536, limit := 2, order := 1, regions := 1, mem := vMem, pages := [sPg0, sPg1], pairs := [[0]], heads := [0, 0], parts := [-1, -1, -1, -1, -1, -1, -1, 0] }
def nomemIm : Im := { voidIm with mem := [] }
theorem void_ok : voidIm.check = (0, 0) := by kernel_rfl
theorem nomem_bad : nomemIm.check = (2, 1) := by kernel_rfl
theorem slab_ok : slabIm.check = (0, 0) := by kernel_rfl
theorem slab_two : slabIm.blocks = [(67584, 2048), (69632, 4096)] := by kernel_rfl
theorem slabIm_wf : slabIm.Wf := by
  refine ⟨by unfold U64; decide, by unfold I64; decide, by unfold I64; decide, by unfold I64; decide, voidIm_wf.mem, fun p hp => ?_, voidIm_wf.pairs, fun x hx => ?_, fun x hx => ?_, voidIm_wf.lmem, by decide, by decide, voidIm_wf.lrows, by decide, by decide⟩
  · change p ∈ [sPg0, sPg1] at hp
    simp at hp
    rcases hp with rfl | rfl <;> exact ⟨by unfold I64; decide, by unfold I64; decide, by unfold I64; decide, by unfold I64; decide, by unfold I64; decide, by unfold I64; decide, by unfold I64; decide, by unfold U64; decide, by unfold U64; decide, by unfold U64; decide, by unfold U64; decide⟩
  · change x ∈ [(0 : Int), 0] at hx
    simp at hx
    subst hx
    unfold U64; decide
  · change x ∈ [(-1 : Int), -1, -1, -1, -1, -1, -1, 0] at hx
    simp at hx
    rcases hx with rfl | rfl <;> (unfold I64; decide)
theorem nomem_wf : nomemIm.Wf := ⟨voidIm_wf.base, voidIm_wf.limit, voidIm_wf.order, voidIm_wf.regions, fun x hx => (by cases hx), voidIm_wf.pages, voidIm_wf.pairs, voidIm_wf.heads, voidIm_wf.parts, by decide, voidIm_wf.lpages, voidIm_wf.lpairs, voidIm_wf.lrows, voidIm_wf.lheads, voidIm_wf.lparts⟩
theorem void_cells (s : Sl) : voidIm.cells s = #[.int .u64 65536, .int .i64 2, .int .i64 1, .int .i64 1, .slice s.A 8192 s.a, .slice s.B 2 s.b, .slice s.C 1 s.c, .slice s.D 2 s.d, .slice s.E 8 s.e] := by
  unfold Im.cells
  rw [show voidIm.mem.length = 8192 from vMem_len]
  rfl
theorem slab_cells (s : Sl) : slabIm.cells s = #[.int .u64 65536, .int .i64 2, .int .i64 1, .int .i64 1, .slice s.A 8192 s.a, .slice s.B 2 s.b, .slice s.C 1 s.c, .slice s.D 2 s.d, .slice s.E 8 s.e] := by
  unfold Im.cells
  rw [show slabIm.mem.length = 8192 from vMem_len]
  rfl
set_option maxRecDepth 100000 in
set_option maxHeartbeats 1000000 in
theorem slabbed_c (w : World) : Calls Try.prog 15 #[] w fun e w' => ∃ s : Sl, e = .returned (.agg (slabIm.cells s)) ∧ ImAt (Nw w.heap.size w') w' slabIm s ∧ Below w.heap.size w w' := by
  have HVO := Lib.hid (fun wx => (void_c wx))
  go_enter Try.func15, Try.ntmps15
  go_upto_region 3 with (go_at_call 10; refine (HVO.out _).mono ?_; rintro e w1 ⟨s, rfl, him, hb, g1, g5, g6, g8, hg⟩; rw [void_cells, hg.eA, hg.eC, hg.eE, hg.a, hg.c, hg.e]; have HG := Lib.hid hg; have HB := Lib.hid hb; have HIM := Lib.hid him; clear hg hb him)
  have hq1 : g8 < w1.heap.size := HG.out.n8.2
  obtain ⟨q, hq⟩ : ∃ q, w1.heap.size = q := ⟨_, rfl⟩
  rw [hq] at hq1
  obtain ⟨W2, hW2⟩ : ∃ W, (w1.alloc (.cells #[.int .u64 65536, .int .i64 2, .int .i64 1, .int .i64 1, .slice (some ⟨g1, 0, none⟩) 8192 8192, .slice s.B 2 s.b, .slice (some ⟨g6, 0, none⟩) 1 1, .slice s.D 2 s.d, .slice (some ⟨g8, 0, none⟩) 8 8] 31)).alloc (.cells #[.int .i64 4, .int .i64 0, .int .i64 7, .int .i64 1, .int .i64 (-1), .int .i64 (-1), .int .i64 0, .int .u64 0, .int .u64 0, .int .u64 0, .int .u64 0] 39) = W := ⟨_, rfl⟩
  have v2 : W2.heap[q]? = some (.cells #[.int .u64 65536, .int .i64 2, .int .i64 1, .int .i64 1, .slice (some ⟨g1, 0, none⟩) 8192 8192, .slice s.B 2 s.b, .slice (some ⟨g6, 0, none⟩) 1 1, .slice s.D 2 s.d, .slice (some ⟨g8, 0, none⟩) 8 8] 31 (0, 0)) := by rw [← hW2, ← hq]; exact blk_alloc (blk_new _ _) _
  have p2 : W2.heap[q + 1]? = some (.cells #[.int .i64 4, .int .i64 0, .int .i64 7, .int .i64 1, .int .i64 (-1), .int .i64 (-1), .int .i64 0, .int .u64 0, .int .u64 0, .int .u64 0, .int .u64 0] 39 (0, 0)) := by
    have := blk_new (w1.alloc (.cells #[.int .u64 65536, .int .i64 2, .int .i64 1, .int .i64 1, .slice (some ⟨g1, 0, none⟩) 8192 8192, .slice s.B 2 s.b, .slice (some ⟨g6, 0, none⟩) 1 1, .slice s.D 2 s.d, .slice (some ⟨g8, 0, none⟩) 8 8] 31)) (.cells #[.int .i64 4, .int .i64 0, .int .i64 7, .int .i64 1, .int .i64 (-1), .int .i64 (-1), .int .i64 0, .int .u64 0, .int .u64 0, .int .u64 0, .int .u64 0] 39 (0, 0))
    simp only [World.size_alloc] at this
    rw [← hW2, ← hq]; exact this
  have s2 : W2.heap.size = q + 2 := by rw [← hW2]; simp; omega
  have k2 : ∀ b, b < q → W2.heap[b]? = w1.heap[b]? := fun b hb => by rw [← hW2, Below.heap_alloc _ _ _ (by simp; omega), Below.heap_alloc _ _ _ (by omega)]
  have b2 : Below w1.heap.size w1 W2 := by rw [← hW2]; exact ((Below.refl _ _).alloc (Nat.le_refl _) _).alloc (by simp) _
  obtain ⟨W3, hW3⟩ : ∃ W, W2.setCell ⟨q + 1, 7, none⟩ (.int .u64 2) = W := ⟨_, rfl⟩
  have v3 : W3.heap[q]? = some (.cells #[.int .u64 65536, .int .i64 2, .int .i64 1, .int .i64 1, .slice (some ⟨g1, 0, none⟩) 8192 8192, .slice s.B 2 s.b, .slice (some ⟨g6, 0, none⟩) 1 1, .slice s.D 2 s.d, .slice (some ⟨g8, 0, none⟩) 8 8] 31 (0, 0)) := by rw [← hW3, Below.heap_setCell _ _ _ _ (show q ≠ q + 1 by omega)]; exact v2
  have p3 : W3.heap[q + 1]? = some (.cells #[.int .i64 4, .int .i64 0, .int .i64 7, .int .i64 1, .int .i64 (-1), .int .i64 (-1), .int .i64 0, .int .u64 2, .int .u64 0, .int .u64 0, .int .u64 0] 39 (0, 0)) := by rw [← hW3]; exact blk_put p2 7 _ rfl
  have s3 : W3.heap.size = q + 2 := by rw [← hW3, ← s2]; simp [World.setCell]
  have k3 : ∀ b, b < q → W3.heap[b]? = w1.heap[b]? := fun b hb => by rw [← hW3, Below.heap_setCell _ _ _ _ (show b ≠ q + 1 by omega)]; exact k2 b hb
  have b3 : Below w1.heap.size w1 W3 := by rw [← hW3]; exact b2.setCell (by show w1.heap.size ≤ q + 1; omega) _
  obtain ⟨W4, hW4⟩ : ∃ W, W3.alloc (.cells #[.int .i64 4, .int .i64 0, .int .i64 7, .int .i64 1, .int .i64 (-1), .int .i64 (-1), .int .i64 0, .int .u64 2, .int .u64 0, .int .u64 0, .int .u64 0, .int .i64 2, .int .i64 0, .int .i64 0, .int .i64 0, .int .i64 (-1), .int .i64 (-1), .int .i64 (-1), .int .u64 0, .int .u64 0, .int .u64 0, .int .u64 0] 39) = W := ⟨_, rfl⟩
  have v4 : W4.heap[q]? = some (.cells #[.int .u64 65536, .int .i64 2, .int .i64 1, .int .i64 1, .slice (some ⟨g1, 0, none⟩) 8192 8192, .slice s.B 2 s.b, .slice (some ⟨g6, 0, none⟩) 1 1, .slice s.D 2 s.d, .slice (some ⟨g8, 0, none⟩) 8 8] 31 (0, 0)) := by rw [← hW4]; exact blk_alloc v3 _
  have l4 : W4.heap[W3.heap.size]? = some (.cells #[.int .i64 4, .int .i64 0, .int .i64 7, .int .i64 1, .int .i64 (-1), .int .i64 (-1), .int .i64 0, .int .u64 2, .int .u64 0, .int .u64 0, .int .u64 0, .int .i64 2, .int .i64 0, .int .i64 0, .int .i64 0, .int .i64 (-1), .int .i64 (-1), .int .i64 (-1), .int .u64 0, .int .u64 0, .int .u64 0, .int .u64 0] 39 (0, 0)) := by rw [← hW4]; exact blk_new _ _
  have s4 : W4.heap.size = q + 3 := by rw [← hW4]; simp [s3]
  have k4 : ∀ b, b < q → W4.heap[b]? = w1.heap[b]? := fun b hb => by rw [← hW4, Below.heap_alloc _ _ _ (by omega)]; exact k3 b hb
  have b4 : Below w1.heap.size w1 W4 := by rw [← hW4]; exact b3.alloc b3.size _
  obtain ⟨W5, hW5⟩ : ∃ W, W4.setCell ⟨q, 5, none⟩ (.slice (some ⟨W3.heap.size, 0, none⟩) 2 2) = W := ⟨_, rfl⟩
  have v5 : W5.heap[q]? = some (.cells #[.int .u64 65536, .int .i64 2, .int .i64 1, .int .i64 1, .slice (some ⟨g1, 0, none⟩) 8192 8192, .slice (some ⟨W3.heap.size, 0, none⟩) 2 2, .slice (some ⟨g6, 0, none⟩) 1 1, .slice s.D 2 s.d, .slice (some ⟨g8, 0, none⟩) 8 8] 31 (0, 0)) := by rw [← hW5]; exact blk_put v4 5 _ rfl
  have l5 : W5.heap[W3.heap.size]? = some (.cells #[.int .i64 4, .int .i64 0, .int .i64 7, .int .i64 1, .int .i64 (-1), .int .i64 (-1), .int .i64 0, .int .u64 2, .int .u64 0, .int .u64 0, .int .u64 0, .int .i64 2, .int .i64 0, .int .i64 0, .int .i64 0, .int .i64 (-1), .int .i64 (-1), .int .i64 (-1), .int .u64 0, .int .u64 0, .int .u64 0, .int .u64 0] 39 (0, 0)) := by rw [← hW5, Below.heap_setCell _ _ _ _ (show W3.heap.size ≠ q by omega)]; exact l4
  have s5 : W5.heap.size = q + 3 := by rw [← hW5, ← s4]; simp [World.setCell]
  have k5 : ∀ b, b < q → W5.heap[b]? = w1.heap[b]? := fun b hb => by rw [← hW5, Below.heap_setCell _ _ _ _ (show b ≠ q by omega)]; exact k4 b hb
  have b5 : Below w1.heap.size w1 W5 := by rw [← hW5]; exact b4.setCell (by show w1.heap.size ≤ q; omega) _
  obtain ⟨W6, hW6⟩ : ∃ W, W5.alloc (.cells #[.int .u64 0, .int .u64 0] 22) = W := ⟨_, rfl⟩
  have v6 : W6.heap[q]? = some (.cells #[.int .u64 65536, .int .i64 2, .int .i64 1, .int .i64 1, .slice (some ⟨g1, 0, none⟩) 8192 8192, .slice (some ⟨W3.heap.size, 0, none⟩) 2 2, .slice (some ⟨g6, 0, none⟩) 1 1, .slice s.D 2 s.d, .slice (some ⟨g8, 0, none⟩) 8 8] 31 (0, 0)) := by rw [← hW6]; exact blk_alloc v5 _
  have l6 : W6.heap[W3.heap.size]? = some (.cells #[.int .i64 4, .int .i64 0, .int .i64 7, .int .i64 1, .int .i64 (-1), .int .i64 (-1), .int .i64 0, .int .u64 2, .int .u64 0, .int .u64 0, .int .u64 0, .int .i64 2, .int .i64 0, .int .i64 0, .int .i64 0, .int .i64 (-1), .int .i64 (-1), .int .i64 (-1), .int .u64 0, .int .u64 0, .int .u64 0, .int .u64 0] 39 (0, 0)) := by rw [← hW6]; exact blk_alloc l5 _
  have m6 : W6.heap[W5.heap.size]? = some (.cells #[.int .u64 0, .int .u64 0] 22 (0, 0)) := by rw [← hW6]; exact blk_new _ _
  have s6 : W6.heap.size = q + 4 := by rw [← hW6]; simp [s5]
  have k6 : ∀ b, b < q → W6.heap[b]? = w1.heap[b]? := fun b hb => by rw [← hW6, Below.heap_alloc _ _ _ (by omega)]; exact k5 b hb
  have b6 : Below w1.heap.size w1 W6 := by rw [← hW6]; exact b5.alloc b5.size _
  obtain ⟨W7, hW7⟩ : ∃ W, W6.setCell ⟨q, 7, none⟩ (.slice (some ⟨W5.heap.size, 0, none⟩) 2 2) = W := ⟨_, rfl⟩
  have v7 : W7.heap[q]? = some (.cells #[.int .u64 65536, .int .i64 2, .int .i64 1, .int .i64 1, .slice (some ⟨g1, 0, none⟩) 8192 8192, .slice (some ⟨W3.heap.size, 0, none⟩) 2 2, .slice (some ⟨g6, 0, none⟩) 1 1, .slice (some ⟨W5.heap.size, 0, none⟩) 2 2, .slice (some ⟨g8, 0, none⟩) 8 8] 31 (0, 0)) := by rw [← hW7]; exact blk_put v6 7 _ rfl
  have l7 : W7.heap[W3.heap.size]? = some (.cells #[.int .i64 4, .int .i64 0, .int .i64 7, .int .i64 1, .int .i64 (-1), .int .i64 (-1), .int .i64 0, .int .u64 2, .int .u64 0, .int .u64 0, .int .u64 0, .int .i64 2, .int .i64 0, .int .i64 0, .int .i64 0, .int .i64 (-1), .int .i64 (-1), .int .i64 (-1), .int .u64 0, .int .u64 0, .int .u64 0, .int .u64 0] 39 (0, 0)) := by rw [← hW7, Below.heap_setCell _ _ _ _ (show W3.heap.size ≠ q by omega)]; exact l6
  have m7 : W7.heap[W5.heap.size]? = some (.cells #[.int .u64 0, .int .u64 0] 22 (0, 0)) := by rw [← hW7, Below.heap_setCell _ _ _ _ (show W5.heap.size ≠ q by omega)]; exact m6
  have s7 : W7.heap.size = q + 4 := by rw [← hW7, ← s6]; simp [World.setCell]
  have k7 : ∀ b, b < q → W7.heap[b]? = w1.heap[b]? := fun b hb => by rw [← hW7, Below.heap_setCell _ _ _ _ (show b ≠ q by omega)]; exact k6 b hb
  have b7 : Below w1.heap.size w1 W7 := by rw [← hW7]; exact b6.setCell (by show w1.heap.size ≤ q; omega) _
  have e7 : W7.heap[g8]? = some (.cells #[.int .i64 (-1), .int .i64 (-1), .int .i64 (-1), .int .i64 (-1), .int .i64 (-1), .int .i64 (-1), .int .i64 (-1), .int .i64 (-1)] 3 (0, 0)) := (k7 g8 hq1).trans HG.out.h8
  obtain ⟨W8, hW8⟩ : ∃ W, W7.setCell ⟨g8, 7, none⟩ (.int .i64 0) = W := ⟨_, rfl⟩
  have v8 : W8.heap[q]? = some (.cells #[.int .u64 65536, .int .i64 2, .int .i64 1, .int .i64 1, .slice (some ⟨g1, 0, none⟩) 8192 8192, .slice (some ⟨W3.heap.size, 0, none⟩) 2 2, .slice (some ⟨g6, 0, none⟩) 1 1, .slice (some ⟨W5.heap.size, 0, none⟩) 2 2, .slice (some ⟨g8, 0, none⟩) 8 8] 31 (0, 0)) := by rw [← hW8, Below.heap_setCell _ _ _ _ (show q ≠ g8 by omega)]; exact v7
  have l8 : W8.heap[W3.heap.size]? = some (.cells #[.int .i64 4, .int .i64 0, .int .i64 7, .int .i64 1, .int .i64 (-1), .int .i64 (-1), .int .i64 0, .int .u64 2, .int .u64 0, .int .u64 0, .int .u64 0, .int .i64 2, .int .i64 0, .int .i64 0, .int .i64 0, .int .i64 (-1), .int .i64 (-1), .int .i64 (-1), .int .u64 0, .int .u64 0, .int .u64 0, .int .u64 0] 39 (0, 0)) := by rw [← hW8, Below.heap_setCell _ _ _ _ (show W3.heap.size ≠ g8 by omega)]; exact l7
  have m8 : W8.heap[W5.heap.size]? = some (.cells #[.int .u64 0, .int .u64 0] 22 (0, 0)) := by rw [← hW8, Below.heap_setCell _ _ _ _ (show W5.heap.size ≠ g8 by omega)]; exact m7
  have e8 : W8.heap[g8]? = some (.cells #[.int .i64 (-1), .int .i64 (-1), .int .i64 (-1), .int .i64 (-1), .int .i64 (-1), .int .i64 (-1), .int .i64 (-1), .int .i64 0] 3 (0, 0)) := by rw [← hW8]; exact blk_put e7 7 _ rfl
  have s8 : W8.heap.size = q + 4 := by rw [← hW8, ← s7]; simp [World.setCell]
  have k8 : ∀ b, b < q → b ≠ g8 → W8.heap[b]? = w1.heap[b]? := fun b hb hne => by rw [← hW8, Below.heap_setCell _ _ _ _ hne]; exact k7 b hb
  have b8 : Below w.heap.size w1 W8 := by
    rw [← hW8]
    exact (b7.mono (by have := HB.out.size; simp at this; omega)).setCell (by show w.heap.size ≤ g8; have := HG.out.n8.1; simp at this; omega) _
  have HH := Lib.hid (And.intro v8 (And.intro l8 (And.intro m8 (And.intro e8 (And.intro s8 (And.intro k8 (And.intro b8 (And.intro s3 (And.intro s5 hq1)))))))))
  have V7 := Lib.hid v7
  have V6 := Lib.hid v6
  have V4 := Lib.hid v4
  have P3 := Lib.hid p3
  have E7 := Lib.hid e7
  have c2 := blk_cell p2 7
  have f2 := blk_frozen p2 7
  clear v2 p2 s2 k2 b2 v3 p3 s3 k3 b3 v4 l4 s4 k4 b4 v5 l5 s5 k5 b5 v6 l6 m6 s6 k6 b6 v7 l7 m7 s7 k7 b7 e7 v8 l8 m8 e8 s8 k8 b8
  go_upto_region 4 with (fail)
  clear c2 f2 hW2
  have p0 := blk_cell P3.out 0
  have p1 := blk_cell P3.out 1
  have p2 := blk_cell P3.out 2
  have p3 := blk_cell P3.out 3
  have p4 := blk_cell P3.out 4
  have p5 := blk_cell P3.out 5
  have p6 := blk_cell P3.out 6
  have p7 := blk_cell P3.out 7
  have p8 := blk_cell P3.out 8
  have p9 := blk_cell P3.out 9
  have p10 := blk_cell P3.out 10
  have c4 := blk_cell V4.out 5
  have f4 := blk_frozen V4.out 5
  go_upto_region 5 with (fail)
  clear p0 p1 p2 p3 p4 p5 p6 p7 p8 p9 p10 c4 f4 hW3 hW4
  have c6 := blk_cell V6.out 7
  have f6 := blk_frozen V6.out 7
  go_upto_region 6 with (fail)
  clear c6 f6 hW5 hW6
  have c7 := blk_cell V7.out 8
  have d7 := blk_cell E7.out 7
  have f7 := blk_frozen E7.out 7
  go_upto_region 7 with (fail)
  clear c7 d7 f7 hW7
  have HR := Lib.hid (show W8.heap[w.heap.size]? = some (.cells #[.int .u64 0, .int .i64 0, .int .i64 0, .int .i64 0, .slice none 0 0, .slice none 0 0, .slice none 0 0, .slice none 0 0, .slice none 0 0] 31 (0, 0)) from by
    obtain ⟨-, -, -, -, -, k8, -, -, -, hq1⟩ := HH.out
    have h1 : w1.heap[w.heap.size]? = some (.cells #[.int .u64 0, .int .i64 0, .int .i64 0, .int .i64 0, .slice none 0 0, .slice none 0 0, .slice none 0 0, .slice none 0 0, .slice none 0 0] 31 (0, 0)) := (HB.out.block w.heap.size (by simp)).trans (blk_new w _)
    have h2 := HG.out.n8.1
    simp at h2
    have h3 := blk_lt h1
    exact (k8 _ (by omega) (by omega)).trans h1)
  have v8 := HH.out.1
  have c0 := blk_cell v8 0
  have c1 := blk_cell v8 1
  have c2 := blk_cell v8 2
  have c3 := blk_cell v8 3
  have c4 := blk_cell v8 4
  have c5 := blk_cell v8 5
  have c6 := blk_cell v8 6
  have c7 := blk_cell v8 7
  have c8 := blk_cell v8 8
  have z0 := blk_cell HR.out 0
  have z1 := blk_cell HR.out 1
  have z2 := blk_cell HR.out 2
  have z3 := blk_cell HR.out 3
  have z4 := blk_cell HR.out 4
  have z5 := blk_cell HR.out 5
  have z6 := blk_cell HR.out 6
  have z7 := blk_cell HR.out 7
  have z8 := blk_cell HR.out 8
  have f0 := blk_frozen HR.out 0
  have f1 := blk_frozen HR.out 1
  have f2 := blk_frozen HR.out 2
  have f3 := blk_frozen HR.out 3
  have f4 := blk_frozen HR.out 4
  have f5 := blk_frozen HR.out 5
  have f6 := blk_frozen HR.out 6
  have f7 := blk_frozen HR.out 7
  have f8 := blk_frozen HR.out 8
  clear v8
  go_wp2
  obtain ⟨j1, j2, j3, j4⟩ := set9 HR.out (.int .u64 65536) (.int .i64 2) (.int .i64 1) (.int .i64 1) (.slice (some ⟨g1, 0, none⟩) 8192 8192) (.slice (some ⟨W3.heap.size, 0, none⟩) 2 2) (.slice (some ⟨g6, 0, none⟩) 1 1) (.slice (some ⟨W5.heap.size, 0, none⟩) 2 2) (.slice (some ⟨g8, 0, none⟩) 8 8)
  obtain ⟨-, l8, m8, e8, s8, k8, b8, s3, s5, hq1⟩ := HH.out
  have J2 := Lib.hid j2
  have J3 := Lib.hid j3
  have J4 := Lib.hid j4
  have L8 := Lib.hid l8
  have M8 := Lib.hid m8
  have E8 := Lib.hid e8
  have S8 := Lib.hid s8
  have K8 := Lib.hid k8
  have B8 := Lib.hid b8
  have S3 := Lib.hid s3
  have S5 := Lib.hid s5
  clear j2 j3 j4 l8 m8 e8 s8 k8 b8 s3 s5
  have y0 := blk_cell j1 0
  have y1 := blk_cell j1 1
  have y2 := blk_cell j1 2
  have y3 := blk_cell j1 3
  have y4 := blk_cell j1 4
  have y5 := blk_cell j1 5
  have y6 := blk_cell j1 6
  have y7 := blk_cell j1 7
  have y8 := blk_cell j1 8
  clear j1
  refine bodyPost_ret (v := .agg (slabIm.cells ⟨some ⟨g1, 0, none⟩, 8192, some ⟨W3.heap.size, 0, none⟩, 2, some ⟨g6, 0, none⟩, 1, some ⟨W5.heap.size, 0, none⟩, 2, some ⟨g8, 0, none⟩, 8⟩)) (by rw [slab_cells]; simp [results, Try.results15, go_sem, y0, y1, y2, y3, y4, y5, y6, y7, y8]) rfl ?_
  have hb1 := HG.out.n1
  have hb5 := HG.out.n5
  have hb6 := HG.out.n6
  have hb8 := HG.out.n8
  have hz : (w.alloc (.cells #[.int .u64 0, .int .i64 0, .int .i64 0, .int .i64 0, .slice none 0 0, .slice none 0 0, .slice none 0 0, .slice none 0 0, .slice none 0 0] 31 (0, 0))).heap.size = w.heap.size + 1 := by simp
  unfold Nw at hb1 hb5 hb6 hb8
  rw [hz] at hb1 hb5 hb6 hb8
  have ne1 : g1 ≠ g8 := blk_ne HG.out.h1 HG.out.h8 (by decide)
  have ne5 : g5 ≠ g8 := blk_ne HG.out.h5 HG.out.h8 (by decide)
  have ne6 : g6 ≠ g8 := blk_ne HG.out.h6 HG.out.h8 (by decide)
  have s3 := S3.out
  have s5 := S5.out
  have s8 := S8.out
  have hq := hq
  refine ⟨_, rfl, ⟨rowI_zero (n := 8192) ((J2.out g1 (by omega)).trans ((K8.out g1 (by omega) ne1).trans HG.out.h1)) ⟨by omega, by rw [J3.out]; omega⟩, rowP_at (p := sPg0) (q := sPg1) ((J2.out _ (by omega)).trans L8.out) rfl ⟨by omega, by rw [J3.out]; omega⟩,
    rowR_at (l := [0]) (c := 1) (t := 28) ((J2.out g6 (by omega)).trans ((K8.out g6 (by omega) ne6).trans HG.out.h6)) (by decide) ⟨by omega, by rw [J3.out]; omega⟩ (rowI_at (xs := [0]) ((J2.out g5 (by omega)).trans ((K8.out g5 (by omega) ne5).trans HG.out.h5)) rfl ⟨by omega, by rw [J3.out]; omega⟩),
    rowI_at (xs := [0, 0]) ((J2.out _ (by omega)).trans M8.out) rfl ⟨by omega, by rw [J3.out]; omega⟩, rowI_at (xs := [-1, -1, -1, -1, -1, -1, -1, 0]) ((J2.out g8 (by omega)).trans E8.out) rfl ⟨by omega, by rw [J3.out]; omega⟩, ?_, Nat.le_refl _, Nat.le_refl _, Nat.le_refl _, Nat.le_refl _, slabIm_wf⟩, ?_⟩
  · show vMem.length ≤ 8192
    rw [vMem_len]; exact Nat.le_refl _
  · exact J4.out _ _ (Nat.le_refl _) ((((Below.refl _ w).alloc (Nat.le_refl _) _).trans (HB.out.mono (by simp))).trans B8.out)
end Go.Proofs.Ytkgedpcipaogjaa.WB
end
section
namespace Go.Proofs.Ytkgedpcipaogjaa.WB
open Go Go.RowKit Go.Proofs.YtkgedpcipaogjaaW.PrintWords Go.Proofs.YtkgedpcipaogjaaW.PrintLast Go.Proofs.YtkgedpcipaogjaaW.PrintMore Go.Proofs.Ytkgedpcipaogjaa.PWalkChecks Go.Proofs.Ytkgedpcipaogjaa.Mem
set_option linter.unusedVariables false
set_option linter.unusedSimpArgs false
theorem void_cfg : ∃ sz, CfgOk 65536 2 1 sz := by
  obtain ⟨k, sz, hk, h⟩ := cfgOk_of (b := 65536) (l := 2) (o := 1) (by decide) (by unfold U64; decide)
  obtain rfl : k = 1 := by omega
  exact ⟨sz, h⟩
theorem void_geo : Geo voidIm 1 1 := by
  obtain ⟨o, r, h⟩ := geo_of voidIm_wf (by kernel_rfl) (by kernel_rfl)
  have h1 := h.order
  have h2 := h.regions
  change (1 : Int) = (o : Int) at h1
  change (1 : Int) = (r : Int) at h2
  obtain rfl : o = 1 := by omega
  obtain rfl : r = 1 := by omega
  exact h
theorem void_rng : ∀ i, i < voidIm.n → Rng voidIm.order ((voidIm.n : Int) - 1) (voidIm.pg i) := rng_of (by kernel_rfl)
theorem open_void {w : World} {s : Sl} (h : ImAt (Nw 0 w) w voidIm s) : Calls Try.prog 25 #[.agg (voidIm.cells s)] w (Made w) := by
  obtain ⟨sz, hc⟩ := void_cfg
  exact mallocOpen_w h void_geo (fun k hk => hk.2) hc (by decide) void_rng
theorem nomem_cells (s : Sl) : nomemIm.cells { s with A := none, a := 0 } = #[.int .u64 65536, .int .i64 2, .int .i64 1, .int .i64 1, .slice none 0 0, .slice s.B 2 s.b, .slice s.C 1 s.c, .slice s.D 2 s.d, .slice s.E 8 s.e] := rfl
theorem nomem_at {F : Nat → Prop} {w : World} {s : Sl} (h : ImAt F w voidIm s) : ImAt F w nomemIm { s with A := none, a := 0 } :=
  ⟨fun h0 => absurd h0 (by decide), h.pages, h.pairs, h.heads, h.parts, Nat.le_refl _, h.cpages, h.cpairs, h.cheads, h.cparts, nomem_wf⟩
theorem nw0 {n : Nat} {w : World} {im : Im} {s : Sl} (h : ImAt (Nw n w) w im s) : ImAt (Nw 0 w) w im s := h.mono (fun b hb => ⟨Nat.zero_le _, hb.2⟩)
theorem is_true {F : Nat → Prop} {im : Im} {s : Sl} {w : World} (h : ImAt F w im s) (hF : ∀ b, F b → b < w.heap.size) {r p : Int} (hr : im.check = (r, p)) (cs : Array Value) (hc : im.cells s = cs) : Calls Try.prog 13 #[.agg cs, .int .i64 r, .int .i64 p] w (DocP w (.bool true)) := hc ▸ is_t h hF hr
theorem blocks_slab {w : World} {s : Sl} (h : ImAt (Nw 0 w) w slabIm s) : Calls Try.prog 12 #[.agg (slabIm.cells s)] w fun e w' => ∃ A cap, e = .returned (.slice A 2 cap) ∧ Below w.heap.size w w' := by
  refine (Blocks_c h (fun b hb => hb.2)).mono ?_
  rintro e w' ⟨A, cap, he, -, -, hb⟩
  refine ⟨A, cap, ?_, hb⟩
  have : slabIm.told.length = 2 := by
    unfold Im.told
    rw [if_pos (by rw [slab_ok]), slab_two]
    rfl
  rw [he, this]
set_option maxRecDepth 100000 in
set_option maxHeartbeats 1000000 in
theorem awake_ok : AwakeOk := by
  intro w
  obtain ⟨sz, hcfg⟩ := void_cfg
  have HNEW := Lib.hid (show ∀ wx, Calls Try.prog 24 #[.agg #[.int .u64 65536, .int .i64 2, .int .i64 1]] wx (Made wx) from fun wx => mallocNew_w hcfg (by unfold U64; decide) wx)
  have HVO := Lib.hid (fun wx => (void_c wx))
  have HSB := Lib.hid (fun wx => (slabbed_c wx))
  clear hcfg
  go_enter Try.func11, Try.ntmps11
  go_upto_region 2 with (go_at_call 10; refine (HVO.out _).mono ?_; rintro e w1 ⟨s, rfl, him, hb, -⟩; have HIM := Lib.hid him; rw [void_cells]; have HB1 := Lib.hid hb; clear him hb)
  obtain ⟨q, hq⟩ : ∃ q, w1.heap.size = q := ⟨_, rfl⟩
  obtain ⟨W2, hW2⟩ : ∃ W, w1.alloc (.cells #[.int .u64 65536, .int .i64 2, .int .i64 1, .int .i64 1, .slice s.A 8192 s.a, .slice s.B 2 s.b, .slice s.C 1 s.c, .slice s.D 2 s.d, .slice s.E 8 s.e] 31) = W := ⟨_, rfl⟩
  have v2 : W2.heap[q]? = some (.cells #[.int .u64 65536, .int .i64 2, .int .i64 1, .int .i64 1, .slice s.A 8192 s.a, .slice s.B 2 s.b, .slice s.C 1 s.c, .slice s.D 2 s.d, .slice s.E 8 s.e] 31 (0, 0)) := by rw [← hW2, ← hq]; exact blk_new _ _
  have b2 : Below w1.heap.size w1 W2 := by rw [← hW2]; exact (Below.refl _ _).alloc (Nat.le_refl _) _
  obtain ⟨W3, hW3⟩ : ∃ W, W2.setCell ⟨q, 4, none⟩ (.slice none 0 0) = W := ⟨_, rfl⟩
  have HV3 := Lib.hid (show W3.heap[q]? = some (.cells #[.int .u64 65536, .int .i64 2, .int .i64 1, .int .i64 1, .slice none 0 0, .slice s.B 2 s.b, .slice s.C 1 s.c, .slice s.D 2 s.d, .slice s.E 8 s.e] 31 (0, 0)) from by rw [← hW3]; exact blk_put v2 4 _ rfl)
  have HB3 := Lib.hid (show Below w1.heap.size w1 W3 from by rw [← hW3]; exact b2.setCell (by show w1.heap.size ≤ q; omega) _)
  have HCL := Lib.hid (fun (wx : World) (hx : Below W3.heap.size W3 wx) => (hx.block q (blk_lt HV3.out)).trans HV3.out)
  have HW3 := Lib.hid (show Below w.heap.size w W3 from HB1.out.trans (HB3.out.mono HB1.out.size))
  have c4 := blk_cell v2 4
  have f4 := blk_frozen v2 4
  clear v2 b2
  go_upto_region 3 with (fail)
  clear c4 f4 hW2 hW3
  have c0 := blk_cell HV3.out 0
  have c1 := blk_cell HV3.out 1
  have c2 := blk_cell HV3.out 2
  go_upto_region 7 with (first
    | (go_at_call 24; refine (HNEW.out _).mono ?_; rintro e w4 ⟨p4, rfl, hb4⟩; have HB4 := Lib.hid hb4; clear hb4 c0 c1 c2)
    | (go_at_call 10; refine (HVO.out _).mono ?_; rintro e w5 ⟨s5, rfl, him5, hb5, -⟩; have HB5 := Lib.hid (HB4.out.trans (hb5.mono HB4.out.size)); have HIM5 := Lib.hid (nw0 him5); clear him5 hb5)
    | (go_at_call 25; refine (open_void HIM5.out).mono ?_; rintro e w6 ⟨p6, rfl, hb6⟩; have HB6 := Lib.hid (HB5.out.trans (hb6.mono HB5.out.size)); clear hb6))
  have HNM := Lib.hid (show ∀ wx : World, Below W3.heap.size W3 wx → Calls Try.prog 13 #[.agg #[.int .u64 65536, .int .i64 2, .int .i64 1, .int .i64 1, .slice none 0 0, .slice s.B 2 s.b, .slice s.C 1 s.c, .slice s.D 2 s.d, .slice s.E 8 s.e], .int .i64 2, .int .i64 1] wx (DocP wx (.bool true)) from fun wx hx => by
    have h1 : Below w1.heap.size w1 wx := HB3.out.trans (hx.mono HB3.out.size)
    have h2 := (nomem_at (nw0 HIM.out)).keep (w' := wx) (fun b hb => h1.block b hb.2)
    exact is_true h2 (fun b hb => Nat.lt_of_lt_of_le hb.2 h1.size) nomem_bad _ (nomem_cells s))
  have HIS := Lib.hid (show ∀ (wx : World) (sx : Sl), ImAt (Nw 0 wx) wx voidIm sx → Calls Try.prog 13 #[.agg (voidIm.cells sx), .int .i64 0, .int .i64 0] wx (DocP wx (.bool true)) from fun wx sx h => is_t h (fun b hb => hb.2) void_ok)
  have TK : True := trivial
  go_wp2_with (first
    | (go_at_call 10; refine (HVO.out _).mono ?_; rintro e w7 ⟨s7, rfl, him7, hb7, -⟩; have HB7 := Lib.hid (HB6.out.trans (hb7.mono HB6.out.size)); have HIM7 := Lib.hid (nw0 him7); clear him7 hb7)
    | (go_at_call 13; clear TK; refine (HIS.out _ _ HIM7.out).mono ?_; rintro e w8 ⟨rfl, hb8⟩; have HB8 := Lib.hid (HB7.out.trans (hb8.mono HB7.out.size)); clear hb8; have hv8 := HCL.out w8 HB8.out; have c0 := blk_cell hv8 0; have c1 := blk_cell hv8 1; have c2 := blk_cell hv8 2; have c3 := blk_cell hv8 3; have c4 := blk_cell hv8 4; have c5 := blk_cell hv8 5; have c6 := blk_cell hv8 6; have c7 := blk_cell hv8 7; have c8 := blk_cell hv8 8; clear hv8)
    | (go_at_call 13; refine (HNM.out _ HB8.out).mono ?_; rintro e w9 ⟨rfl, hb9⟩; have HB9 := Lib.hid (HB8.out.trans (hb9.mono HB8.out.size)); clear hb9 c0 c1 c2 c3 c4 c5 c6 c7 c8)
    | (go_at_call 15; refine (HSB.out _).mono ?_; rintro e wa ⟨sa, rfl, hima, hba⟩; have HBA := Lib.hid (HB9.out.trans (hba.mono HB9.out.size)); have HIMA := Lib.hid (nw0 hima); clear hima hba)
    | (go_at_call 12; refine (blocks_slab HIMA.out).mono ?_; rintro e wb ⟨Ab, capb, rfl, hbb⟩; have HBB := Lib.hid (HBA.out.trans (hbb.mono HBA.out.size)); clear hbb))
  go_ret
  exact ⟨rfl, HW3.out.trans (HBB.out.mono HW3.out.size)⟩
end Go.Proofs.Ytkgedpcipaogjaa.WB
end
