/- Part 2 of what the rows of this seat rest on: words of the print that they need; how images, spaces, sets lie in memory; the functions walked. -/
import Derived.StillTail
import Derived.Deep.Quiet
import Derived.Deep.QuietTactic
import Derived.BigQuiet
import Derived.Test.YtkgedpcipaogjaaM1
import Derived.Test.YtkgedpcipaogjaaZ1
import Derived.Test.YtkgedpcipaogjaaZ2
import Derived.Test.YtkgedpcipaogjaaZ3
import Derived.Test.YtkgedpcipaogjaaZ4
import Derived.Test.YtkgedpcipaogjaaZ5
import Derived.Test.YtkgedpcipaogjaaZ6
import Derived.Test.YtkgedpcipaogjaaZ7
import Derived.Test.YtkgedpcipaogjaaZ8
import Derived.Test.YtkgedpcipaogjaaZ9
import Derived.Test.YtkgedpcipaogjaaZ10
import Derived.Test.YtkgedpcipaogjaaZ11
import Derived.Test.YtkgedpcipaogjaaZ12
namespace Go.Proofs.Ytkgedpcipaogjaa.WB
open Go Go.RowKit Go.Proofs.YtkgedpcipaogjaaW.PrintWords Go.Proofs.YtkgedpcipaogjaaW.PrintLast Go.Proofs.YtkgedpcipaogjaaW.PrintMore Go.Proofs.Ytkgedpcipaogjaa.Mem
set_option linter.unusedVariables false
set_option linter.unusedSimpArgs false
theorem move_wf {im : Im} (h : im.Wf) {d : Int} (hd : 0 ≤ d ∧ d ≤ 66060288) (hb : im.base ≤ 9223372036854775808) : (im.move d).Wf :=
  ⟨by have := h.base; show U64 (im.base + d); unfold U64 at *; omega, h.limit, h.order, h.regions, moveM_byte d _ h.mem, h.pages, h.pairs, fun y hy => by
    obtain ⟨x, -, rfl⟩ := List.mem_map.1 hy
    exact sh_u, h.parts, by show (moveM d im.mem _).length ≤ _; rw [moveM_len]; exact h.lmem, h.lpages, h.lpairs, h.lrows, by show (im.heads.map _).length ≤ _; rw [List.length_map]; exact h.lheads, h.lparts⟩
theorem move_cellsV (im : Im) (d : Int) (s : Sl) : (im.move d).cells s = #[.int .u64 (im.base + d), .int .i64 im.limit, .int .i64 im.order, .int .i64 im.regions, .slice s.A im.mem.length s.a, .slice s.B im.pages.length s.b, .slice s.C im.pairs.length s.c, .slice s.D im.heads.length s.d, .slice s.E im.parts.length s.e] := by
  simp [Im.cells, Im.move, moveM_len]
theorem mv_nums {o : Nat} (ho : o ≤ 8) {x : Int} (hb : U64 x) : ∃ sz e dd : Nat, 4096 * 2 ^ o = sz ∧ Int.tmod x 64 = (e : Int) ∧ x % 64 = (e : Int) ∧ IntKind.u64.wrap (e : Int) = (e : Int) ∧ IntKind.u64.wrap ((sz : Int) * (e : Int)) = (dd : Int) ∧ dd ≤ 66060288 ∧ dd % 4096 = 0 := by
  have h1 := big_bd ho
  obtain ⟨e, he⟩ : ∃ e : Nat, x % 64 = (e : Int) := ⟨(x % 64).toNat, by omega⟩
  have he2 : e ≤ 63 := by omega
  have h2 : 4096 * 2 ^ o * e ≤ 1048576 * 63 := Nat.mul_le_mul h1 he2
  refine ⟨4096 * 2 ^ o, e, 4096 * 2 ^ o * e, rfl, by rw [Int.tmod_eq_emod_of_nonneg hb.1]; exact he, he, wrap_u64_in (by omega) (by omega), ?_, by omega, by rw [Nat.mul_assoc]; exact Nat.mul_mod_right _ _⟩
  rw [← Int.natCast_mul]
  generalize 4096 * 2 ^ o * e = y at *
  exact wrap_u64_in (by omega) (by omega)
theorem upd_below {F : Nat → Prop} {w w' : World} {n : Nat} (h : Upd F w w') (hF : ∀ b, F b → n ≤ b) (hn : n ≤ w.heap.size) : Below n w w' :=
  ⟨h.os, h.tape, h.output, h.size, fun k hk => h.block k (by omega) (fun hf => by have := hF k hf; omega)⟩
structure MvI (W : World) (m : Nat) (M : List Int) (wi : World) : Prop where
  upd : Upd (fun k => k = m) W wi
  lt : m < W.heap.size
  at_ : wi.heap[m]? = some (rowO .u8 5 M)
theorem MvI.later {W : World} {m : Nat} {M : List Int} {w w' : World} (h : MvI W m M w) (hb : Below w.heap.size w w') : MvI W m M w' :=
  ⟨⟨hb.os.trans h.upd.os, hb.tape.trans h.upd.tape, hb.output.trans h.upd.output, Nat.le_trans h.upd.size hb.size, fun k hk hn => (hb.block k (Nat.lt_of_lt_of_le hk h.upd.size)).trans (h.upd.block k hk hn)⟩, h.lt, (hb.block m (Nat.lt_of_lt_of_le h.lt h.upd.size)).trans h.at_⟩
theorem MvI.shift {W : World} {m : Nat} {M M' : List Int} {w w' : World} (h : MvI W m M w) (hb : Wr m (rowO .u8 5 M') w w') : MvI W m M' w' :=
  ⟨⟨hb.upd.os.trans h.upd.os, hb.upd.tape.trans h.upd.tape, hb.upd.output.trans h.upd.output, Nat.le_trans h.upd.size hb.upd.size, fun k hk hn => (hb.upd.block k (Nat.lt_of_lt_of_le hk h.upd.size) hn).trans (h.upd.block k hk hn)⟩, h.lt, hb.at_⟩
theorem moveM_one (d : Int) (mem : List Int) (l : List Nat) (a : Nat) : moveM d mem (l ++ [a]) = shiftM (moveM d mem l) a d := by
  rw [moveM_app]
  rfl
theorem quo_nums {cl z n : Nat} (h7 : cl ≤ 7) (hz : 16 * 2 ^ cl = z) (hn : n * z = 4096) : wrap64 (16 * (2 : Int) ^ cl) = (z : Int) ∧ min cl 64 = cl ∧ ¬ (z : Int) = 0 ∧ Int.tdiv 4096 (z : Int) = (n : Int) ∧ (4096 : Int) / (z : Int) = (n : Int) ∧ wrap64 (n : Int) = (n : Int) ∧ z ≤ 2048 ∧ n ≤ 256 := by
  subst hz
  have h : cl = 0 ∨ cl = 1 ∨ cl = 2 ∨ cl = 3 ∨ cl = 4 ∨ cl = 5 ∨ cl = 6 ∨ cl = 7 := by omega
  rcases h with rfl | rfl | rfl | rfl | rfl | rfl | rfl | rfl
  · obtain rfl : n = 256 := by omega
    exact ⟨by unfold wrap64; decide, by decide, by decide, by decide, by decide, by unfold wrap64; decide, by decide, by decide⟩
  · obtain rfl : n = 128 := by omega
    exact ⟨by unfold wrap64; decide, by decide, by decide, by decide, by decide, by unfold wrap64; decide, by decide, by decide⟩
  · obtain rfl : n = 64 := by omega
    exact ⟨by unfold wrap64; decide, by decide, by decide, by decide, by decide, by unfold wrap64; decide, by decide, by decide⟩
  · obtain rfl : n = 32 := by omega
    exact ⟨by unfold wrap64; decide, by decide, by decide, by decide, by decide, by unfold wrap64; decide, by decide, by decide⟩
  · obtain rfl : n = 16 := by omega
    exact ⟨by unfold wrap64; decide, by decide, by decide, by decide, by decide, by unfold wrap64; decide, by decide, by decide⟩
  · obtain rfl : n = 8 := by omega
    exact ⟨by unfold wrap64; decide, by decide, by decide, by decide, by decide, by unfold wrap64; decide, by decide, by decide⟩
  · obtain rfl : n = 4 := by omega
    exact ⟨by unfold wrap64; decide, by decide, by decide, by decide, by decide, by unfold wrap64; decide, by decide, by decide⟩
  · obtain rfl : n = 2 := by omega
    exact ⟨by unfold wrap64; decide, by decide, by decide, by decide, by decide, by unfold wrap64; decide, by decide, by decide⟩
theorem Cpy.moved {w w' W : World} {im : Im} {s' : Sl} {m1 m4 : Nat} (h : Cpy w w' im s' m1 m4) {d : Int} (hw : (im.move d).Wf) (hk : ∀ b, b < w'.heap.size → b ≠ m1 → b ≠ m4 → W.heap[b]? = w'.heap[b]?) (h1 : W.heap[m1]? = some (rowO .u8 5 (im.move d).mem)) (h4 : W.heap[m4]? = some (rowO .u64 22 (im.move d).heads)) :
    ImAt (fun b => w.heap.size ≤ b ∧ b < w'.heap.size) W (im.move d) s' := by
  refine ⟨?_, (h.pages.keep (fun b hb => hk b hb.2.1 hb.2.2.1 hb.2.2.2)).mono (fun b hb => ⟨hb.1, hb.2.1⟩), (h.pairs.keep (fun b hb => hk b hb.2.1 hb.2.2.1 hb.2.2.2)).mono (fun b hb => ⟨hb.1, hb.2.1⟩), ?_, (h.parts.keep (fun b hb => hk b hb.2.1 hb.2.2.1 hb.2.2.2)).mono (fun b hb => ⟨hb.1, hb.2.1⟩), by simpa [Im.move, moveM_len] using h.cmem, h.cpages, h.cpairs, by simpa [Im.move] using h.cheads, h.cparts, hw⟩
  · rw [h.A]
    exact (rowO_row h1).mono (fun b hb => hb ▸ h.n1)
  · rw [h.D]
    exact (rowO_row h4).mono (fun b hb => hb ▸ h.n4)
theorem shift_v {w : World} {m cap n : Nat} {M : List Int} (hn : M.length = n) (h : w.heap[m]? = some (rowO .u8 5 M)) (hM : ∀ x ∈ M, 0 ≤ x ∧ x < 256) (hl : n ≤ 140737488355328) {off : Nat} (ho : off + 8 ≤ n) {d : Int} (hd : U64 d) :
    Calls Try.prog 23 #[.slice (some ⟨m, 0, none⟩) n cap, .int .i64 (off : Int), .int .u64 d] w fun e w' => e = .returned (.tuple #[]) ∧ Wr m (rowO .u8 5 (shiftM M off d)) w w' := by
  subst hn
  exact shift_c h hM hl off ho hd
theorem Wr.drewN {m : Nat} {o : Obj} {w w' : World} (h : Wr m o w w') (n : Nat) : Wr m o w (w'.drewN n) := ⟨⟨h.upd.os, h.upd.tape, h.upd.output, h.upd.size, h.upd.block⟩, h.size, h.at_⟩
theorem MvI.trans {W W1 : World} {m : Nat} {M M' : List Int} {w w' : World} (h : MvI W m M w) (hb : Below w.heap.size w W1) (h2 : MvI W1 m M' w') : MvI W m M' w' :=
  ⟨⟨h2.upd.os.trans (hb.os.trans h.upd.os), h2.upd.tape.trans (hb.tape.trans h.upd.tape), h2.upd.output.trans (hb.output.trans h.upd.output), Nat.le_trans h.upd.size (Nat.le_trans hb.size h2.upd.size), fun k hk hn => by
    have h3 := h.upd.size
    have h4 := hb.size
    exact (h2.upd.block k (by omega) hn).trans ((hb.block k (by omega)).trans (h.upd.block k hk hn))⟩, h.lt, h2.at_⟩
theorem pl_free {im : Im} {d : Int} {k : Nat} (h : (im.pg k).kd = 0) : moveM d im.mem (placesTo im (k + 1)) = shiftM (shiftM (moveM d im.mem (placesTo im k)) (4096 * k) d) (4096 * k + 8) d := by
  rw [placesTo, pagePl, if_pos h, if_neg (by omega), moveM_app, List.append_nil]
  rfl
theorem pl_slab {im : Im} {d : Int} {k : Nat} (h : (im.pg k).kd = 4) : moveM d im.mem (placesTo im (k + 1)) = moveM d im.mem (placesTo im k ++ cellPl im k (cellsN (im.pg k).cl)) := by
  rw [placesTo, pagePl, if_pos h, if_neg (by omega), List.nil_append]
theorem pl_other {im : Im} {k : Nat} (h0 : ¬ (im.pg k).kd = 0) (h4 : ¬ (im.pg k).kd = 4) : placesTo im (k + 1) = placesTo im k := by
  rw [placesTo, pagePl, if_neg h0, if_neg h4, List.append_nil, List.append_nil]
theorem pl_cell {im : Im} {d : Int} {k c : Nat} {l : List Nat} (h : (im.pg k).bit c = false) : moveM d im.mem (l ++ cellPl im k (c + 1)) = shiftM (moveM d im.mem (l ++ cellPl im k c)) (4096 * k + cellZ (im.pg k) * c) d := by
  rw [cellPl, if_neg (by rw [h]; decide), ← List.append_assoc, moveM_one]
theorem pl_live {im : Im} {k c : Nat} (h : (im.pg k).bit c = true) : cellPl im k (c + 1) = cellPl im k c := by
  rw [cellPl, if_pos h, List.append_nil]
theorem mv_place {im : Im} {o r : Nat} (g : Geo im o r) {k : Nat} (hk : k < im.pages.length) {pa pb : Nat} (ha : 4096 * k = pa) (hb : pa + 8 = pb) : pa + 4096 ≤ im.mem.length ∧ wrap64 (4096 * (k : Int)) = (pa : Int) ∧ wrap64 ((pa : Int) + 8) = (pb : Int) := by
  have h1 := g.mem
  have h2 := g.n
  have h3 := g.n1024
  unfold Im.n at h2 h3
  refine ⟨by omega, by unfold wrap64; omega, by unfold wrap64; omega⟩
theorem bit_and {p : Pg} {c q r : Nat} {x : Int} (hx : p.wd q = x) (hu : U64 x) (hq : c / 64 = q) (hr : c % 64 = r) {v : Bool} (hb : p.bit c = v) : Go.bits .and .u64 (x / 2 ^ r) 1 = if v = true then 1 else 0 := by
  have h0 : 0 ≤ x / 2 ^ r := Int.ediv_nonneg hu.1 (Int.pow_nonneg (by decide))
  have h1 : x / 2 ^ r < 18446744073709551616 := Int.lt_of_le_of_lt (Int.ediv_le_self _ hu.1) hu.2
  rw [and_one _ h0 h1]
  unfold Pg.bit at hb
  rw [hq, hr, hx] at hb
  cases v with
  | true => simpa using hb
  | false =>
    have : ¬ (x / 2 ^ r % 2 = 1) := by simpa using hb
    rw [if_neg (by decide)]
    omega
theorem bit_one {p : Pg} {c q r : Nat} {x : Int} (hx : p.wd q = x) (hu : U64 x) (hq : c / 64 = q) (hr : c % 64 = r) (hb : p.bit c = true) : Go.bits .and .u64 (x / 2 ^ r) 1 = 1 := (bit_and hx hu hq hr hb).trans (if_pos rfl)
theorem bit_zero {p : Pg} {c q r : Nat} {x : Int} (hx : p.wd q = x) (hu : U64 x) (hq : c / 64 = q) (hr : c % 64 = r) (hb : p.bit c = false) : Go.bits .and .u64 (x / 2 ^ r) 1 = 0 := (bit_and hx hu hq hr hb).trans (if_neg (by decide))
theorem wd_cell {w : World} {g : Nat} {p : Pg} (h : w.heap[g]? = some (pageO p)) (hw : p.Wf) {q : Nat} (hq : q < 4) : ∃ x, p.wd q = x ∧ U64 x ∧ w.cell? ⟨g, 7 + q, none⟩ = some (.int .u64 x) := by
  obtain ⟨q0, q1, q2, q3, q4, q5, q6, q7, q8, q9, q10⟩ := page_var h
  match q, hq with
  | 0, _ => exact ⟨_, rfl, hw.b0, q7⟩
  | 1, _ => exact ⟨_, rfl, hw.b1, q8⟩
  | 2, _ => exact ⟨_, rfl, hw.b2, q9⟩
  | 3, _ => exact ⟨_, rfl, hw.b3, q10⟩
theorem cell_nums {c n z pa M : Nat} (hc : c < n) (hnz : n * z = 4096) (hn : n ≤ 256) (hp : pa + 4096 ≤ M) (hM : M ≤ 140737488355328) : ∃ zc pc : Nat, z * c = zc ∧ pa + zc = pc ∧ wrap64 ((z : Int) * (c : Int)) = (zc : Int) ∧ wrap64 ((pa : Int) + (zc : Int)) = (pc : Int) ∧ zc + z ≤ 4096 := by
  have h1 : z * c + z ≤ 4096 := by
    have := Nat.mul_le_mul_right z hc
    rw [hnz, Nat.succ_mul, Nat.mul_comm] at this
    exact this
  refine ⟨z * c, pa + z * c, rfl, rfl, ?_, ?_, h1⟩
  · rw [← Int.natCast_mul]
    generalize z * c = y at *
    unfold wrap64; omega
  · generalize z * c = y at *
    unfold wrap64; omega
theorem blk_move {im : Im} {o r : Nat} (g : Geo im o r) {b : Int × Int} (h : BlkOk im o b) {dd : Nat} (hd : dd ≤ 66060288) : IntKind.u64.wrap (b.1 + (dd : Int)) = b.1 + (dd : Int) := by
  obtain ⟨k, -, -, hk, -⟩ := h.size
  have h0 : (0 : Int) ≤ b.2 := by rw [hk]; exact Int.natCast_nonneg _
  have h1 := h.low
  have h2 := h.top
  have h3 := g.base0
  have h4 := g.top
  exact wrap_u64_in (by omega) (by omega)
theorem map_at {bs : List (Int × Int)} {f : Int × Int → Int × Int} {k : Nat} (hk : k < bs.length) : (bs.map f).getD k (0, 0) = f (bs.getD k (0, 0)) := by
  rw [List.getD_eq_getElem?_getD, List.getElem?_map, List.getD_eq_getElem?_getD, List.getElem?_eq_getElem hk]
  rfl
theorem move_told {im : Im} {d : Int} (h : Sound (im.move d)) : (im.move d).told = im.blocks.map (fun b => (b.1 + d, b.2)) := by
  unfold Im.told
  rw [check_sound h, if_pos rfl, move_blocks]
theorem cell_fits {pa zc pc z M : Nat} (h : pa + 4096 ≤ M) (h2 : pa + zc = pc ∧ zc + z ≤ 4096) (h3 : 16 ≤ z) : pc + 8 ≤ M := by omega
theorem cell_bits {c n : Nat} (hc : c < n) (hn : n ≤ 256) : ∃ q : Nat, c / 64 = q ∧ q < 4 ∧ wrap64 ((c : Int) / 64) = (q : Int) ∧ (q : Int) < 4 ∧ wrap64 ((c : Int) + 1) = (c : Int) + 1 := by
  refine ⟨c / 64, rfl, by omega, ?_, by omega, by unfold wrap64; omega⟩
  unfold wrap64
  omega
section
variable {F : Nat → Prop} {im : Im} {s : Sl} {w : World}
set_option maxRecDepth 100000 in
set_option maxHeartbeats 8000000 in
theorem moves_core (h : ImAt F w im s) (hF : ∀ b, F b → b < w.heap.size) {by_ : Int} (hby : U64 by_) : Calls Try.prog 9 #[.agg (im.cells s), .int .u64 by_] w (DocP w (.bool true)) := by
  obtain ⟨A, a, B, b, C, c, D, d, E, e⟩ := s
  obtain ⟨WA, hWA⟩ : ∃ W, w.alloc (imO im ⟨A, a, B, b, C, c, D, d, E, e⟩) = W := ⟨_, rfl⟩
  obtain ⟨hsa, hbl, hvl⟩ := box_facts h hF hWA
  have HBL := Lib.hid hbl
  have HVL := Lib.hid hvl
  have HFA := Lib.hid (show ∀ b, F b → b < WA.heap.size from fun b hb => by have := hF b hb; omega)
  have HWF := Lib.hid h.wf
  have hl := len_i64 h.wf
  obtain ⟨c0, c1, c2, c3, c4, c5, c6, c7, c8⟩ := (hvl WA (Below.refl _ _)).cell
  dsimp only at c0 c1 c2 c3 c4 c5 c6 c7 c8
  unfold imO Im.cells at hWA
  unfold Im.cells
  clear h hF hvl hbl
  have HAW := Lib.hid awake_ok
  have HF2 := Lib.hid (fun (wx : World) (hx : Below WA.heap.size WA wx) => (show ∀ b, F b → b < wx.heap.size from fun b hb => Nat.lt_of_lt_of_le (HFA.out b hb) hx.size))
  have HCK := Lib.hid (fun (wx : World) (hx : Below WA.heap.size WA wx) => checkIm_c (HVL.out wx hx).im (HF2.out wx hx))
  have HBK := Lib.hid (fun (wx : World) (hx : Below WA.heap.size WA wx) => Blocks_c (HVL.out wx hx).im (HF2.out wx hx))
  have HTL := Lib.hid (told_len HWF.out)
  unfold Im.cells at HBK HCK
  dsimp only at HBK HCK
  clear hl
  obtain ⟨⟨a1, a2⟩, ha⟩ : ∃ b, im.check = b := ⟨_, rfl⟩
  rw [ha] at HCK
  have HCE := Lib.hid ha
  have hl9 : im.told.length ≤ 9223372036854775807 := by have := HTL.out; omega
  clear ha
  go_enter Try.func9, Try.ntmps9
  go_upto_region 4 with (first
    | (go_at_call 11; refine (HAW.out _).mono ?_; rintro e w4 ⟨rfl, hb4⟩; have HB4 := Lib.hid hb4; obtain ⟨d0, d1, d2, d3, d4, d5, d6, d7, d8⟩ := (HVL.out w4 HB4.out).cell; dsimp only at d0 d1 d2 d3 d4 d5 d6 d7 d8; clear hb4 c0 c1 c2 c3 c4 c5 c6 c7 c8)
    | (go_at_call 18; refine (HCK.out w4 HB4.out).mono ?_; rintro e w5 ⟨rfl, hb5⟩; have HB5 := Lib.hid (HB4.out.trans (hb5.mono HB4.out.size)); obtain ⟨e0, e1, e2, e3, e4, e5, e6, e7, e8⟩ := (HVL.out w5 HB5.out).cell; dsimp only at e0 e1 e2 e3 e4 e5 e6 e7 e8; clear hb5 d0 d1 d2 d3 d4 d5 d6 d7 d8))
  clear hWA
  by_cases hz : a1 = 0
  case neg =>
    have ht : im.told = [] := by unfold Im.told; rw [HCE.out, if_neg hz]
    have t1 : (a1 != 0) = true := by simpa using hz
    go_wp2_with (go_at_call 12; refine (HBK.out w5 HB5.out).mono ?_; rintro e w6 ⟨A1, cap1, rfl, hc1, hr1, hb6⟩; rw [ht]; have HB6 := Lib.hid (HB5.out.trans (hb6.mono HB5.out.size)); clear hc1 hr1 hb6)
    go_ret
    exact ⟨rfl, HBL.out _ HB6.out⟩
  have hs : Sound im := check_zero (by rw [HCE.out]; exact hz)
  have ha2 : a2 = 0 := by have := check_sound hs; rw [HCE.out] at this; injection this
  have ht : im.told = im.blocks := by unfold Im.told; rw [HCE.out, if_pos hz]
  obtain ⟨o, r, g⟩ := base4 HWF.out (hs 0 (by decide)) (hs 1 (by decide)) (hs 2 (by decide)) (hs 3 (by decide))
  have HG4 := Lib.hid g
  have HS := Lib.hid hs
  subst ha2
  subst hz
  unfold BlocksP at HBK
  rw [ht] at HTL hl9 HBK
  have hod := g.geo.order
  obtain ⟨sz, e, dd, n1, n2, n3, n4, n5, n6, n7⟩ := mv_nums g.geo.o8 hby
  have HRD := Lib.hid (fun wx => show Calls Try.prog 20 #[.agg #[.int .u64 im.base, .int .i64 im.limit, .int .i64 im.order]] wx (fun e w' => e = .returned (.int .u64 (sz : Int)) ∧ Below wx.heap.size wx w') from by rw [hod, ← n1]; exact R_d g.geo.o8 _ _ wx)
  have hb63 : im.base ≤ 9223372036854775808 := by have := g.geo.top; omega
  have hb00 := g.geo.base0
  have n8 : IntKind.u64.wrap (im.base + (dd : Int)) = im.base + (dd : Int) := wrap_u64_in (by omega) (by omega)
  obtain ⟨rb, hrb⟩ : ∃ b, mayB (im.base + (dd : Int)) im.limit im.order = b := ⟨_, rfl⟩
  have HMY := Lib.hid (fun wx => May_d hrb (show U64 (im.base + (dd : Int)) from by unfold U64; omega) wx)
  have HRB := Lib.hid hrb
  have HDD := Lib.hid (And.intro n6 n7)
  have HB63 := Lib.hid (And.intro hb00 hb63)
  obtain ⟨W6, hW6⟩ : ∃ W, w5.alloc (.cells #[.int .u64 im.base, .int .i64 im.limit, .int .i64 im.order] 24) = W := ⟨_, rfl⟩
  have HB6 := Lib.hid (show Below w5.heap.size w5 W6 from by rw [← hW6]; exact (Below.refl _ _).alloc (Nat.le_refl _) _)
  have hv6 : W6.heap[w5.heap.size]? = some (.cells #[.int .u64 im.base, .int .i64 im.limit, .int .i64 im.order] 24 (0, 0)) := by rw [← hW6]; exact blk_new w5 _
  have v0 := blk_cell hv6 0
  have v1 := blk_cell hv6 1
  have v2 := blk_cell hv6 2
  simp at v0 v1 v2
  have HV6 := Lib.hid hv6
  clear g hs ht hby n1 n6 n7 hb63 hb00 hrb hv6 hod
  go_upto_region 7 with (fail)
  clear hW6 e0 e1 e2 e3 e4 e5 e6 e7 e8
  generalize hq7 : w5.heap.size = q7 at *
  have HQ7 := Lib.hid hq7
  clear hq7
  go_upto_region 9 with (go_at_call 20; refine (HRD.out _).mono ?_; rintro e w7 ⟨rfl, hb7⟩; have HB7 := Lib.hid hb7; have hv7 := (hb7.block q7 (blk_lt HV6.out)).trans HV6.out; have u0 := blk_cell hv7 0; have u1 := blk_cell hv7 1; have u2 := blk_cell hv7 2; have x0 := blk_frozen hv7 0; simp at u0 u1 u2; have HV7 := Lib.hid hv7; clear hb7 hv7 v0 v1 v2)
  obtain ⟨W9, hW9⟩ : ∃ W, w7.setCell ⟨q7, 0, none⟩ (.int .u64 (im.base + (dd : Int))) = W := ⟨_, rfl⟩
  have HV9 := Lib.hid (show W9.heap[q7]? = some (.cells #[.int .u64 (im.base + (dd : Int)), .int .i64 im.limit, .int .i64 im.order] 24 (0, 0)) from by rw [← hW9]; exact blk_put HV7.out 0 _ rfl)
  have HB9 := Lib.hid (show Below WA.heap.size WA W9 from by rw [← hW9]; exact ((HB5.out.trans (HB6.out.mono (by rw [← HQ7.out]; exact HB5.out.size))).trans (HB7.out.mono (Nat.le_trans HB5.out.size HB6.out.size))).setCell (by rw [← HQ7.out]; exact HB5.out.size) _)
  have y0 := blk_cell HV9.out 0
  have y1 := blk_cell HV9.out 1
  have y2 := blk_cell HV9.out 2
  simp at y0 y1 y2
  go_upto_region 10 with (fail)
  clear hW9 u0 u1 u2 x0 n2 n3 n4 n5 n8
  cases rb with
  | false =>
    go_wp2_with (go_at_call 22; refine (HMY.out _).mono ?_; rintro e w10 ⟨rfl, hb10⟩; have HB10 := Lib.hid hb10; clear hb10)
    go_ret
    exact ⟨rfl, HBL.out _ (HB9.out.trans (HB10.out.mono HB9.out.size))⟩
  | true =>
  go_upto_region 12 with (go_at_call 22; refine (HMY.out _).mono ?_; rintro e w10 ⟨rfl, hb10⟩; have HB10 := Lib.hid hb10; have HBA := Lib.hid (HB9.out.trans (hb10.mono HB9.out.size)); have hv10 := (hb10.block q7 (blk_lt HV9.out)).trans HV9.out; have u0 := blk_cell hv10 0; have u1 := blk_cell hv10 1; have u2 := blk_cell hv10 2; simp at u0 u1 u2; have HV10 := Lib.hid hv10; obtain ⟨c0, c1, c2, c3, c4, c5, c6, c7, c8⟩ := (HVL.out w10 HBA.out).cell; dsimp only at c0 c1 c2 c3 c4 c5 c6 c7 c8; clear hb10 hv10 y0 y1 y2)
  have HCP := Lib.hid (Copied_c (HVL.out w10 HBA.out).im (HF2.out w10 HBA.out) (geo_fit HG4.out.geo HWF.out))
  unfold Im.cells at HCP
  dsimp only at HCP
  go_upto_region 13 with (go_at_call 19; refine HCP.out.mono ?_; rintro e w11 ⟨⟨A', a', B', b', C', c', D', d', E', e'⟩, m1, m4, rfl, hc⟩; obtain rfl : A' = some ⟨m1, 0, none⟩ := hc.A; obtain rfl : D' = some ⟨m4, 0, none⟩ := hc.D; have HC := Lib.hid hc; obtain ⟨W12, hW12⟩ : ∃ W, w11.alloc (.cells #[.int .u64 im.base, .int .i64 im.limit, .int .i64 im.order, .int .i64 im.regions, .slice (some ⟨m1, 0, none⟩) im.mem.length a', .slice B' im.pages.length b', .slice C' im.pairs.length c', .slice (some ⟨m4, 0, none⟩) im.heads.length d', .slice E' im.parts.length e'] 31) = W := ⟨_, rfl⟩; have HB12 := Lib.hid (show Below w11.heap.size w11 W12 from by rw [← hW12]; exact (Below.refl _ _).alloc (Nat.le_refl _) _); have HV12 := Lib.hid (show W12.heap[w11.heap.size]? = some (.cells #[.int .u64 im.base, .int .i64 im.limit, .int .i64 im.order, .int .i64 im.regions, .slice (some ⟨m1, 0, none⟩) im.mem.length a', .slice B' im.pages.length b', .slice C' im.pairs.length c', .slice (some ⟨m4, 0, none⟩) im.heads.length d', .slice E' im.parts.length e'] 31 (0, 0)) from by rw [← hW12]; exact blk_new w11 _); have hv12 := ((HB12.out.block q7 (Nat.lt_of_lt_of_le (blk_lt HV10.out) hc.below.size)).trans (hc.below.block q7 (blk_lt HV10.out))).trans HV10.out; have y0 := blk_cell hv12 0; have y1 := blk_cell hv12 1; have y2 := blk_cell hv12 2; simp at y0 y1 y2; have x0 := blk_frozen HV12.out 0; have x1 := blk_frozen HV12.out 1; have x2 := blk_frozen HV12.out 2; have z0 := blk_cell HV12.out 0; have z1 := blk_cell HV12.out 1; have z2 := blk_cell HV12.out 2; simp at z0 z1 z2; clear hc hv12)
  generalize hq12 : w11.heap.size = q12 at *
  have HQ12 := Lib.hid hq12
  clear hW12 hq12 c0 c1 c2 c3 c4 c5 c6 c7 c8 u0 u1 u2 HCP
  obtain ⟨W13, hW13⟩ : ∃ W, ((W12.setCell ⟨q12, 0, none⟩ (.int .u64 (im.base + (dd : Int)))).setCell ⟨q12, 1, none⟩ (.int .i64 im.limit)).setCell ⟨q12, 2, none⟩ (.int .i64 im.order) = W := ⟨_, rfl⟩
  have HV13 := Lib.hid (show W13.heap[q12]? = some (.cells #[.int .u64 (im.base + (dd : Int)), .int .i64 im.limit, .int .i64 im.order, .int .i64 im.regions, .slice (some ⟨m1, 0, none⟩) im.mem.length a', .slice B' im.pages.length b', .slice C' im.pairs.length c', .slice (some ⟨m4, 0, none⟩) im.heads.length d', .slice E' im.parts.length e'] 31 (0, 0)) from by rw [← hW13]; exact blk_put (blk_put (blk_put HV12.out 0 _ rfl) 1 _ rfl) 2 _ rfl)
  have HB13 := Lib.hid (show Below q12 w11 W13 from by rw [← hW13]; exact ((HB12.out.setCell (Nat.le_refl _) _).setCell (Nat.le_refl _) _).setCell (Nat.le_refl _) _)
  have HD13 := Lib.hid (show W13.heap[m4]? = some (rowO .u64 22 im.heads) from (HB13.out.block m4 (by have := HC.out.n4.2; have := HQ12.out; omega)).trans HC.out.heads)
  go_upto_region 15 with (fail)
  clear hW13 x0 x1 x2 y0 y1 y2 z0 z1 z2
  have HNE := Lib.hid (show ¬ q12 = m4 ∧ ¬ q12 = m1 ∧ m1 < q12 ∧ m4 < q12 from by have h1 := HC.out.n1.2; have h4 := HC.out.n4.2; have := HQ12.out; omega)
  go_loopg [11, 65, 66, 67, 68, 69, 70, 71, 72, 73, 74, 75] im.heads.length (fun g v11 _ _ _ _ _ _ _ _ _ _ _ wi => ∃ (k : Nat), v11 = .int .i64 (k : Int) ∧ Aside0 (k + g = im.heads.length) ∧ Aside0 (Wr m4 (rowO .u64 22 (hdP (dd : Int) im.heads k)) W13 wi))
  case atStart => exact ⟨0, rfl, ⟨by omega⟩, ⟨Wr.refl (by rw [hdP_zero]; exact HD13.out)⟩⟩
  case round =>
    obtain ⟨k, rfl, hkg, hw⟩ := hrel
    have HW := Lib.hid hw.out
    have hv := (hw.out.upd.block q12 (blk_lt HV13.out) HNE.out.1).trans HV13.out
    have c7 := blk_cell hv 7
    simp at c7
    by_cases hk : k < im.heads.length
    case pos =>
      obtain ⟨t1, t2⟩ := lt_dec hk
      have hkI : (k : Int) < (im.heads.length : Int) := by omega
      obtain ⟨g1, rfl⟩ := lp_pos hkg.out hk
      have HG := Lib.hid (lp_step hkg.out)
      have n1 : wrap64 ((k : Int) + 1) = (k : Int) + 1 := up1 (by have := HWF.out.lheads; omega)
      obtain ⟨e1, f1⟩ := rowO_cell hw.out.at_ k (by rw [hdP_len]; exact hk)
      rw [hdP_at hk] at e1
      have HSK := Lib.hid (hdP_skip (d := (dd : Int)) hk)
      have HST := Lib.hid (hdP_set (d := (dd : Int)) hk)
      clear hk hkg hw hv
      generalize im.heads.getD k 0 = y at *
      by_cases h0 : y = 0
      case pos =>
        subst h0
        go_wp2
        go_roundg g1
        case measure => omega
        case rel => exact ⟨k + 1, by simp; try exact n1, ⟨HG.out⟩, ⟨by rw [← HSK.out (by first | rfl | trivial)]; exact HW.out⟩⟩
      have t3 : (y != 0) = true := by simpa using h0
      obtain ⟨u, hu⟩ : ∃ u, IntKind.u64.wrap (y + (dd : Int)) = u := ⟨_, rfl⟩
      have HU := Lib.hid (show sh (dd : Int) y = u from by unfold sh; rw [if_neg h0, ← hu, wrap_u64])
      clear h0
      go_wp2
      refine quiet_tail 10 (by kernel_rfl) (by kernel_rfl) ?_
      simp only [List.take_succ_cons, List.take_zero, List.drop_succ_cons, List.drop_zero]
      repeat (go_big_quiet_step (fail))
      refine wpQuiet_nil ?_
      intro wq hwq
      obtain ⟨nq, hwq⟩ := hwq
      subst hwq
      go_wp2
      go_roundg g1
      case measure => omega
      case rel => exact ⟨k + 1, by simp; try exact n1, ⟨HG.out⟩, ⟨by rw [← HST.out, HU.out]; exact (HW.out.drewN nq).put k u⟩⟩
    obtain ⟨t1, t2⟩ := nlt_dec hk
    obtain rfl : k = im.heads.length := by have := hkg.out; omega
    clear hk hkg hw hv
    have hw := HW.out
    rw [hdP_all] at hw
    have HW4 := Lib.hid hw
    go_upto_region 20 with (fail)
    have hsz14 := hw.size
    have HBA1 := Lib.hid (show Below WA.heap.size WA w11 ∧ WA.heap.size ≤ w10.heap.size ∧ w10.heap.size ≤ q12 from ⟨HBA.out.trans (HC.out.below.mono HBA.out.size), HBA.out.size, by have := HC.out.below.size; have := HQ12.out; omega⟩)
    have HB14 := Lib.hid (show Below WA.heap.size WA wr from (HBA1.out.1.trans (HB13.out.mono (by have := HBA1.out.2; omega))).trans (upd_below HW4.out.upd (fun b hb => by have := HC.out.n4.1; have := HBA1.out.2; omega) (by have := HBA1.out.2; have := blk_lt HV13.out; omega)))
    have HK14 := Lib.hid (show ∀ b, b < q12 → b ≠ m4 → wr.heap[b]? = w11.heap[b]? from fun b hb hn => (HW4.out.upd.block b (by have := blk_lt HV13.out; omega) hn).trans (HB13.out.block b hb))
    have HV14 := Lib.hid (show wr.heap[q12]? = some (.cells #[.int .u64 (im.base + (dd : Int)), .int .i64 im.limit, .int .i64 im.order, .int .i64 im.regions, .slice (some ⟨m1, 0, none⟩) im.mem.length a', .slice B' im.pages.length b', .slice C' im.pairs.length c', .slice (some ⟨m4, 0, none⟩) im.heads.length d', .slice E' im.parts.length e'] 31 (0, 0)) from (HW4.out.upd.block q12 (blk_lt HV13.out) HNE.out.1).trans HV13.out)
    have HM14 := Lib.hid (show wr.heap[m1]? = some (rowO .u8 5 im.mem) from (HK14.out m1 HNE.out.2.2.1 HC.out.ne).trans HC.out.mem)
    have HP14 := Lib.hid (show RowP (fun b => b < wr.heap.size ∧ b ≠ m1) wr B' im.pages from (HC.out.pages.keep (fun b hb => HK14.out b (by have := HQ12.out; omega) hb.2.2.2)).mono (fun b hb => ⟨by have := blk_lt HV14.out; have := HQ12.out; omega, hb.2.2.1⟩))
    clear hw hsz14 c7
    have hl1 : im.pages.length ≤ 9223372036854775807 := by have := HWF.out.lpages; omega
    generalize wr = W14 at *
    go_loopg [12, 13, 14, 15] im.pages.length (fun g v12 v13 v14 v15 wi => ∃ (k : Nat), v12 = .int .i64 (k : Int) ∧ Aside0 (k + g = im.pages.length) ∧ Aside0 (MvI W14 m1 (moveM (dd : Int) im.mem (placesTo im k)) wi))
    case atStart => exact ⟨0, rfl, ⟨by omega⟩, ⟨⟨Upd.refl _ _, blk_lt HM14.out, HM14.out⟩⟩⟩
    case round =>
      obtain ⟨k, rfl, hkg, hw⟩ := hrel
      have HW := Lib.hid hw.out
      have hv := (hw.out.upd.block q12 (blk_lt HV14.out) HNE.out.2.1).trans HV14.out
      have c4 := blk_cell hv 4
      have c5 := blk_cell hv 5
      simp at c4 c5
      by_cases hk : k < im.pages.length
      case pos =>
        obtain ⟨t1, t2⟩ := lt_dec hk
        have hkI : (k : Int) < (im.pages.length : Int) := by omega
        obtain ⟨g1, rfl⟩ := lp_pos hkg.out hk
        have HG := Lib.hid (lp_step hkg.out)
        have n1 : wrap64 ((k : Int) + 1) = (k : Int) + 1 := up1 (by have := HWF.out.lpages; omega)
        obtain ⟨ad, eB, -, -⟩ := HP14.out (Nat.lt_of_le_of_lt (Nat.zero_le _) hk)
        have HPR := Lib.hid (HP14.out.keep (w' := wr) (fun b hb => hw.out.upd.block b hb.1 hb.2))
        obtain ⟨p0, p1, p2, p3, p4, p5, p6, p7, p8, p9, p10⟩ := rowP_page (show RowP _ wr (some ad) im.pages from by have := HPR.out; rwa [eB] at this) k hk
        rw [eB] at c5
        have HPG := Lib.hid (show im.pages.getD k pg0 = im.pg k from rfl)
        rw [HPG.out] at p0 p1 p2 p3 p4 p5 p6 p7 p8 p9 p10
        obtain ⟨pa, hpa⟩ : ∃ n, 4096 * k = n := ⟨_, rfl⟩
        obtain ⟨pb, hpb⟩ : ∃ n, pa + 8 = n := ⟨_, rfl⟩
        obtain ⟨hpl, x1, x2⟩ := mv_place HG4.out.geo hk hpa hpb
        have HPA := Lib.hid hpa
        have HPB := Lib.hid hpb
        have HPL := Lib.hid hpl
        have HRN := Lib.hid (HG4.out.rng k hk)
        have HKL := Lib.hid hk
        have hWfk := HWF.out.pg hk
        have HWK := Lib.hid hWfk
        obtain ⟨W1, hW1⟩ : ∃ W, wr.alloc (pageO (im.pg k)) = W := ⟨_, rfl⟩
        have HQV := Lib.hid (show W1.heap[wr.heap.size]? = some (pageO (im.pg k)) from by rw [← hW1]; exact blk_new wr (pageO (im.pg k)))
        obtain ⟨q0, q1, q2, q3, q4, q5, q6, q7, q8, q9, q10⟩ := page_var HQV.out
        have HB1 := Lib.hid (show Below wr.heap.size wr W1 from by rw [← hW1]; exact (Below.refl _ _).alloc (Nat.le_refl _) _)
        have HSZ := Lib.hid (show m1 < wr.heap.size ∧ q12 < wr.heap.size from ⟨Nat.lt_of_lt_of_le hw.out.lt hw.out.upd.size, Nat.lt_of_lt_of_le (blk_lt HV14.out) hw.out.upd.size⟩)
        have HV1 := Lib.hid ((HB1.out.block q12 HSZ.out.2).trans hv)
        have d4 := blk_cell HV1.out 4
        simp at d4
        have HM1 := Lib.hid (show MvI W1 m1 (moveM (dd : Int) im.mem (placesTo im k)) W1 from ⟨Upd.refl _ _, Nat.lt_of_lt_of_le HSZ.out.1 HB1.out.size, (HB1.out.block m1 HSZ.out.1).trans hw.out.at_⟩)
        have HSH := Lib.hid (fun (wx : World) (M : List Int) (h1 : wx.heap[m1]? = some (rowO .u8 5 M)) (h2 : M.length = im.mem.length ∧ ∀ x ∈ M, 0 ≤ x ∧ x < 256) (off : Nat) (h3 : off + 8 ≤ im.mem.length) => shift_v (cap := a') h2.1 h1 h2.2 HWF.out.lmem h3 (show U64 (dd : Int) from by have := HDD.out; unfold U64; omega))
        have HML := Lib.hid (fun (l : List Nat) => (show (moveM (dd : Int) im.mem l).length = im.mem.length ∧ ∀ x ∈ moveM (dd : Int) im.mem l, 0 ≤ x ∧ x < 256 from ⟨moveM_len _ _ _, moveM_byte _ _ HWF.out.mem⟩))
        unfold pageO at hW1
        clear hk hkg hw hv hpl hWfk hpa hpb
        go_upto_region 23 with (fail)
        clear eB hW1 c4 c5 p0 p1 p2 p3 p4 p5 p6 p7 p8 p9 p10
        by_cases h0 : (im.pg k).kd = 0
        case pos =>
          have y0 : ((im.pg k).kd == 0) = true := by simpa using h0
          have y4 : ((im.pg k).kd == 4) = false := by rw [h0]; decide
          have HPF := Lib.hid (pl_free (d := (dd : Int)) h0)
          clear h0
          go_upto_region 25 with (go_at_call 23; refine (HSH.out W1 _ HM1.out.at_ (HML.out _) pa (by have := HPL.out; omega)).mono ?_; rintro e w2 ⟨rfl, hs2⟩; have HS2 := Lib.hid hs2; have HV2 := Lib.hid ((hs2.upd.block q12 (blk_lt HV1.out) HNE.out.2.1).trans HV1.out); have HQ2 := Lib.hid ((hs2.upd.block _ (blk_lt HQV.out) (by have := HSZ.out.1; omega)).trans HQV.out); have e4 := blk_cell HV2.out 4; simp at e4; obtain ⟨r0, r1, r2, r3, r4, r5, r6, r7, r8, r9, r10⟩ := page_var HQ2.out; clear hs2)
          clear d4 q0 q1 q2 q3 q4 q5 q6 q7 q8 q9 q10
          go_upto_region 26 with (go_at_call 23; refine (HSH.out w2 _ HS2.out.at_ ⟨by rw [shiftM_len]; exact (HML.out _).1, shiftM_byte (HML.out _).2 _ _⟩ pb (by have := HPL.out; have := HPB.out; omega)).mono ?_; rintro e w3 ⟨rfl, hs3⟩; have HS3 := Lib.hid hs3; have HQ3 := Lib.hid ((hs3.upd.block _ (blk_lt HQ2.out) (by have := HSZ.out.1; omega)).trans HQ2.out); obtain ⟨s0, s1, s2, s3, s4, s5, s6, s7, s8, s9, s10⟩ := page_var HQ3.out; clear hs3)
          clear e4 r0 r1 r2 r3 r4 r5 r6 r7 r8 r9 r10
          go_wp2
          go_roundg g1
          case measure => omega
          case rel => exact ⟨k + 1, by simp; try exact n1, ⟨HG.out⟩, ⟨by rw [HPF.out, HPA.out, HPB.out]; exact ((HW.out.later HB1.out).shift HS2.out).shift HS3.out⟩⟩
        have y0 : ((im.pg k).kd == 0) = false := by simpa using h0
        by_cases h4 : (im.pg k).kd = 4
        case neg =>
          have y4 : ((im.pg k).kd == 4) = false := by simpa using h4
          have HPO := Lib.hid (pl_other h0 h4)
          clear h0 h4
          go_wp2
          go_roundg g1
          case measure => omega
          case rel => exact ⟨k + 1, by simp; try exact n1, ⟨HG.out⟩, ⟨by rw [HPO.out]; exact HW.out.later HB1.out⟩⟩
        have y4 : ((im.pg k).kd == 4) = true := by simpa using h4
        have HPS := Lib.hid (pl_slab (d := (dd : Int)) h4)
        have hcl := HRN.out.cl
        obtain ⟨cl, hcl', hcl7, -, -, hnz⟩ := cell_page hcl.1 hcl.2
        obtain ⟨n, hn⟩ : ∃ n, cellsN (im.pg k).cl = n := ⟨_, rfl⟩
        obtain ⟨z, hz⟩ : ∃ z, cellZ (im.pg k) = z := ⟨_, rfl⟩
        have hz2 : 16 * 2 ^ (im.pg k).cl.toNat = z := hz
        rw [hn, hz2] at hnz
        rw [hcl', Int.toNat_natCast] at hz2
        obtain ⟨s1, s2, s3, s4, s5, s6, s7, s8⟩ := quo_nums hcl7 hz2 hnz
        rw [hcl'] at q2
        have HN := Lib.hid hn
        have HZ := Lib.hid hz
        have HNZ := Lib.hid hnz
        have HN8 := Lib.hid s8
        have s9 : ¬ z = 0 := fun e0 => s3 (by rw [e0]; rfl)
        have HZ16 := Lib.hid (show 16 ≤ z from by rw [← hz2]; exact Nat.le_mul_of_pos_right 16 (Nat.pow_pos (by decide)))
        clear h0 h4 hcl hcl' hn hz hz2 hnz s7 s8
        go_upto_region 29 with (fail)
        rw [s1]
        clear s1 s2 d4 q0 q1 q2 q3 q4 q5 q6 q7 q8 q9 q10
        go_loopg [15] n (fun g v15 wi => ∃ (c : Nat), v15 = .int .i64 (c : Int) ∧ Aside0 (c + g = n) ∧ Aside0 (MvI W1 m1 (moveM (dd : Int) im.mem (placesTo im k ++ cellPl im k c)) wi))
        case atStart => exact ⟨0, rfl, ⟨by omega⟩, ⟨by rw [cellPl, List.append_nil]; exact HM1.out⟩⟩
        case round =>
          obtain ⟨c, rfl, hcg, hm⟩ := hrel
          have HMW := Lib.hid hm.out
          by_cases hc : c < n
          case pos =>
            obtain ⟨t3, t4⟩ := lt_dec hc
            obtain ⟨g2, rfl⟩ := lp_pos hcg.out hc
            have HG2 := Lib.hid (lp_step hcg.out)
            obtain ⟨q, hq, hqc, hq3, hqI, n2⟩ := cell_bits hc HN8.out
            have hQ3 := (hm.out.upd.block _ (blk_lt HQV.out) (by have := HSZ.out.1; omega)).trans HQV.out
            obtain ⟨x, hx, hxu, hxc⟩ := wd_cell hQ3 HWK.out hqc
            have hv3 := (hm.out.upd.block q12 (blk_lt HV1.out) HNE.out.2.1).trans HV1.out
            have d4 := blk_cell hv3 4
            simp at d4
            obtain ⟨zc, pc, hzc, hpc, u1, u2, u3⟩ := cell_nums hc HNZ.out HN8.out HPL.out HWF.out.lmem
            have HZC := Lib.hid (And.intro hzc (And.intro hpc u3))
            have HXX := Lib.hid (And.intro hx (And.intro hxu hq))
            clear hc hcg hm hq hQ3 hx hxu hv3 hzc hpc u3
            rcases Bool.eq_false_or_eq_true ((im.pg k).bit c) with hbt | hbt
            · have hba := bit_one HXX.out.1 HXX.out.2.1 HXX.out.2.2 rfl hbt
              have HBT := Lib.hid (pl_live hbt)
              clear hbt u1 u2
              go_wp2
              go_roundg g2
              case measure => exact Nat.lt_succ_self _
              case rel => exact ⟨c + 1, by simp; try exact n2, ⟨HG2.out⟩, ⟨by rw [HBT.out]; exact HMW.out⟩⟩
            · have hba := bit_zero HXX.out.1 HXX.out.2.1 HXX.out.2.2 rfl hbt
              have HBT := Lib.hid (pl_cell (d := (dd : Int)) (l := placesTo im k) hbt)
              clear hbt
              go_wp2_with (go_at_call 23; refine (HSH.out wr _ HMW.out.at_ (HML.out _) pc (cell_fits HPL.out HZC.out.2 HZ16.out)).mono ?_; rintro e w2 ⟨rfl, hs2⟩; have HS2 := Lib.hid hs2; clear hs2)
              go_roundg g2
              case measure => exact Nat.lt_succ_self _
              case rel => exact ⟨c + 1, by simp; try exact n2, ⟨HG2.out⟩, ⟨by rw [HBT.out, HPA.out, HZ.out, HZC.out.1, HZC.out.2.1]; exact HMW.out.shift HS2.out⟩⟩
          obtain ⟨t3, t4⟩ := nlt_dec hc
          have hcn := lp_end hcg.out hc
          have HCN := Lib.hid hcn
          clear hc hcg hm hcn
          go_wp2
          go_roundg g1
          case measure => exact Nat.lt_succ_self _
          case rel => exact ⟨k + 1, by simp; try exact n1, ⟨HG.out⟩, ⟨by rw [HPS.out, HN.out, ← HCN.out]; exact HW.out.trans HB1.out HMW.out⟩⟩
      obtain ⟨t1, t2⟩ := nlt_dec hk
      have hkn : k = im.n := lp_end hkg.out hk
      have hSD := move_sound HWF.out HS.out HG4.out (show Mv im (dd : Int) from ⟨Int.natCast_nonneg _, by have := HDD.out.2; omega, by have := HDD.out.1; omega⟩) HRB.out
      have HSD := Lib.hid hSD
      have HWM := Lib.hid (move_wf (d := (dd : Int)) HWF.out ⟨Int.natCast_nonneg _, by have := HDD.out.1; omega⟩ HB63.out.2)
      have HM15 := Lib.hid (show wr.heap[m1]? = some (rowO .u8 5 (im.move (dd : Int)).mem) from by have := hw.out.at_; rw [hkn] at this; exact this)
      have HD15 := Lib.hid (show wr.heap[m4]? = some (rowO .u64 22 (im.move (dd : Int)).heads) from (hw.out.upd.block m4 (by have := blk_lt HV14.out; have := HNE.out.2.2.2; omega) (Ne.symm HC.out.ne)).trans HW4.out.at_)
      have HB15 := Lib.hid (show Below WA.heap.size WA wr from HB14.out.trans (upd_below hw.out.upd (fun b hb => by have := HC.out.n1.1; have := HBA1.out.2; omega) HB14.out.size))
      have HV15 := Lib.hid hv
      have HL15 := Lib.hid (show w11.heap.size < wr.heap.size from by have := blk_lt hv; have := HQ12.out; omega)
      have HK15 := Lib.hid (show ∀ b, b < w11.heap.size → b ≠ m1 → b ≠ m4 → wr.heap[b]? = w11.heap[b]? from fun b hb h1 h4 => (hw.out.upd.block b (by have := blk_lt HV14.out; have := HQ12.out; omega) h1).trans (HK14.out b (by have := HQ12.out; omega) h4))
      have HIM := Lib.hid (fun (wx : World) (hx : Below wr.heap.size wr wx) => (HC.out.moved HWM.out HK15.out HM15.out HD15.out).keep (w' := wx) (fun b hb => hx.block b (Nat.lt_trans hb.2 HL15.out)))
      have HFT := Lib.hid (fun (wx : World) (hx : Below wr.heap.size wr wx) => show ∀ b, (w10.heap.size ≤ b ∧ b < w11.heap.size) → b < wx.heap.size from fun b hb => Nat.lt_trans hb.2 (Nat.lt_of_lt_of_le HL15.out hx.size))
      have HIS := Lib.hid (fun (wx : World) (hx : Below wr.heap.size wr wx) => is_t (HIM.out wx hx) (HFT.out wx hx) (check_sound HSD.out))
      have HTB := Lib.hid (fun (wx : World) (hx : Below wr.heap.size wr wx) => show Calls Try.prog 12 _ wx (fun e w' => ∃ A cap, e = .returned (.slice A im.blocks.length cap) ∧ RowB (fun b => wx.heap.size ≤ b ∧ b < w'.heap.size) w' A (im.blocks.map (fun b => (b.1 + (dd : Int), b.2))) ∧ Below wx.heap.size wx w') from by
        have := Blocks_c (HIM.out wx hx) (HFT.out wx hx)
        unfold BlocksP at this
        rw [move_told HSD.out, List.length_map] at this
        exact this.mono (fun e w' ⟨A, cap, h1, _, h2, h3⟩ => ⟨A, cap, h1, h2, h3⟩))
      simp only [move_cellsV] at HIS HTB
      have HBV := Lib.hid (fun (k : Nat) (hk : k < im.blocks.length) => blk_move HG4.out.geo (blocks_ok HG4.out (mem_getD hk)) HDD.out.1)
      clear hk hkg hw hv hkn hSD c4 c5
      generalize wr = W15 at *
      have x5 := blk_cell HV15.out 5
      simp at x5
      obtain ⟨c0, c1, c2, c3, c4, c5, c6, c7, c8⟩ := (HVL.out W15 HB15.out).cell
      dsimp only at c0 c1 c2 c3 c4 c5 c6 c7 c8
      go_upto_region 34 with (go_at_call 12; refine (HBK.out W15 HB15.out).mono ?_; rintro e w16 ⟨A1, cap1, rfl, hc1, hr1, hb16⟩; have HR1 := Lib.hid hr1; have HB16 := Lib.hid hb16; have HN := fun i => blk_cell ((hb16.block _ (blk_lt HV15.out)).trans HV15.out) i; have d0 := HN 0; have d1 := HN 1; have d2 := HN 2; have d3 := HN 3; have d4 := HN 4; have d5 := HN 5; have d6 := HN 6; have d7 := HN 7; have d8 := HN 8; clear HN hc1 hr1 hb16; simp at d0 d1 d2 d3 d4 d5 d6 d7 d8)
      clear c0 c1 c2 c3 c4 c5 c6 c7 c8
      go_upto_region 35 with (go_at_call 12; refine (HTB.out w16 HB16.out).mono ?_; rintro e w17 ⟨A2, cap2, rfl, hr2, hb17⟩; have HR2 := Lib.hid hr2; have HS17 := Lib.hid hb17.size; have HB17 := Lib.hid (HB16.out.trans (hb17.mono HB16.out.size)); have HN := fun i => blk_cell ((HB17.out.block _ (blk_lt HV15.out)).trans HV15.out) i; have e0 := HN 0; have e1 := HN 1; have e2 := HN 2; have e3 := HN 3; have e4 := HN 4; have e5 := HN 5; have e6 := HN 6; have e7 := HN 7; have e8 := HN 8; have HR1 := Lib.hid (HR1.out.keep (w' := w17) (fun b hb => hb17.block b hb.2)); clear HN hr2 hb17; simp at e0 e1 e2 e3 e4 e5 e6 e7 e8)
      clear d0 d1 d2 d3 d4 d5 d6 d7 d8
      have t9 : ((im.blocks.length : Int) != (im.blocks.length : Int)) = false := by simp
      go_upto_region 38 with (go_at_call 13; refine (HIS.out w17 HB17.out).mono ?_; rintro e w18 ⟨rfl, hb18⟩; have HB18 := Lib.hid (HB17.out.trans (hb18.mono HB17.out.size)); have HR1 := Lib.hid (HR1.out.keep (w' := w18) (fun b hb => hb18.block b (Nat.lt_of_lt_of_le hb.2 HS17.out))); have HR2 := Lib.hid (HR2.out.keep (w' := w18) (fun b hb => hb18.block b hb.2)); clear hb18)
      clear e0 e1 e2 e3 e4 e5 e6 e7 e8
      go_loopg [18, 156, 157, 158, 159, 160, 161, 162, 163, 164, 165, 166, 167, 168, 169, 170, 171, 172, 173, 174, 175, 176, 177, 178, 179, 180, 181] im.blocks.length (fun g v18 _ _ _ _ _ _ _ _ _ _ _ _ _ _ _ _ _ _ _ _ _ _ _ _ _ _ wi => ∃ (k : Nat), v18 = .int .i64 (k : Int) ∧ Aside0 (k + g = im.blocks.length) ∧ Aside0 (∃ n, wi = w18.drewN n))
      case atStart => exact ⟨0, rfl, ⟨by omega⟩, ⟨0, rfl⟩⟩
      case round =>
        obtain ⟨k, rfl, hkg, hn⟩ := hrel
        obtain ⟨n, rfl⟩ := hn.out
        by_cases hk : k < im.blocks.length
        case neg =>
          obtain ⟨t3, t4⟩ := nlt_dec hk
          clear hk hkg hn
          go_wp2
          go_ret
          exact ⟨rfl, HBL.out _ (HB15.out.trans ((pw_below_drewN HB18.out n).mono HB15.out.size))⟩
        obtain ⟨t3, t4⟩ := lt_dec hk
        have hkI : (k : Int) < (im.blocks.length : Int) := by omega
        obtain ⟨g1, rfl⟩ := lp_pos hkg.out hk
        have HG := Lib.hid (lp_step hkg.out)
        have n1 : wrap64 ((k : Int) + 1) = (k : Int) + 1 := up1 (by have := HTL.out; omega)
        obtain ⟨aa, eA, -, hxa⟩ := HR1.out (Nat.lt_of_le_of_lt (Nat.zero_le _) hk)
        obtain ⟨ab, eB, -, hxb⟩ := HR2.out (by rw [List.length_map]; exact Nat.lt_of_le_of_lt (Nat.zero_le _) hk)
        obtain ⟨a0, a1⟩ := hxa k hk
        obtain ⟨b0, b1⟩ := hxb k (by rw [List.length_map]; exact hk)
        rw [map_at hk] at b0 b1
        have hwb := HBV.out k hk
        subst eA eB
        clear hxa hxb hk hkg hn
        generalize im.blocks.getD k (0, 0) = bb at *
        obtain ⟨q, z⟩ := bb
        dsimp only at a0 a1 b0 b1 hwb
        go_wp2
        go_quiet (fail)
        go_wp2
        go_roundg g1
        case measure => omega
        case rel => exact ⟨k + 1, by simp; try exact n1, ⟨HG.out⟩, ⟨_, by first | rfl | exact World.drewN_drewN _ _ _⟩⟩
end
end Go.Proofs.Ytkgedpcipaogjaa.WB
