/- Part 2 of what the rows of this seat rest on: words of the print that they need; how images, spaces, sets lie in memory; the functions walked. -/
import Derived.Test.YtkgedpcipaogjaaC1
import Derived.Test.YtkgedpcipaogjaaZ1
import Derived.Test.YtkgedpcipaogjaaZ2
import Derived.Test.YtkgedpcipaogjaaZ3
import Derived.Test.YtkgedpcipaogjaaZ4
import Derived.Test.YtkgedpcipaogjaaZ5
import Derived.Test.YtkgedpcipaogjaaZ6
import Derived.Test.YtkgedpcipaogjaaZ7
import Derived.Test.YtkgedpcipaogjaaZ8
import Derived.Test.YtkgedpcipaogjaaZ9
import Derived.Test.YtkgedpcipaogjaaZ10
import Derived.Test.YtkgedpcipaogjaaZ11
import Derived.Test.YtkgedpcipaogjaaZ12
namespace Go.Proofs.Ytkgedpcipaogjaa.WB
open Go Go.RowKit Go.Proofs.YtkgedpcipaogjaaW.PrintWords Go.Proofs.YtkgedpcipaogjaaW.PrintLast Go.Proofs.YtkgedpcipaogjaaW.PrintMore
set_option linter.unusedVariables false
set_option linter.unusedSimpArgs false
theorem fb_all {res : Nat → Option Int} : ∀ (d k : Nat), (∀ j, k ≤ j → j < k + d → res j = none) → firstBad res d k = (0, 0)
  | 0, _, _ => rfl
  | d + 1, k, h => by
    rw [firstBad, h k (Nat.le_refl _) (by omega)]
    exact fb_all d (k + 1) (fun j h1 h2 => h j (by omega) (by omega))
theorem check_sound {im : Im} (h : Sound im) : im.check = (0, 0) := fb_all 11 0 (fun j _ hj => h j (by omega))
theorem turn_sound {im : Im} {o r : Nat} (g : Geo im o r) {a : Nat} {v : Int} (h : NoLink im a) (hs : Sound im) : Sound (im.turn a v) := fun k hk => by rw [turn_res g h]; exact hs k hk
theorem turn_told {im : Im} {o r : Nat} (g : Geo im o r) {a : Nat} {v : Int} (h : NoLink im a) (hs : Sound im) : (im.turn a v).told = im.blocks := by
  unfold Im.told
  rw [check_sound (turn_sound g h hs), if_pos rfl, turn_blocks]
theorem turn_cellsV (im : Im) (a : Nat) (v : Int) (s : Sl) : (im.turn a v).cells s = im.cells s := by simp [Im.cells, Im.turn]
theorem turn_wf {im : Im} (h : im.Wf) (a : Nat) {v : Int} (hv : 0 ≤ v ∧ v < 256) : (im.turn a v).Wf :=
  ⟨h.base, h.limit, h.order, h.regions, fun x hx => (List.mem_or_eq_of_mem_set hx).elim (fun hx => h.mem x hx) (fun hx => hx ▸ hv), h.pages, h.pairs, h.heads, h.parts, by simpa [Im.turn] using h.lmem, h.lpages, h.lpairs, h.lrows, h.lheads, h.lparts⟩
theorem rowO_set {w : World} {m : Nat} {kd : IntKind} {t : TypeId} {L : List Int} (h : w.heap[m]? = some (rowO kd t L)) (k : Nat) (x : Int) : (w.setCell ⟨m, k, none⟩ (.int kd x)).heap[m]? = some (rowO kd t (L.set k x)) := by
  unfold rowO at h ⊢
  refine blk_put h k _ ?_
  simp [List.map_set]
theorem Cpy.turn {w w' W : World} {im : Im} {s' : Sl} {m1 m4 : Nat} (h : Cpy w w' im s' m1 m4) (hw : im.Wf) (hb : Below w'.heap.size w' W) (a : Nat) {v : Int} (hv : 0 ≤ v ∧ v < 256) :
    ImAt (fun b => w.heap.size ≤ b ∧ b < w'.heap.size) (W.setCell ⟨m1, a, none⟩ (.int .u8 v)) (im.turn a v) s' := by
  have hk : ∀ b, b < w'.heap.size → b ≠ m1 → (W.setCell ⟨m1, a, none⟩ (.int .u8 v)).heap[b]? = w'.heap[b]? := fun b h1 h2 => (Below.heap_setCell W _ _ _ h2).trans (hb.block b h1)
  refine ⟨?_, (h.pages.keep (fun b hb => hk b hb.2.1 hb.2.2.1)).mono (fun b hb => ⟨hb.1, hb.2.1⟩), (h.pairs.keep (fun b hb => hk b hb.2.1 hb.2.2.1)).mono (fun b hb => ⟨hb.1, hb.2.1⟩), ?_, (h.parts.keep (fun b hb => hk b hb.2.1 hb.2.2.1)).mono (fun b hb => ⟨hb.1, hb.2.1⟩), by simpa [Im.turn] using h.cmem, h.cpages, h.cpairs, h.cheads, h.cparts, turn_wf hw a hv⟩
  · rw [h.A]
    exact (rowO_row (rowO_set ((hb.block m1 h.n1.2).trans h.mem) a v)).mono (fun b hb => hb ▸ h.n1)
  · rw [h.D]
    exact (rowO_row ((hk m4 h.n4.2 (Ne.symm h.ne)).trans h.heads)).mono (fun b hb => hb ▸ h.n4)
theorem geo_fit {im : Im} {o r : Nat} (g : Geo im o r) (hw : im.Wf) : im.Fit := by
  have h1 := g.n1024
  have h2 := g.mem
  have h3 := g.n
  have h4 := g.o8
  unfold Im.n at h1 h3
  refine ⟨by omega, by omega, by rw [g.pairs]; omega, fun l hl => ?_, by rw [g.heads]; omega, by rw [g.parts]; omega⟩
  obtain ⟨k, hk, rfl⟩ := List.getElem_of_mem hl
  have hr := g.rows k (by rw [← g.pairs]; exact hk)
  unfold Im.row Im.np at hr
  rw [List.getD_eq_getElem?_getD, List.getElem?_eq_getElem hk] at hr
  have hd : im.n / 2 ^ (k + 1) ≤ im.n := Nat.div_le_self _ _
  have h5 : (im.pairs[k]).length ≤ 1024 := by
    have e : (im.pairs[k]).length = (im.n / 2 ^ (k + 1) + 63) / 64 := hr
    rw [e]
    unfold Im.n at hd ⊢
    generalize im.pages.length / 2 ^ (k + 1) = y at *
    omega
  omega
theorem pg_nums {im : Im} {o r : Nat} (g : Geo im o r) {at_ pgi m : Nat} (ha : at_ < im.mem.length) (hp : at_ / 4096 = pgi) (hm : at_ % 4096 = m) : Int.tdiv (at_ : Int) 4096 = (pgi : Int) ∧ IntKind.u64.wrap (pgi : Int) = (pgi : Int) ∧ Int.tmod (at_ : Int) 4096 = (m : Int) ∧ pgi < im.pages.length ∧ IntKind.u64.wrap (m : Int) = (m : Int) ∧ (at_ : Int) / 4096 = (pgi : Int) := by
  have h1 := g.mem
  have h2 := g.n
  have h3 := g.n1024
  unfold Im.n at h2 h3
  have e1 : (at_ : Int) / 4096 = (pgi : Int) := by omega
  exact ⟨by rw [Int.tdiv_eq_ediv_of_nonneg (by omega)]; exact e1, wrap_u64_in (by omega) (by omega), by rw [Int.tmod_eq_emod_of_nonneg (by omega)]; omega, by omega, wrap_u64_in (by omega) (by omega), e1⟩
theorem shl_nums {p : Pg} {cl z : Nat} (hc : p.cl = cl) (h7 : cl ≤ 7) (hz : cellZ p = z) : IntKind.u64.wrap (16 * (2 : Int) ^ cl) = (z : Int) ∧ min cl 64 = cl ∧ ¬ (z : Int) = 0 ∧ ¬ z = 0 := by
  unfold cellZ at hz
  rw [hc, Int.toNat_natCast] at hz
  subst hz
  have h : cl = 0 ∨ cl = 1 ∨ cl = 2 ∨ cl = 3 ∨ cl = 4 ∨ cl = 5 ∨ cl = 6 ∨ cl = 7 := by omega
  rcases h with rfl | rfl | rfl | rfl | rfl | rfl | rfl | rfl <;> exact ⟨by decide, by decide, by decide, by decide⟩
theorem rem_nums {a z mz n : Nat} (h : a % z = mz) (ha : a < n) (hn : n ≤ 140737488355328) : Int.tmod (a : Int) (z : Int) = (mz : Int) ∧ IntKind.u64.wrap (mz : Int) = (mz : Int) ∧ (a : Int) % (z : Int) = (mz : Int) := by
  have e : (a : Int) % (z : Int) = (mz : Int) := by rw [← h]; rfl
  have h1 : mz ≤ a := by rw [← h]; exact Nat.mod_le a z
  exact ⟨by rw [Int.tmod_eq_emod_of_nonneg (Int.natCast_nonneg a)]; exact e, wrap_u64_in (by omega) (by omega), e⟩
theorem blk_in {im : Im} {o r : Nat} (g : Geo im o r) {b : Int × Int} (h : BlkOk im o b) {at_ : Nat} {p : Int} (hp : im.base + (at_ : Int) = p) (ha : at_ < im.mem.length) : b.1 ≤ p → IntKind.u64.wrap (p - b.1) = p - b.1 ∧ True := fun hq => by
  have h1 := h.low
  have h2 := g.base0
  have h3 := g.top
  exact ⟨wrap_u64_in (by omega) (by omega), trivial⟩
theorem blk_cells {F : Nat → Prop} {W wx : World} {a : Nat} {A : Option Addr} {bs : List (Int × Int)} (h : RowB (fun b => a ≤ b ∧ b < W.heap.size) W A bs) (hx : Below W.heap.size W wx) {k : Nat} (hk : k < bs.length) : ∀ aa, A = some aa → wx.cell? (aa.add (k * 2)) = some (.int .u64 (bs.getD k (0, 0)).1) ∧ wx.cell? ⟨(aa.add (k * 2)).block, (aa.add (k * 2)).off + 1, none⟩ = some (.int .u64 (bs.getD k (0, 0)).2) := fun aa ha => by
  obtain ⟨aa', eA, -, hxa⟩ := (h.keep (w' := wx) (fun b hb => hx.block b hb.2)) (Nat.lt_of_le_of_lt (Nat.zero_le _) hk)
  rw [ha] at eA
  cases eA
  exact hxa k hk
theorem bytes_nums {at_ n : Nat} {off base : Int} (hat : (at_ : Int) = off % (n : Int)) (hn : ¬ n = 0) (ho : U64 off) (hl : n ≤ 140737488355328) (hb : 0 < base) (ht : base + n ≤ 9223372036854775808) :
    Int.tmod off (n : Int) = (at_ : Int) ∧ off % (n : Int) = (at_ : Int) ∧ IntKind.u64.wrap (n : Int) = (n : Int) ∧ IntKind.u64.wrap (at_ : Int) = (at_ : Int) ∧ IntKind.u64.wrap (base + (at_ : Int)) = base + (at_ : Int) ∧ at_ < n := by
  have h1 : (at_ : Int) < (n : Int) := by rw [hat]; exact Int.emod_lt_of_pos off (by omega)
  refine ⟨by rw [Int.tmod_eq_emod_of_nonneg ho.1]; exact hat.symm, hat.symm, wrap_u64_in (by omega) (by omega), wrap_u64_in (by omega) (by omega), wrap_u64_in (by omega) (by omega), by omega⟩
section
variable {F : Nat → Prop} {im : Im} {s : Sl} {w : World}
set_option maxRecDepth 100000 in
set_option maxHeartbeats 8000000 in
theorem bytes_core (h : ImAt F w im s) (hF : ∀ b, F b → b < w.heap.size) {off v : Int} (hoff : U64 off) (hv : 0 ≤ v ∧ v < 256) : Calls Try.prog 6 #[.agg (im.cells s), .int .u64 off, .int .u8 v] w (DocP w (.bool true)) := by
  obtain ⟨A, a, B, b, C, c, D, d, E, e⟩ := s
  obtain ⟨WA, hWA⟩ : ∃ W, w.alloc (imO im ⟨A, a, B, b, C, c, D, d, E, e⟩) = W := ⟨_, rfl⟩
  obtain ⟨hsa, hbl, hvl⟩ := box_facts h hF hWA
  have HBL := Lib.hid hbl
  have HVL := Lib.hid hvl
  have HFA := Lib.hid (show ∀ b, F b → b < WA.heap.size from fun b hb => by have := hF b hb; omega)
  have HWF := Lib.hid h.wf
  have hl := len_i64 h.wf
  obtain ⟨c0, c1, c2, c3, c4, c5, c6, c7, c8⟩ := (hvl WA (Below.refl _ _)).cell
  dsimp only at c0 c1 c2 c3 c4 c5 c6 c7 c8
  unfold imO Im.cells at hWA
  unfold Im.cells
  clear h hF hvl hbl
  have HAW := Lib.hid awake_ok
  have HF2 := Lib.hid (fun (wx : World) (hx : Below WA.heap.size WA wx) => (show ∀ b, F b → b < wx.heap.size from fun b hb => Nat.lt_of_lt_of_le (HFA.out b hb) hx.size))
  have HCK := Lib.hid (fun (wx : World) (hx : Below WA.heap.size WA wx) => checkIm_c (HVL.out wx hx).im (HF2.out wx hx))
  have HBK := Lib.hid (fun (wx : World) (hx : Below WA.heap.size WA wx) => Blocks_c (HVL.out wx hx).im (HF2.out wx hx))
  have HTL := Lib.hid (told_len HWF.out)
  have HVV := Lib.hid hv
  unfold Im.cells at HBK HCK
  dsimp only at HBK HCK
  clear hl
  obtain ⟨⟨a1, a2⟩, ha⟩ : ∃ b, im.check = b := ⟨_, rfl⟩
  rw [ha] at HCK
  have HCE := Lib.hid ha
  have hlm : im.mem.length ≤ 9223372036854775807 := by have := HWF.out.lmem; omega
  have hl9 : im.told.length ≤ 9223372036854775807 := by have := HTL.out; omega
  clear ha
  go_enter Try.func6, Try.ntmps6
  go_upto_region 5 with (first
    | (go_at_call 11; refine (HAW.out _).mono ?_; rintro e w4 ⟨rfl, hb4⟩; have HB4 := Lib.hid hb4; obtain ⟨d0, d1, d2, d3, d4, d5, d6, d7, d8⟩ := (HVL.out w4 HB4.out).cell; dsimp only at d0 d1 d2 d3 d4 d5 d6 d7 d8; clear hb4 c0 c1 c2 c3 c4 c5 c6 c7 c8)
    | (go_at_call 18; refine (HCK.out w4 HB4.out).mono ?_; rintro e w5 ⟨rfl, hb5⟩; have HB5 := Lib.hid (HB4.out.trans (hb5.mono HB4.out.size)); obtain ⟨e0, e1, e2, e3, e4, e5, e6, e7, e8⟩ := (HVL.out w5 HB5.out).cell; dsimp only at e0 e1 e2 e3 e4 e5 e6 e7 e8; clear hb5 d0 d1 d2 d3 d4 d5 d6 d7 d8)
    | (go_at_call 12; refine (HBK.out w5 HB5.out).mono ?_; rintro e w6 ⟨A1, cap1, rfl, hc1, hr1, hb6⟩; have HR1 := Lib.hid hr1; have HB6 := Lib.hid (HB5.out.trans (hb6.mono HB5.out.size)); obtain ⟨f0, f1, f2, f3, f4, f5, f6, f7, f8⟩ := (HVL.out w6 HB6.out).cell; dsimp only at f0 f1 f2 f3 f4 f5 f6 f7 f8; clear hc1 hr1 hb6 e0 e1 e2 e3 e4 e5 e6 e7 e8))
  clear hWA
  by_cases hz : a1 = 0
  case neg =>
    have ht : im.told = [] := by unfold Im.told; rw [HCE.out, if_neg hz]
    have t1 : (a1 != 0) = true := by simpa using hz
    rw [ht]
    go_wp2
    go_ret
    exact ⟨rfl, HBL.out _ HB6.out⟩
  have hs : Sound im := check_zero (by rw [HCE.out]; exact hz)
  have ha2 : a2 = 0 := by have := check_sound hs; rw [HCE.out] at this; injection this
  have ht : im.told = im.blocks := by unfold Im.told; rw [HCE.out, if_pos hz]
  obtain ⟨o, r, g⟩ := base4 HWF.out (hs 0 (by decide)) (hs 1 (by decide)) (hs 2 (by decide)) (hs 3 (by decide))
  have HG4 := Lib.hid g
  have HS := Lib.hid hs
  subst ha2
  subst hz
  rw [ht] at HR1 HTL hl9
  rw [ht]
  by_cases hm : im.mem.length = 0
  case pos =>
    have hn : im.n = 0 := by have h1 := g.geo.mem; have h2 := g.geo.n; omega
    have hb : im.blocks = [] := by unfold Im.blocks; rw [hn]; rfl
    have t2 : ((im.mem.length : Int) == 0) = true := by simpa using hm
    have t3 : (im.mem.length == 0) = true := by simpa using hm
    rw [hb]
    clear g hs hn hb ht
    go_wp2
    go_ret
    exact ⟨rfl, HBL.out _ HB6.out⟩
  have t2 : ((im.mem.length : Int) == 0) = false := by simpa using hm
  have t3 : (im.mem.length == 0) = false := by simpa using hm
  obtain ⟨at_, hat⟩ : ∃ a : Nat, (a : Int) = off % (im.mem.length : Int) := ⟨(off % (im.mem.length : Int)).toNat, by have := Int.emod_nonneg off (show (im.mem.length : Int) ≠ 0 by omega); omega⟩
  obtain ⟨n1, n2, n3, n4, n5, n6⟩ := bytes_nums hat hm hoff HWF.out.lmem g.geo.base0 g.geo.top
  have hmI : ¬ (im.mem.length : Int) = 0 := by omega
  obtain ⟨p, hp⟩ : ∃ p, im.base + (at_ : Int) = p := ⟨_, rfl⟩
  replace n5 := n5.trans hp
  have HP := Lib.hid hp
  have HM := Lib.hid hm
  have HAT := Lib.hid n6
  have HBN := Lib.hid (fun (k : Nat) (hk : k < im.blocks.length) => blk_in g.geo (blocks_ok g (mem_getD hk)) hp n6)
  have HXX := Lib.hid (fun (wx : World) (hx : Below w6.heap.size w6 wx) (k : Nat) (hk : k < im.blocks.length) => blk_cells (F := fun _ => True) HR1.out hx hk)
  clear g hs ht hat hp hm
  go_upto_region 13 with (fail)
  clear n1 n2 n3 n4 n5 n6 hmI t2 t3 f0 f1 f2 f3 f4 f5 f6 f7 f8
  go_loopg [12, 13, 48, 49, 50, 51, 52, 53, 54, 55, 56, 57, 58, 59, 60, 61, 62, 63, 64, 65, 66, 67, 68, 69, 70, 71, 72, 73, 74, 75] im.blocks.length (fun g v12 v13 _ _ _ _ _ _ _ _ _ _ _ _ _ _ _ _ _ _ _ _ _ _ _ _ _ _ _ _ wi => ∃ (k : Nat) (bd : Bool), v12 = .bool bd ∧ v13 = .int .i64 (k : Int) ∧ Aside0 (k + g = im.blocks.length) ∧ Aside0 (Below w6.heap.size w6 wi) ∧ Aside0 (bd = false → ∃ b ∈ im.blocks, b.1 ≤ p ∧ p - b.1 < b.2))
  case atStart => exact ⟨0, true, rfl, rfl, ⟨by omega⟩, ⟨Below.refl _ _⟩, ⟨fun h => by cases h⟩⟩
  case round =>
    obtain ⟨k, bd, rfl, rfl, hkg, hbl, hbd⟩ := hrel
    have HBW := Lib.hid hbl.out
    have HBD := Lib.hid hbd.out
    by_cases hk : k < im.blocks.length
    case neg =>
      obtain ⟨t1, t2⟩ := nlt_dec hk
      clear hk hkg hbl hbd
      obtain ⟨pgi, hpgi⟩ : ∃ n, at_ / 4096 = n := ⟨_, rfl⟩
      obtain ⟨m, hm⟩ : ∃ n, at_ % 4096 = n := ⟨_, rfl⟩
      obtain ⟨x1, x2, x3, x4, x5, x6⟩ := pg_nums HG4.out.geo HAT.out hpgi hm
      have x7 : (pgi : Int) < (im.pages.length : Int) := by omega
      have HPI := Lib.hid hpgi
      have HMI := Lib.hid hm
      have HBR := Lib.hid (show Below WA.heap.size WA wr from HB6.out.trans (HBW.out.mono HB6.out.size))
      obtain ⟨c0, c1, c2, c3, c4, c5, c6, c7, c8⟩ := (HVL.out wr HBR.out).cell
      dsimp only at c0 c1 c2 c3 c4 c5 c6 c7 c8
      obtain ⟨ad, eB, -, -⟩ := (HVL.out wr HBR.out).im.pages (Nat.lt_of_le_of_lt (Nat.zero_le _) x4)
      dsimp only at eB
      obtain ⟨p0, p1, p2, p3, p4, p5, p6, p7, p8, p9, p10⟩ := rowP_page (show RowP F wr (some ad) im.pages from by have := (HVL.out wr HBR.out).im.pages; dsimp only at this; rwa [eB] at this) pgi x4
      rw [eB] at c5
      have HPG := Lib.hid (show im.pages.getD pgi pg0 = im.pg pgi from rfl)
      rw [HPG.out] at p0 p1 p2 p3 p4 p5 p6 p7 p8 p9 p10
      obtain ⟨W1, hW1⟩ : ∃ W, wr.alloc (pageO (im.pg pgi)) = W := ⟨_, rfl⟩
      obtain ⟨q0, q1, q2, q3, q4, q5, q6, q7, q8, q9, q10⟩ := page_var (by rw [← hW1]; exact blk_new wr (pageO (im.pg pgi)) : W1.heap[wr.heap.size]? = some (pageO (im.pg pgi)))
      have HBW1 := Lib.hid (show Below WA.heap.size WA W1 from by rw [← hW1]; exact HBR.out.alloc HBR.out.size _)
      have HB61 := Lib.hid (show Below w6.heap.size w6 W1 from by rw [← hW1]; exact HBW.out.alloc HBW.out.size _)
      unfold pageO at hW1
      clear hpgi hm
      go_upto_region 18 with (fail)
      clear eB hW1 c0 c1 c2 c3 c4 c5 c6 c7 c8 p0 p1 p2 p3 p4 p5 p6 p7 p8 p9 p10 x1 x2 x7
      obtain ⟨c0, c1, c2, c3, c4, c5, c6, c7, c8⟩ := (HVL.out W1 HBW1.out).cell
      dsimp only at c0 c1 c2 c3 c4 c5 c6 c7 c8
      by_cases h1 : (im.pg pgi).kd = 1
      case pos =>
        have y1 : ((im.pg pgi).kd == 1) = true := by simpa using h1
        go_upto_region 20 with (fail)
        have HNL := Lib.hid (show NoLink im at_ from nolink_of HG4.out HAT.out (by rw [HPI.out]; exact .inr (.inl h1)))
        clear q0 q1 q2 q3 q4 q5 q6 q7 q8 q9 q10
        have HCP := Lib.hid (Copied_c (HVL.out W1 HBW1.out).im (HF2.out W1 HBW1.out) (geo_fit HG4.out.geo HWF.out))
        unfold Im.cells at HCP
        dsimp only at HCP
        go_upto_region 23 with (go_at_call 19; refine HCP.out.mono ?_; rintro e w7 ⟨⟨A', a', B', b', C', c', D', d', E', e'⟩, m1, m4, rfl, hc⟩; obtain rfl : A' = some ⟨m1, 0, none⟩ := hc.A; have HC := Lib.hid hc; obtain ⟨W8, hW8⟩ : ∃ W, w7.alloc (.cells #[.int .u64 im.base, .int .i64 im.limit, .int .i64 im.order, .int .i64 im.regions, .slice (some ⟨m1, 0, none⟩) im.mem.length a', .slice B' im.pages.length b', .slice C' im.pairs.length c', .slice D' im.heads.length d', .slice E' im.parts.length e'] 31) = W := ⟨_, rfl⟩; have HB8 := Lib.hid (show Below w7.heap.size w7 W8 from by rw [← hW8]; exact (Below.refl _ _).alloc (Nat.le_refl _) _); have HV8 := Lib.hid (show W8.heap[w7.heap.size]? = some (.cells #[.int .u64 im.base, .int .i64 im.limit, .int .i64 im.order, .int .i64 im.regions, .slice (some ⟨m1, 0, none⟩) im.mem.length a', .slice B' im.pages.length b', .slice C' im.pairs.length c', .slice D' im.heads.length d', .slice E' im.parts.length e'] 31 (0, 0)) from by rw [← hW8]; exact blk_new w7 _); have m8 := blk_cell HV8.out 4; simp at m8; obtain ⟨e1, f1⟩ := rowO_cell ((HB8.out.block m1 hc.n1.2).trans hc.mem) at_ HAT.out; clear hc)
        clear hW8 c0 c1 c2 c3 c4 c5 c6 c7 c8 HCP
        obtain ⟨W9, hW9⟩ : ∃ W, W8.setCell ⟨m1, at_, none⟩ (.int .u8 v) = W := ⟨_, rfl⟩
        have HT := Lib.hid (show ImAt (fun b => W1.heap.size ≤ b ∧ b < w7.heap.size) W9 (im.turn at_ v) _ from by rw [← hW9]; exact HC.out.turn HWF.out HB8.out at_ HVV.out)
        have HV9 := Lib.hid (show W9.heap[w7.heap.size]? = some (.cells #[.int .u64 im.base, .int .i64 im.limit, .int .i64 im.order, .int .i64 im.regions, .slice (some ⟨m1, 0, none⟩) im.mem.length a', .slice B' im.pages.length b', .slice C' im.pairs.length c', .slice D' im.heads.length d', .slice E' im.parts.length e'] 31 (0, 0)) from by rw [← hW9, Below.heap_setCell _ _ _ _ (by have := HC.out.n1.2; intro e; dsimp only at e; omega)]; exact HV8.out)
        have HN := fun i => blk_cell HV9.out i
        have t0 := HN 0
        have t1 := HN 1
        have t2 := HN 2
        have t3 := HN 3
        have t4 := HN 4
        have t5 := HN 5
        have t6 := HN 6
        have t7 := HN 7
        have t8 := HN 8
        clear HN
        simp at t0 t1 t2 t3 t4 t5 t6 t7 t8
        go_upto_region 24 with (fail)
        have HS9 := Lib.hid (show w7.heap.size ≤ W9.heap.size ∧ w7.heap.size < W9.heap.size from by have := blk_lt HV9.out; omega)
        have HB19 := Lib.hid (show Below W1.heap.size W1 W9 from by rw [← hW9]; exact (HC.out.below.trans (HB8.out.mono HC.out.below.size)).setCell HC.out.n1.1 _)
        clear hW9 e1 f1 m8
        have HFT := Lib.hid (fun (wx : World) (hx : Below W9.heap.size W9 wx) => show ∀ b, (W1.heap.size ≤ b ∧ b < w7.heap.size) → b < wx.heap.size from fun b hb => by have := hx.size; have := HS9.out.1; omega)
        have HIS := Lib.hid (is_t HT.out (HFT.out W9 (Below.refl _ _)) (check_sound (turn_sound HG4.out.geo (v := v) HNL.out HS.out)))
        have HTB := Lib.hid (fun (wx : World) (hx : Below W9.heap.size W9 wx) => show Calls Try.prog 12 _ wx (fun e w' => ∃ A cap, e = .returned (.slice A im.blocks.length cap) ∧ im.blocks.length ≤ cap ∧ RowB (fun b => wx.heap.size ≤ b ∧ b < w'.heap.size) w' A im.blocks ∧ Below wx.heap.size wx w') from by
          have := Blocks_c (HT.out.keep (w' := wx) (fun b hb => hx.block b (by have := HS9.out.1; omega))) (HFT.out wx hx)
          unfold BlocksP at this
          rw [turn_told HG4.out.geo HNL.out HS.out] at this
          exact this)
        rw [turn_cellsV] at HIS HTB
        unfold Im.cells at HIS HTB
        dsimp only at HIS HTB
        go_wp2_with (first
          | (go_at_call 13; refine HIS.out.mono ?_; rintro e w10 ⟨rfl, hb10⟩; have HB10 := Lib.hid (show Below W9.heap.size W9 w10 from hb10); have HV10 := Lib.hid ((HB10.out.block _ HS9.out.2).trans HV9.out); have HN := fun i => blk_cell HV10.out i; have z0 := HN 0; have z1 := HN 1; have z2 := HN 2; have z3 := HN 3; have z4 := HN 4; have z5 := HN 5; have z6 := HN 6; have z7 := HN 7; have z8 := HN 8; clear HN hb10; simp at z0 z1 z2 z3 z4 z5 z6 z7 z8)
          | (go_at_call 12; refine (HTB.out w10 HB10.out).mono ?_; rintro e w11 ⟨A2, cap2, rfl, hc2, hr2, hb11⟩; have HR2 := Lib.hid hr2; have HB11 := Lib.hid (HB10.out.trans (hb11.mono HB10.out.size)); clear hc2 hr2 hb11)
          | (go_at_call 14; refine (Same_t (F := fun _ => True) (HR2.out.mono (fun _ _ => trivial)) ((HR1.out.keep (fun b hb => (HB61.out.trans ((HB19.out.trans (HB11.out.mono HB19.out.size)).mono HB61.out.size)).block b hb.2)).mono (fun _ _ => trivial)) (by have := HTL.out; omega)).mono ?_; rintro e w12 ⟨rfl, n12, hw12⟩; have HB12 := Lib.hid (show Below w11.heap.size w11 w12 from by rw [hw12]; exact pw_below_drewN (Below.refl _ _) n12); clear hw12))
        go_ret
        exact ⟨rfl, HBL.out _ (HBW1.out.trans (((HB19.out.trans (HB11.out.mono HB19.out.size)).trans (HB12.out.mono (Nat.le_trans HB19.out.size HB11.out.size))).mono HBW1.out.size))⟩
      have y1 : ((im.pg pgi).kd == 1) = false := by simpa using h1
      by_cases h0 : (im.pg pgi).kd = 0
      case pos =>
        have y0 : ((im.pg pgi).kd == 0) = true := by simpa using h0
        have y4 : ((im.pg pgi).kd == 4) = false := by rw [h0]; rfl
        by_cases h16 : 16 ≤ m
        case pos =>
          have y5 : decide (16 ≤ (m : Int)) = true := decide_eq_true (by omega)
          go_upto_region 20 with (fail)
          have HNL := Lib.hid (show NoLink im at_ from nolink_of HG4.out HAT.out (by rw [HPI.out]; exact .inr (.inr (.inl ⟨h0, by rw [HMI.out]; exact h16⟩))))
          clear q0 q1 q2 q3 q4 q5 q6 q7 q8 q9 q10
          have HCP := Lib.hid (Copied_c (HVL.out W1 HBW1.out).im (HF2.out W1 HBW1.out) (geo_fit HG4.out.geo HWF.out))
          unfold Im.cells at HCP
          dsimp only at HCP
          go_upto_region 23 with (go_at_call 19; refine HCP.out.mono ?_; rintro e w7 ⟨⟨A', a', B', b', C', c', D', d', E', e'⟩, m1, m4, rfl, hc⟩; obtain rfl : A' = some ⟨m1, 0, none⟩ := hc.A; have HC := Lib.hid hc; obtain ⟨W8, hW8⟩ : ∃ W, w7.alloc (.cells #[.int .u64 im.base, .int .i64 im.limit, .int .i64 im.order, .int .i64 im.regions, .slice (some ⟨m1, 0, none⟩) im.mem.length a', .slice B' im.pages.length b', .slice C' im.pairs.length c', .slice D' im.heads.length d', .slice E' im.parts.length e'] 31) = W := ⟨_, rfl⟩; have HB8 := Lib.hid (show Below w7.heap.size w7 W8 from by rw [← hW8]; exact (Below.refl _ _).alloc (Nat.le_refl _) _); have HV8 := Lib.hid (show W8.heap[w7.heap.size]? = some (.cells #[.int .u64 im.base, .int .i64 im.limit, .int .i64 im.order, .int .i64 im.regions, .slice (some ⟨m1, 0, none⟩) im.mem.length a', .slice B' im.pages.length b', .slice C' im.pairs.length c', .slice D' im.heads.length d', .slice E' im.parts.length e'] 31 (0, 0)) from by rw [← hW8]; exact blk_new w7 _); have m8 := blk_cell HV8.out 4; simp at m8; obtain ⟨e1, f1⟩ := rowO_cell ((HB8.out.block m1 hc.n1.2).trans hc.mem) at_ HAT.out; clear hc)
          clear hW8 c0 c1 c2 c3 c4 c5 c6 c7 c8 HCP
          obtain ⟨W9, hW9⟩ : ∃ W, W8.setCell ⟨m1, at_, none⟩ (.int .u8 v) = W := ⟨_, rfl⟩
          have HT := Lib.hid (show ImAt (fun b => W1.heap.size ≤ b ∧ b < w7.heap.size) W9 (im.turn at_ v) _ from by rw [← hW9]; exact HC.out.turn HWF.out HB8.out at_ HVV.out)
          have HV9 := Lib.hid (show W9.heap[w7.heap.size]? = some (.cells #[.int .u64 im.base, .int .i64 im.limit, .int .i64 im.order, .int .i64 im.regions, .slice (some ⟨m1, 0, none⟩) im.mem.length a', .slice B' im.pages.length b', .slice C' im.pairs.length c', .slice D' im.heads.length d', .slice E' im.parts.length e'] 31 (0, 0)) from by rw [← hW9, Below.heap_setCell _ _ _ _ (by have := HC.out.n1.2; intro e; dsimp only at e; omega)]; exact HV8.out)
          have HN := fun i => blk_cell HV9.out i
          have t0 := HN 0
          have t1 := HN 1
          have t2 := HN 2
          have t3 := HN 3
          have t4 := HN 4
          have t5 := HN 5
          have t6 := HN 6
          have t7 := HN 7
          have t8 := HN 8
          clear HN
          simp at t0 t1 t2 t3 t4 t5 t6 t7 t8
          go_upto_region 24 with (fail)
          have HS9 := Lib.hid (show w7.heap.size ≤ W9.heap.size ∧ w7.heap.size < W9.heap.size from by have := blk_lt HV9.out; omega)
          have HB19 := Lib.hid (show Below W1.heap.size W1 W9 from by rw [← hW9]; exact (HC.out.below.trans (HB8.out.mono HC.out.below.size)).setCell HC.out.n1.1 _)
          clear hW9 e1 f1 m8
          have HFT := Lib.hid (fun (wx : World) (hx : Below W9.heap.size W9 wx) => show ∀ b, (W1.heap.size ≤ b ∧ b < w7.heap.size) → b < wx.heap.size from fun b hb => by have := hx.size; have := HS9.out.1; omega)
          have HIS := Lib.hid (is_t HT.out (HFT.out W9 (Below.refl _ _)) (check_sound (turn_sound HG4.out.geo (v := v) HNL.out HS.out)))
          have HTB := Lib.hid (fun (wx : World) (hx : Below W9.heap.size W9 wx) => show Calls Try.prog 12 _ wx (fun e w' => ∃ A cap, e = .returned (.slice A im.blocks.length cap) ∧ im.blocks.length ≤ cap ∧ RowB (fun b => wx.heap.size ≤ b ∧ b < w'.heap.size) w' A im.blocks ∧ Below wx.heap.size wx w') from by
            have := Blocks_c (HT.out.keep (w' := wx) (fun b hb => hx.block b (by have := HS9.out.1; omega))) (HFT.out wx hx)
            unfold BlocksP at this
            rw [turn_told HG4.out.geo HNL.out HS.out] at this
            exact this)
          rw [turn_cellsV] at HIS HTB
          unfold Im.cells at HIS HTB
          dsimp only at HIS HTB
          go_wp2_with (first
            | (go_at_call 13; refine HIS.out.mono ?_; rintro e w10 ⟨rfl, hb10⟩; have HB10 := Lib.hid (show Below W9.heap.size W9 w10 from hb10); have HV10 := Lib.hid ((HB10.out.block _ HS9.out.2).trans HV9.out); have HN := fun i => blk_cell HV10.out i; have z0 := HN 0; have z1 := HN 1; have z2 := HN 2; have z3 := HN 3; have z4 := HN 4; have z5 := HN 5; have z6 := HN 6; have z7 := HN 7; have z8 := HN 8; clear HN hb10; simp at z0 z1 z2 z3 z4 z5 z6 z7 z8)
            | (go_at_call 12; refine (HTB.out w10 HB10.out).mono ?_; rintro e w11 ⟨A2, cap2, rfl, hc2, hr2, hb11⟩; have HR2 := Lib.hid hr2; have HB11 := Lib.hid (HB10.out.trans (hb11.mono HB10.out.size)); clear hc2 hr2 hb11)
            | (go_at_call 14; refine (Same_t (F := fun _ => True) (HR2.out.mono (fun _ _ => trivial)) ((HR1.out.keep (fun b hb => (HB61.out.trans ((HB19.out.trans (HB11.out.mono HB19.out.size)).mono HB61.out.size)).block b hb.2)).mono (fun _ _ => trivial)) (by have := HTL.out; omega)).mono ?_; rintro e w12 ⟨rfl, n12, hw12⟩; have HB12 := Lib.hid (show Below w11.heap.size w11 w12 from by rw [hw12]; exact pw_below_drewN (Below.refl _ _) n12); clear hw12))
          go_ret
          exact ⟨rfl, HBL.out _ (HBW1.out.trans (((HB19.out.trans (HB11.out.mono HB19.out.size)).trans (HB12.out.mono (Nat.le_trans HB19.out.size HB11.out.size))).mono HBW1.out.size))⟩
        case neg =>
          have y5 : decide (16 ≤ (m : Int)) = false := decide_eq_false (by omega)
          go_upto_region 20 with (fail)
          cases bd with
          | false =>
            have HNL := Lib.hid (show NoLink im at_ from nolink_of HG4.out HAT.out (by rw [HPI.out]; exact .inl (by rw [HP.out]; exact HBD.out rfl)))
            clear q0 q1 q2 q3 q4 q5 q6 q7 q8 q9 q10
            have HCP := Lib.hid (Copied_c (HVL.out W1 HBW1.out).im (HF2.out W1 HBW1.out) (geo_fit HG4.out.geo HWF.out))
            unfold Im.cells at HCP
            dsimp only at HCP
            go_upto_region 23 with (go_at_call 19; refine HCP.out.mono ?_; rintro e w7 ⟨⟨A', a', B', b', C', c', D', d', E', e'⟩, m1, m4, rfl, hc⟩; obtain rfl : A' = some ⟨m1, 0, none⟩ := hc.A; have HC := Lib.hid hc; obtain ⟨W8, hW8⟩ : ∃ W, w7.alloc (.cells #[.int .u64 im.base, .int .i64 im.limit, .int .i64 im.order, .int .i64 im.regions, .slice (some ⟨m1, 0, none⟩) im.mem.length a', .slice B' im.pages.length b', .slice C' im.pairs.length c', .slice D' im.heads.length d', .slice E' im.parts.length e'] 31) = W := ⟨_, rfl⟩; have HB8 := Lib.hid (show Below w7.heap.size w7 W8 from by rw [← hW8]; exact (Below.refl _ _).alloc (Nat.le_refl _) _); have HV8 := Lib.hid (show W8.heap[w7.heap.size]? = some (.cells #[.int .u64 im.base, .int .i64 im.limit, .int .i64 im.order, .int .i64 im.regions, .slice (some ⟨m1, 0, none⟩) im.mem.length a', .slice B' im.pages.length b', .slice C' im.pairs.length c', .slice D' im.heads.length d', .slice E' im.parts.length e'] 31 (0, 0)) from by rw [← hW8]; exact blk_new w7 _); have m8 := blk_cell HV8.out 4; simp at m8; obtain ⟨e1, f1⟩ := rowO_cell ((HB8.out.block m1 hc.n1.2).trans hc.mem) at_ HAT.out; clear hc)
            clear hW8 c0 c1 c2 c3 c4 c5 c6 c7 c8 HCP
            obtain ⟨W9, hW9⟩ : ∃ W, W8.setCell ⟨m1, at_, none⟩ (.int .u8 v) = W := ⟨_, rfl⟩
            have HT := Lib.hid (show ImAt (fun b => W1.heap.size ≤ b ∧ b < w7.heap.size) W9 (im.turn at_ v) _ from by rw [← hW9]; exact HC.out.turn HWF.out HB8.out at_ HVV.out)
            have HV9 := Lib.hid (show W9.heap[w7.heap.size]? = some (.cells #[.int .u64 im.base, .int .i64 im.limit, .int .i64 im.order, .int .i64 im.regions, .slice (some ⟨m1, 0, none⟩) im.mem.length a', .slice B' im.pages.length b', .slice C' im.pairs.length c', .slice D' im.heads.length d', .slice E' im.parts.length e'] 31 (0, 0)) from by rw [← hW9, Below.heap_setCell _ _ _ _ (by have := HC.out.n1.2; intro e; dsimp only at e; omega)]; exact HV8.out)
            have HN := fun i => blk_cell HV9.out i
            have t0 := HN 0
            have t1 := HN 1
            have t2 := HN 2
            have t3 := HN 3
            have t4 := HN 4
            have t5 := HN 5
            have t6 := HN 6
            have t7 := HN 7
            have t8 := HN 8
            clear HN
            simp at t0 t1 t2 t3 t4 t5 t6 t7 t8
            go_upto_region 24 with (fail)
            have HS9 := Lib.hid (show w7.heap.size ≤ W9.heap.size ∧ w7.heap.size < W9.heap.size from by have := blk_lt HV9.out; omega)
            have HB19 := Lib.hid (show Below W1.heap.size W1 W9 from by rw [← hW9]; exact (HC.out.below.trans (HB8.out.mono HC.out.below.size)).setCell HC.out.n1.1 _)
            clear hW9 e1 f1 m8
            have HFT := Lib.hid (fun (wx : World) (hx : Below W9.heap.size W9 wx) => show ∀ b, (W1.heap.size ≤ b ∧ b < w7.heap.size) → b < wx.heap.size from fun b hb => by have := hx.size; have := HS9.out.1; omega)
            have HIS := Lib.hid (is_t HT.out (HFT.out W9 (Below.refl _ _)) (check_sound (turn_sound HG4.out.geo (v := v) HNL.out HS.out)))
            have HTB := Lib.hid (fun (wx : World) (hx : Below W9.heap.size W9 wx) => show Calls Try.prog 12 _ wx (fun e w' => ∃ A cap, e = .returned (.slice A im.blocks.length cap) ∧ im.blocks.length ≤ cap ∧ RowB (fun b => wx.heap.size ≤ b ∧ b < w'.heap.size) w' A im.blocks ∧ Below wx.heap.size wx w') from by
              have := Blocks_c (HT.out.keep (w' := wx) (fun b hb => hx.block b (by have := HS9.out.1; omega))) (HFT.out wx hx)
              unfold BlocksP at this
              rw [turn_told HG4.out.geo HNL.out HS.out] at this
              exact this)
            rw [turn_cellsV] at HIS HTB
            unfold Im.cells at HIS HTB
            dsimp only at HIS HTB
            go_wp2_with (first
              | (go_at_call 13; refine HIS.out.mono ?_; rintro e w10 ⟨rfl, hb10⟩; have HB10 := Lib.hid (show Below W9.heap.size W9 w10 from hb10); have HV10 := Lib.hid ((HB10.out.block _ HS9.out.2).trans HV9.out); have HN := fun i => blk_cell HV10.out i; have z0 := HN 0; have z1 := HN 1; have z2 := HN 2; have z3 := HN 3; have z4 := HN 4; have z5 := HN 5; have z6 := HN 6; have z7 := HN 7; have z8 := HN 8; clear HN hb10; simp at z0 z1 z2 z3 z4 z5 z6 z7 z8)
              | (go_at_call 12; refine (HTB.out w10 HB10.out).mono ?_; rintro e w11 ⟨A2, cap2, rfl, hc2, hr2, hb11⟩; have HR2 := Lib.hid hr2; have HB11 := Lib.hid (HB10.out.trans (hb11.mono HB10.out.size)); clear hc2 hr2 hb11)
              | (go_at_call 14; refine (Same_t (F := fun _ => True) (HR2.out.mono (fun _ _ => trivial)) ((HR1.out.keep (fun b hb => (HB61.out.trans ((HB19.out.trans (HB11.out.mono HB19.out.size)).mono HB61.out.size)).block b hb.2)).mono (fun _ _ => trivial)) (by have := HTL.out; omega)).mono ?_; rintro e w12 ⟨rfl, n12, hw12⟩; have HB12 := Lib.hid (show Below w11.heap.size w11 w12 from by rw [hw12]; exact pw_below_drewN (Below.refl _ _) n12); clear hw12))
            go_ret
            exact ⟨rfl, HBL.out _ (HBW1.out.trans (((HB19.out.trans (HB11.out.mono HB19.out.size)).trans (HB12.out.mono (Nat.le_trans HB19.out.size HB11.out.size))).mono HBW1.out.size))⟩
          | true =>
            go_wp2
            go_ret
            exact ⟨rfl, HBL.out _ HBW1.out⟩
      have y0 : ((im.pg pgi).kd == 0) = false := by simpa using h0
      by_cases h4 : (im.pg pgi).kd = 4
      case neg =>
        have y4 : ((im.pg pgi).kd == 4) = false := by simpa using h4
        go_upto_region 20 with (fail)
        cases bd with
        | false =>
          have HNL := Lib.hid (show NoLink im at_ from nolink_of HG4.out HAT.out (by rw [HPI.out]; exact .inl (by rw [HP.out]; exact HBD.out rfl)))
          clear q0 q1 q2 q3 q4 q5 q6 q7 q8 q9 q10
          have HCP := Lib.hid (Copied_c (HVL.out W1 HBW1.out).im (HF2.out W1 HBW1.out) (geo_fit HG4.out.geo HWF.out))
          unfold Im.cells at HCP
          dsimp only at HCP
          go_upto_region 23 with (go_at_call 19; refine HCP.out.mono ?_; rintro e w7 ⟨⟨A', a', B', b', C', c', D', d', E', e'⟩, m1, m4, rfl, hc⟩; obtain rfl : A' = some ⟨m1, 0, none⟩ := hc.A; have HC := Lib.hid hc; obtain ⟨W8, hW8⟩ : ∃ W, w7.alloc (.cells #[.int .u64 im.base, .int .i64 im.limit, .int .i64 im.order, .int .i64 im.regions, .slice (some ⟨m1, 0, none⟩) im.mem.length a', .slice B' im.pages.length b', .slice C' im.pairs.length c', .slice D' im.heads.length d', .slice E' im.parts.length e'] 31) = W := ⟨_, rfl⟩; have HB8 := Lib.hid (show Below w7.heap.size w7 W8 from by rw [← hW8]; exact (Below.refl _ _).alloc (Nat.le_refl _) _); have HV8 := Lib.hid (show W8.heap[w7.heap.size]? = some (.cells #[.int .u64 im.base, .int .i64 im.limit, .int .i64 im.order, .int .i64 im.regions, .slice (some ⟨m1, 0, none⟩) im.mem.length a', .slice B' im.pages.length b', .slice C' im.pairs.length c', .slice D' im.heads.length d', .slice E' im.parts.length e'] 31 (0, 0)) from by rw [← hW8]; exact blk_new w7 _); have m8 := blk_cell HV8.out 4; simp at m8; obtain ⟨e1, f1⟩ := rowO_cell ((HB8.out.block m1 hc.n1.2).trans hc.mem) at_ HAT.out; clear hc)
          clear hW8 c0 c1 c2 c3 c4 c5 c6 c7 c8 HCP
          obtain ⟨W9, hW9⟩ : ∃ W, W8.setCell ⟨m1, at_, none⟩ (.int .u8 v) = W := ⟨_, rfl⟩
          have HT := Lib.hid (show ImAt (fun b => W1.heap.size ≤ b ∧ b < w7.heap.size) W9 (im.turn at_ v) _ from by rw [← hW9]; exact HC.out.turn HWF.out HB8.out at_ HVV.out)
          have HV9 := Lib.hid (show W9.heap[w7.heap.size]? = some (.cells #[.int .u64 im.base, .int .i64 im.limit, .int .i64 im.order, .int .i64 im.regions, .slice (some ⟨m1, 0, none⟩) im.mem.length a', .slice B' im.pages.length b', .slice C' im.pairs.length c', .slice D' im.heads.length d', .slice E' im.parts.length e'] 31 (0, 0)) from by rw [← hW9, Below.heap_setCell _ _ _ _ (by have := HC.out.n1.2; intro e; dsimp only at e; omega)]; exact HV8.out)
          have HN := fun i => blk_cell HV9.out i
          have t0 := HN 0
          have t1 := HN 1
          have t2 := HN 2
          have t3 := HN 3
          have t4 := HN 4
          have t5 := HN 5
          have t6 := HN 6
          have t7 := HN 7
          have t8 := HN 8
          clear HN
          simp at t0 t1 t2 t3 t4 t5 t6 t7 t8
          go_upto_region 24 with (fail)
          have HS9 := Lib.hid (show w7.heap.size ≤ W9.heap.size ∧ w7.heap.size < W9.heap.size from by have := blk_lt HV9.out; omega)
          have HB19 := Lib.hid (show Below W1.heap.size W1 W9 from by rw [← hW9]; exact (HC.out.below.trans (HB8.out.mono HC.out.below.size)).setCell HC.out.n1.1 _)
          clear hW9 e1 f1 m8
          have HFT := Lib.hid (fun (wx : World) (hx : Below W9.heap.size W9 wx) => show ∀ b, (W1.heap.size ≤ b ∧ b < w7.heap.size) → b < wx.heap.size from fun b hb => by have := hx.size; have := HS9.out.1; omega)
          have HIS := Lib.hid (is_t HT.out (HFT.out W9 (Below.refl _ _)) (check_sound (turn_sound HG4.out.geo (v := v) HNL.out HS.out)))
          have HTB := Lib.hid (fun (wx : World) (hx : Below W9.heap.size W9 wx) => show Calls Try.prog 12 _ wx (fun e w' => ∃ A cap, e = .returned (.slice A im.blocks.length cap) ∧ im.blocks.length ≤ cap ∧ RowB (fun b => wx.heap.size ≤ b ∧ b < w'.heap.size) w' A im.blocks ∧ Below wx.heap.size wx w') from by
            have := Blocks_c (HT.out.keep (w' := wx) (fun b hb => hx.block b (by have := HS9.out.1; omega))) (HFT.out wx hx)
            unfold BlocksP at this
            rw [turn_told HG4.out.geo HNL.out HS.out] at this
            exact this)
          rw [turn_cellsV] at HIS HTB
          unfold Im.cells at HIS HTB
          dsimp only at HIS HTB
          go_wp2_with (first
            | (go_at_call 13; refine HIS.out.mono ?_; rintro e w10 ⟨rfl, hb10⟩; have HB10 := Lib.hid (show Below W9.heap.size W9 w10 from hb10); have HV10 := Lib.hid ((HB10.out.block _ HS9.out.2).trans HV9.out); have HN := fun i => blk_cell HV10.out i; have z0 := HN 0; have z1 := HN 1; have z2 := HN 2; have z3 := HN 3; have z4 := HN 4; have z5 := HN 5; have z6 := HN 6; have z7 := HN 7; have z8 := HN 8; clear HN hb10; simp at z0 z1 z2 z3 z4 z5 z6 z7 z8)
            | (go_at_call 12; refine (HTB.out w10 HB10.out).mono ?_; rintro e w11 ⟨A2, cap2, rfl, hc2, hr2, hb11⟩; have HR2 := Lib.hid hr2; have HB11 := Lib.hid (HB10.out.trans (hb11.mono HB10.out.size)); clear hc2 hr2 hb11)
            | (go_at_call 14; refine (Same_t (F := fun _ => True) (HR2.out.mono (fun _ _ => trivial)) ((HR1.out.keep (fun b hb => (HB61.out.trans ((HB19.out.trans (HB11.out.mono HB19.out.size)).mono HB61.out.size)).block b hb.2)).mono (fun _ _ => trivial)) (by have := HTL.out; omega)).mono ?_; rintro e w12 ⟨rfl, n12, hw12⟩; have HB12 := Lib.hid (show Below w11.heap.size w11 w12 from by rw [hw12]; exact pw_below_drewN (Below.refl _ _) n12); clear hw12))
          go_ret
          exact ⟨rfl, HBL.out _ (HBW1.out.trans (((HB19.out.trans (HB11.out.mono HB19.out.size)).trans (HB12.out.mono (Nat.le_trans HB19.out.size HB11.out.size))).mono HBW1.out.size))⟩
        | true =>
          go_wp2
          go_ret
          exact ⟨rfl, HBL.out _ HBW1.out⟩
      have y4 : ((im.pg pgi).kd == 4) = true := by simpa using h4
      have hcl := (HG4.out.rng pgi x4).cl
      obtain ⟨cl, hcl', hcl7, -, -, -⟩ := cell_page hcl.1 hcl.2
      obtain ⟨z, hz⟩ : ∃ z, cellZ (im.pg pgi) = z := ⟨_, rfl⟩
      obtain ⟨s1, s2, s3, s4⟩ := shl_nums hcl' hcl7 hz
      obtain ⟨mz, hmz⟩ : ∃ n, at_ % z = n := ⟨_, rfl⟩
      obtain ⟨s5, s6, s7⟩ := rem_nums hmz HAT.out HWF.out.lmem
      rw [hcl'] at q2
      have HMZ := Lib.hid hmz
      have HZZ := Lib.hid hz
      clear hcl hmz hz hcl'
      by_cases h8 : 8 ≤ mz
      case pos =>
        have y5 : decide (8 ≤ (mz : Int)) = true := decide_eq_true (by omega)
        go_upto_region 20 with (fail)
        have HNL := Lib.hid (show NoLink im at_ from nolink_of HG4.out HAT.out (by rw [HPI.out]; exact .inr (.inr (.inr ⟨h4, by rw [HZZ.out, HMZ.out]; exact h8⟩))))
        clear q0 q1 q2 q3 q4 q5 q6 q7 q8 q9 q10
        have HCP := Lib.hid (Copied_c (HVL.out W1 HBW1.out).im (HF2.out W1 HBW1.out) (geo_fit HG4.out.geo HWF.out))
        unfold Im.cells at HCP
        dsimp only at HCP
        go_upto_region 23 with (go_at_call 19; refine HCP.out.mono ?_; rintro e w7 ⟨⟨A', a', B', b', C', c', D', d', E', e'⟩, m1, m4, rfl, hc⟩; obtain rfl : A' = some ⟨m1, 0, none⟩ := hc.A; have HC := Lib.hid hc; obtain ⟨W8, hW8⟩ : ∃ W, w7.alloc (.cells #[.int .u64 im.base, .int .i64 im.limit, .int .i64 im.order, .int .i64 im.regions, .slice (some ⟨m1, 0, none⟩) im.mem.length a', .slice B' im.pages.length b', .slice C' im.pairs.length c', .slice D' im.heads.length d', .slice E' im.parts.length e'] 31) = W := ⟨_, rfl⟩; have HB8 := Lib.hid (show Below w7.heap.size w7 W8 from by rw [← hW8]; exact (Below.refl _ _).alloc (Nat.le_refl _) _); have HV8 := Lib.hid (show W8.heap[w7.heap.size]? = some (.cells #[.int .u64 im.base, .int .i64 im.limit, .int .i64 im.order, .int .i64 im.regions, .slice (some ⟨m1, 0, none⟩) im.mem.length a', .slice B' im.pages.length b', .slice C' im.pairs.length c', .slice D' im.heads.length d', .slice E' im.parts.length e'] 31 (0, 0)) from by rw [← hW8]; exact blk_new w7 _); have m8 := blk_cell HV8.out 4; simp at m8; obtain ⟨e1, f1⟩ := rowO_cell ((HB8.out.block m1 hc.n1.2).trans hc.mem) at_ HAT.out; clear hc)
        clear hW8 c0 c1 c2 c3 c4 c5 c6 c7 c8 HCP
        obtain ⟨W9, hW9⟩ : ∃ W, W8.setCell ⟨m1, at_, none⟩ (.int .u8 v) = W := ⟨_, rfl⟩
        have HT := Lib.hid (show ImAt (fun b => W1.heap.size ≤ b ∧ b < w7.heap.size) W9 (im.turn at_ v) _ from by rw [← hW9]; exact HC.out.turn HWF.out HB8.out at_ HVV.out)
        have HV9 := Lib.hid (show W9.heap[w7.heap.size]? = some (.cells #[.int .u64 im.base, .int .i64 im.limit, .int .i64 im.order, .int .i64 im.regions, .slice (some ⟨m1, 0, none⟩) im.mem.length a', .slice B' im.pages.length b', .slice C' im.pairs.length c', .slice D' im.heads.length d', .slice E' im.parts.length e'] 31 (0, 0)) from by rw [← hW9, Below.heap_setCell _ _ _ _ (by have := HC.out.n1.2; intro e; dsimp only at e; omega)]; exact HV8.out)
        have HN := fun i => blk_cell HV9.out i
        have t0 := HN 0
        have t1 := HN 1
        have t2 := HN 2
        have t3 := HN 3
        have t4 := HN 4
        have t5 := HN 5
        have t6 := HN 6
        have t7 := HN 7
        have t8 := HN 8
        clear HN
        simp at t0 t1 t2 t3 t4 t5 t6 t7 t8
        go_upto_region 24 with (fail)
        have HS9 := Lib.hid (show w7.heap.size ≤ W9.heap.size ∧ w7.heap.size < W9.heap.size from by have := blk_lt HV9.out; omega)
        have HB19 := Lib.hid (show Below W1.heap.size W1 W9 from by rw [← hW9]; exact (HC.out.below.trans (HB8.out.mono HC.out.below.size)).setCell HC.out.n1.1 _)
        clear hW9 e1 f1 m8
        have HFT := Lib.hid (fun (wx : World) (hx : Below W9.heap.size W9 wx) => show ∀ b, (W1.heap.size ≤ b ∧ b < w7.heap.size) → b < wx.heap.size from fun b hb => by have := hx.size; have := HS9.out.1; omega)
        have HIS := Lib.hid (is_t HT.out (HFT.out W9 (Below.refl _ _)) (check_sound (turn_sound HG4.out.geo (v := v) HNL.out HS.out)))
        have HTB := Lib.hid (fun (wx : World) (hx : Below W9.heap.size W9 wx) => show Calls Try.prog 12 _ wx (fun e w' => ∃ A cap, e = .returned (.slice A im.blocks.length cap) ∧ im.blocks.length ≤ cap ∧ RowB (fun b => wx.heap.size ≤ b ∧ b < w'.heap.size) w' A im.blocks ∧ Below wx.heap.size wx w') from by
          have := Blocks_c (HT.out.keep (w' := wx) (fun b hb => hx.block b (by have := HS9.out.1; omega))) (HFT.out wx hx)
          unfold BlocksP at this
          rw [turn_told HG4.out.geo HNL.out HS.out] at this
          exact this)
        rw [turn_cellsV] at HIS HTB
        unfold Im.cells at HIS HTB
        dsimp only at HIS HTB
        go_wp2_with (first
          | (go_at_call 13; refine HIS.out.mono ?_; rintro e w10 ⟨rfl, hb10⟩; have HB10 := Lib.hid (show Below W9.heap.size W9 w10 from hb10); have HV10 := Lib.hid ((HB10.out.block _ HS9.out.2).trans HV9.out); have HN := fun i => blk_cell HV10.out i; have z0 := HN 0; have z1 := HN 1; have z2 := HN 2; have z3 := HN 3; have z4 := HN 4; have z5 := HN 5; have z6 := HN 6; have z7 := HN 7; have z8 := HN 8; clear HN hb10; simp at z0 z1 z2 z3 z4 z5 z6 z7 z8)
          | (go_at_call 12; refine (HTB.out w10 HB10.out).mono ?_; rintro e w11 ⟨A2, cap2, rfl, hc2, hr2, hb11⟩; have HR2 := Lib.hid hr2; have HB11 := Lib.hid (HB10.out.trans (hb11.mono HB10.out.size)); clear hc2 hr2 hb11)
          | (go_at_call 14; refine (Same_t (F := fun _ => True) (HR2.out.mono (fun _ _ => trivial)) ((HR1.out.keep (fun b hb => (HB61.out.trans ((HB19.out.trans (HB11.out.mono HB19.out.size)).mono HB61.out.size)).block b hb.2)).mono (fun _ _ => trivial)) (by have := HTL.out; omega)).mono ?_; rintro e w12 ⟨rfl, n12, hw12⟩; have HB12 := Lib.hid (show Below w11.heap.size w11 w12 from by rw [hw12]; exact pw_below_drewN (Below.refl _ _) n12); clear hw12))
        go_ret
        exact ⟨rfl, HBL.out _ (HBW1.out.trans (((HB19.out.trans (HB11.out.mono HB19.out.size)).trans (HB12.out.mono (Nat.le_trans HB19.out.size HB11.out.size))).mono HBW1.out.size))⟩
      case neg =>
        have y5 : decide (8 ≤ (mz : Int)) = false := decide_eq_false (by omega)
        go_upto_region 20 with (fail)
        cases bd with
        | false =>
          have HNL := Lib.hid (show NoLink im at_ from nolink_of HG4.out HAT.out (by rw [HPI.out]; exact .inl (by rw [HP.out]; exact HBD.out rfl)))
          clear q0 q1 q2 q3 q4 q5 q6 q7 q8 q9 q10
          have HCP := Lib.hid (Copied_c (HVL.out W1 HBW1.out).im (HF2.out W1 HBW1.out) (geo_fit HG4.out.geo HWF.out))
          unfold Im.cells at HCP
          dsimp only at HCP
          go_upto_region 23 with (go_at_call 19; refine HCP.out.mono ?_; rintro e w7 ⟨⟨A', a', B', b', C', c', D', d', E', e'⟩, m1, m4, rfl, hc⟩; obtain rfl : A' = some ⟨m1, 0, none⟩ := hc.A; have HC := Lib.hid hc; obtain ⟨W8, hW8⟩ : ∃ W, w7.alloc (.cells #[.int .u64 im.base, .int .i64 im.limit, .int .i64 im.order, .int .i64 im.regions, .slice (some ⟨m1, 0, none⟩) im.mem.length a', .slice B' im.pages.length b', .slice C' im.pairs.length c', .slice D' im.heads.length d', .slice E' im.parts.length e'] 31) = W := ⟨_, rfl⟩; have HB8 := Lib.hid (show Below w7.heap.size w7 W8 from by rw [← hW8]; exact (Below.refl _ _).alloc (Nat.le_refl _) _); have HV8 := Lib.hid (show W8.heap[w7.heap.size]? = some (.cells #[.int .u64 im.base, .int .i64 im.limit, .int .i64 im.order, .int .i64 im.regions, .slice (some ⟨m1, 0, none⟩) im.mem.length a', .slice B' im.pages.length b', .slice C' im.pairs.length c', .slice D' im.heads.length d', .slice E' im.parts.length e'] 31 (0, 0)) from by rw [← hW8]; exact blk_new w7 _); have m8 := blk_cell HV8.out 4; simp at m8; obtain ⟨e1, f1⟩ := rowO_cell ((HB8.out.block m1 hc.n1.2).trans hc.mem) at_ HAT.out; clear hc)
          clear hW8 c0 c1 c2 c3 c4 c5 c6 c7 c8 HCP
          obtain ⟨W9, hW9⟩ : ∃ W, W8.setCell ⟨m1, at_, none⟩ (.int .u8 v) = W := ⟨_, rfl⟩
          have HT := Lib.hid (show ImAt (fun b => W1.heap.size ≤ b ∧ b < w7.heap.size) W9 (im.turn at_ v) _ from by rw [← hW9]; exact HC.out.turn HWF.out HB8.out at_ HVV.out)
          have HV9 := Lib.hid (show W9.heap[w7.heap.size]? = some (.cells #[.int .u64 im.base, .int .i64 im.limit, .int .i64 im.order, .int .i64 im.regions, .slice (some ⟨m1, 0, none⟩) im.mem.length a', .slice B' im.pages.length b', .slice C' im.pairs.length c', .slice D' im.heads.length d', .slice E' im.parts.length e'] 31 (0, 0)) from by rw [← hW9, Below.heap_setCell _ _ _ _ (by have := HC.out.n1.2; intro e; dsimp only at e; omega)]; exact HV8.out)
          have HN := fun i => blk_cell HV9.out i
          have t0 := HN 0
          have t1 := HN 1
          have t2 := HN 2
          have t3 := HN 3
          have t4 := HN 4
          have t5 := HN 5
          have t6 := HN 6
          have t7 := HN 7
          have t8 := HN 8
          clear HN
          simp at t0 t1 t2 t3 t4 t5 t6 t7 t8
          go_upto_region 24 with (fail)
          have HS9 := Lib.hid (show w7.heap.size ≤ W9.heap.size ∧ w7.heap.size < W9.heap.size from by have := blk_lt HV9.out; omega)
          have HB19 := Lib.hid (show Below W1.heap.size W1 W9 from by rw [← hW9]; exact (HC.out.below.trans (HB8.out.mono HC.out.below.size)).setCell HC.out.n1.1 _)
          clear hW9 e1 f1 m8
          have HFT := Lib.hid (fun (wx : World) (hx : Below W9.heap.size W9 wx) => show ∀ b, (W1.heap.size ≤ b ∧ b < w7.heap.size) → b < wx.heap.size from fun b hb => by have := hx.size; have := HS9.out.1; omega)
          have HIS := Lib.hid (is_t HT.out (HFT.out W9 (Below.refl _ _)) (check_sound (turn_sound HG4.out.geo (v := v) HNL.out HS.out)))
          have HTB := Lib.hid (fun (wx : World) (hx : Below W9.heap.size W9 wx) => show Calls Try.prog 12 _ wx (fun e w' => ∃ A cap, e = .returned (.slice A im.blocks.length cap) ∧ im.blocks.length ≤ cap ∧ RowB (fun b => wx.heap.size ≤ b ∧ b < w'.heap.size) w' A im.blocks ∧ Below wx.heap.size wx w') from by
            have := Blocks_c (HT.out.keep (w' := wx) (fun b hb => hx.block b (by have := HS9.out.1; omega))) (HFT.out wx hx)
            unfold BlocksP at this
            rw [turn_told HG4.out.geo HNL.out HS.out] at this
            exact this)
          rw [turn_cellsV] at HIS HTB
          unfold Im.cells at HIS HTB
          dsimp only at HIS HTB
          go_wp2_with (first
            | (go_at_call 13; refine HIS.out.mono ?_; rintro e w10 ⟨rfl, hb10⟩; have HB10 := Lib.hid (show Below W9.heap.size W9 w10 from hb10); have HV10 := Lib.hid ((HB10.out.block _ HS9.out.2).trans HV9.out); have HN := fun i => blk_cell HV10.out i; have z0 := HN 0; have z1 := HN 1; have z2 := HN 2; have z3 := HN 3; have z4 := HN 4; have z5 := HN 5; have z6 := HN 6; have z7 := HN 7; have z8 := HN 8; clear HN hb10; simp at z0 z1 z2 z3 z4 z5 z6 z7 z8)
            | (go_at_call 12; refine (HTB.out w10 HB10.out).mono ?_; rintro e w11 ⟨A2, cap2, rfl, hc2, hr2, hb11⟩; have HR2 := Lib.hid hr2; have HB11 := Lib.hid (HB10.out.trans (hb11.mono HB10.out.size)); clear hc2 hr2 hb11)
            | (go_at_call 14; refine (Same_t (F := fun _ => True) (HR2.out.mono (fun _ _ => trivial)) ((HR1.out.keep (fun b hb => (HB61.out.trans ((HB19.out.trans (HB11.out.mono HB19.out.size)).mono HB61.out.size)).block b hb.2)).mono (fun _ _ => trivial)) (by have := HTL.out; omega)).mono ?_; rintro e w12 ⟨rfl, n12, hw12⟩; have HB12 := Lib.hid (show Below w11.heap.size w11 w12 from by rw [hw12]; exact pw_below_drewN (Below.refl _ _) n12); clear hw12))
          go_ret
          exact ⟨rfl, HBL.out _ (HBW1.out.trans (((HB19.out.trans (HB11.out.mono HB19.out.size)).trans (HB12.out.mono (Nat.le_trans HB19.out.size HB11.out.size))).mono HBW1.out.size))⟩
        | true =>
          go_wp2
          go_ret
          exact ⟨rfl, HBL.out _ HBW1.out⟩
    obtain ⟨t1, t2⟩ := lt_dec hk
    have hkI : (k : Int) < (im.blocks.length : Int) := by omega
    obtain ⟨g1, rfl⟩ := lp_pos hkg.out hk
    have HGG := Lib.hid (lp_step hkg.out)
    have n7 : wrap64 ((k : Int) + 1) = (k : Int) + 1 := up1 (by have := HTL.out; omega)
    have HXK := Lib.hid (fun (wx : World) (hx : Below w6.heap.size w6 wx) => HXX.out wx hx k hk)
    have HMB := Lib.hid (mem_getD hk)
    have hbn := HBN.out k hk
    obtain ⟨aa, eA, -, -⟩ := HR1.out (Nat.lt_of_le_of_lt (Nat.zero_le _) hk)
    subst eA
    generalize im.blocks.getD k (0, 0) = b at *
    obtain ⟨q, z⟩ := b
    dsimp only at hbn HXK
    clear hkg hbl hbd
    go_wp2
    by_cases q1 : q ≤ p
    case neg =>
      have e1 : decide (q ≤ p) = false := decide_eq_false q1
      refine qg_region (by kernel_rfl) (by kernel_rfl) ?_
      iterate 5 (refine qg_want (by kernel_rfl) (fun K hK => ?_); go_simp; (first | refine ⟨_, fun _ _ => rfl, hK _ ?_⟩ | refine hK _ ?_); clear hK K)
      iterate 1 (refine qg_want (by kernel_rfl) (fun K hK => ?_); go_simp; apply Exists.intro; refine ⟨fun wx hx => ?_, hK _ ?_⟩; ((obtain ⟨z0, z1⟩ := HXK.out wx (HBW.out.trans (hx.mono HBW.out.size)) _ rfl); go_simp; try rfl); clear hK K)
      iterate 2 (refine qg_want (by kernel_rfl) (fun K hK => ?_); go_simp; (first | refine ⟨_, fun _ _ => rfl, hK _ ?_⟩ | refine hK _ ?_); clear hK K)
      iterate 13 (refine qg_skip (by kernel_rfl) ?_; simp only [Act.put, List.setIfInBounds_toArray, List.set_cons_succ, List.set_cons_zero])
      iterate 1 (refine qg_want (by kernel_rfl) (fun K hK => ?_); go_simp; (first | refine ⟨_, fun _ _ => rfl, hK _ ?_⟩ | refine hK _ ?_); clear hK K)
      refine qg_nil (fun w9 hw9 => ?_)
      have HB9 := Lib.hid (HBW.out.trans (hw9.mono HBW.out.size))
      clear hw9
      go_wp2
      go_roundg g1
      case measure => omega
      case rel => exact ⟨k + 1, bd, by simp, by simp; try exact n7, ⟨HGG.out⟩, ⟨HB9.out⟩, ⟨HBD.out⟩⟩
    have e1 : decide (q ≤ p) = true := decide_eq_true q1
    obtain ⟨w1, -⟩ := hbn q1
    by_cases q2 : p - q < z
    case neg =>
      have e2 : decide (p - q < z) = false := decide_eq_false q2
      refine qg_region (by kernel_rfl) (by kernel_rfl) ?_
      iterate 5 (refine qg_want (by kernel_rfl) (fun K hK => ?_); go_simp; (first | refine ⟨_, fun _ _ => rfl, hK _ ?_⟩ | refine hK _ ?_); clear hK K)
      iterate 1 (refine qg_want (by kernel_rfl) (fun K hK => ?_); go_simp; apply Exists.intro; refine ⟨fun wx hx => ?_, hK _ ?_⟩; ((obtain ⟨z0, z1⟩ := HXK.out wx (HBW.out.trans (hx.mono HBW.out.size)) _ rfl); go_simp; try rfl); clear hK K)
      iterate 2 (refine qg_want (by kernel_rfl) (fun K hK => ?_); go_simp; (first | refine ⟨_, fun _ _ => rfl, hK _ ?_⟩ | refine hK _ ?_); clear hK K)
      iterate 5 (refine qg_want (by kernel_rfl) (fun K hK => ?_); go_simp; (first | refine ⟨_, fun _ _ => rfl, hK _ ?_⟩ | refine hK _ ?_); clear hK K)
      iterate 1 (refine qg_want (by kernel_rfl) (fun K hK => ?_); go_simp; apply Exists.intro; refine ⟨fun wx hx => ?_, hK _ ?_⟩; ((obtain ⟨z0, z1⟩ := HXK.out wx (HBW.out.trans (hx.mono HBW.out.size)) _ rfl); go_simp; try rfl); clear hK K)
      iterate 5 (refine qg_want (by kernel_rfl) (fun K hK => ?_); go_simp; (first | refine ⟨_, fun _ _ => rfl, hK _ ?_⟩ | refine hK _ ?_); clear hK K)
      iterate 1 (refine qg_want (by kernel_rfl) (fun K hK => ?_); go_simp; apply Exists.intro; refine ⟨fun wx hx => ?_, hK _ ?_⟩; ((obtain ⟨z0, z1⟩ := HXK.out wx (HBW.out.trans (hx.mono HBW.out.size)) _ rfl); go_simp; try rfl); clear hK K)
      iterate 2 (refine qg_want (by kernel_rfl) (fun K hK => ?_); go_simp; (first | refine ⟨_, fun _ _ => rfl, hK _ ?_⟩ | refine hK _ ?_); clear hK K)
      refine qg_nil (fun w9 hw9 => ?_)
      have HB9 := Lib.hid (HBW.out.trans (hw9.mono HBW.out.size))
      clear hw9
      go_wp2
      go_roundg g1
      case measure => omega
      case rel => exact ⟨k + 1, bd, by simp, by simp; try exact n7, ⟨HGG.out⟩, ⟨HB9.out⟩, ⟨HBD.out⟩⟩
    case pos =>
      have e2 : decide (p - q < z) = true := decide_eq_true q2
      have HIN := Lib.hid (show ∃ b ∈ im.blocks, b.1 ≤ p ∧ p - b.1 < b.2 from ⟨(q, z), HMB.out, q1, q2⟩)
      refine qg_region (by kernel_rfl) (by kernel_rfl) ?_
      iterate 5 (refine qg_want (by kernel_rfl) (fun K hK => ?_); go_simp; (first | refine ⟨_, fun _ _ => rfl, hK _ ?_⟩ | refine hK _ ?_); clear hK K)
      iterate 1 (refine qg_want (by kernel_rfl) (fun K hK => ?_); go_simp; apply Exists.intro; refine ⟨fun wx hx => ?_, hK _ ?_⟩; ((obtain ⟨z0, z1⟩ := HXK.out wx (HBW.out.trans (hx.mono HBW.out.size)) _ rfl); go_simp; try rfl); clear hK K)
      iterate 2 (refine qg_want (by kernel_rfl) (fun K hK => ?_); go_simp; (first | refine ⟨_, fun _ _ => rfl, hK _ ?_⟩ | refine hK _ ?_); clear hK K)
      iterate 5 (refine qg_want (by kernel_rfl) (fun K hK => ?_); go_simp; (first | refine ⟨_, fun _ _ => rfl, hK _ ?_⟩ | refine hK _ ?_); clear hK K)
      iterate 1 (refine qg_want (by kernel_rfl) (fun K hK => ?_); go_simp; apply Exists.intro; refine ⟨fun wx hx => ?_, hK _ ?_⟩; ((obtain ⟨z0, z1⟩ := HXK.out wx (HBW.out.trans (hx.mono HBW.out.size)) _ rfl); go_simp; try rfl); clear hK K)
      iterate 5 (refine qg_want (by kernel_rfl) (fun K hK => ?_); go_simp; (first | refine ⟨_, fun _ _ => rfl, hK _ ?_⟩ | refine hK _ ?_); clear hK K)
      iterate 1 (refine qg_want (by kernel_rfl) (fun K hK => ?_); go_simp; apply Exists.intro; refine ⟨fun wx hx => ?_, hK _ ?_⟩; ((obtain ⟨z0, z1⟩ := HXK.out wx (HBW.out.trans (hx.mono HBW.out.size)) _ rfl); go_simp; try rfl); clear hK K)
      iterate 2 (refine qg_want (by kernel_rfl) (fun K hK => ?_); go_simp; (first | refine ⟨_, fun _ _ => rfl, hK _ ?_⟩ | refine hK _ ?_); clear hK K)
      refine qg_nil (fun w9 hw9 => ?_)
      have HB9 := Lib.hid (HBW.out.trans (hw9.mono HBW.out.size))
      clear hw9
      go_wp2
      go_roundg g1
      case measure => omega
      case rel => exact ⟨k + 1, false, by simp, by simp; try exact n7, ⟨HGG.out⟩, ⟨HB9.out⟩, ⟨fun _ => HIN.out⟩⟩
end
end Go.Proofs.Ytkgedpcipaogjaa.WB
