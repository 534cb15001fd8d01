/- Part 11 of what the rows of this seat rest on: words of the print that they need; how images, spaces, sets lie in memory; the functions walked. -/
import Derived.Laws.MakeOwn
import Derived.Test.YtkgedpcipaogjaaZ5
import Derived.Test.YtkgedpcipaogjaaZ6
import Derived.Test.YtkgedpcipaogjaaZ8
import Derived.Test.YtkgedpcipaogjaaZ10
section
namespace Go.Proofs.Ytkgedpcipaogjaa.WB
open Go Go.RowKit Go.Proofs.YtkgedpcipaogjaaW.PrintWords Go.Proofs.YtkgedpcipaogjaaW.PrintLast Go.Proofs.YtkgedpcipaogjaaW.PrintMore
set_option linter.unusedVariables false
set_option linter.unusedSimpArgs false
theorem infoBool : (Try.prog.info? 4).map (fun i => (i.zero, i.size, i.bytes)) = some (some (.bool false), 1, 1) := by kernel_rfl
theorem made_rep (n : Nat) (v : Value) : madeCells #[v] n = Array.replicate n v := by
  unfold madeCells
  apply Array.ext
  · simp
  · intro i h1 h2
    simp only [Array.getElem_map, Array.getElem_replicate, Array.getElem_range]
    have : i % (#[v] : Array Value).size = 0 := Nat.mod_one i
    rw [this]
    rfl
theorem make_bools (n : Nat) (hn : n ≤ 256) (w : World) : (Instr.makeSlice 126 (.int .i64 (n : Int)) (.int .i64 (n : Int))).run Try.prog w = .ok (.slice (some ⟨w.heap.size, 0, none⟩) n n) (w.alloc (.cells (Array.replicate n (.bool false)) 4)) := by
  obtain ⟨i, hi, hz, hs, hb⟩ := info_parts infoBool
  have h := run_makeSlice w 126 4 i (.bool false) (by kernel_rfl) hi hz .i64 .i64 (n : Int) (n : Int) (by omega) (by omega) (by rw [hs]; omega) (by rw [hb]; omega) (by omega)
  rw [hs, Int.toNat_natCast, Nat.mul_one] at h
  rw [h, show (Value.bool false).cells = #[Value.bool false] from rfl, made_rep]
def Met (mb n : Nat) (acc : List Nat) (w : World) : Prop := ∃ arr : Array Value, w.heap[mb]? = some (.cells arr 4 (0, 0)) ∧ arr.size = n ∧ ∀ x, x < n → arr[x]? = some (.bool (acc.contains x))
theorem Met.cell {mb n : Nat} {acc : List Nat} {w : World} (h : Met mb n acc w) {x : Nat} (hx : x < n) : w.cell? ⟨mb, x, none⟩ = some (.bool (acc.contains x)) ∧ w.frozen? ⟨mb, x, none⟩ = false := by
  obtain ⟨arr, h1, h2, h3⟩ := h
  exact ⟨(blk_cell h1 x).trans (h3 x hx), blk_frozen h1 x⟩
theorem Met.lt {mb n : Nat} {acc : List Nat} {w : World} (h : Met mb n acc w) : mb < w.heap.size := by
  obtain ⟨arr, h1, -⟩ := h
  exact blk_lt h1
theorem Met.keep {mb n : Nat} {acc : List Nat} {w w' : World} (h : Met mb n acc w) (hb : Below w.heap.size w w') : Met mb n acc w' := by
  obtain ⟨arr, h1, h2, h3⟩ := h
  exact ⟨arr, (hb.block _ (blk_lt h1)).trans h1, h2, h3⟩
theorem Met.put {mb n : Nat} {acc : List Nat} {w : World} (h : Met mb n acc w) {x : Nat} (hx : x < n) : Met mb n (x :: acc) (w.setCell ⟨mb, x, none⟩ (.bool true)) := by
  obtain ⟨arr, h1, h2, h3⟩ := h
  refine ⟨_, blk_put h1 x (.bool true) rfl, by simp [h2], fun y hy => ?_⟩
  rw [Array.getElem?_setIfInBounds]
  by_cases e : x = y
  · subst e
    rw [if_pos rfl, if_pos (by omega)]
    simp
  · rw [if_neg e, h3 y hy]
    simp [Ne.symm e]
theorem Met.new (w : World) (n : Nat) : Met w.heap.size n [] (w.alloc (.cells (Array.replicate n (.bool false)) 4)) :=
  ⟨_, blk_new w _, by simp, fun x hx => by simp [hx]⟩
theorem below_put {W w : World} {mb x : Nat} {v : Value} (h : Below W.heap.size W w) (hm : W.heap.size ≤ mb) : Below W.heap.size W (w.setCell ⟨mb, x, none⟩ v) :=
  ⟨h.os, h.tape, h.output, by have := h.size; simpa [World.setCell] using this, fun b hb => (Below.heap_setCell w ⟨mb, x, none⟩ v b (show b ≠ mb by omega)).trans (h.block b hb)⟩
theorem word_in2 {F : Nat → Prop} {g : Nat} {im : Im} {s : Sl} {WA wx : World} (hv : ∀ wr, Below WA.heap.size WA wr → VI F g im s wr) (hF : ∀ b, F b → b < WA.heap.size) (hx : Below WA.heap.size WA wx) {off : Nat} (ho : off + 8 ≤ im.mem.length) {r : Int} (hr : wordM im.mem off = r) :
    Calls Try.prog 75 #[.agg (im.cells s), .int .u64 (off : Int)] wx fun e w' => e = .returned (.int .u64 r) ∧ Below wx.heap.size wx w' :=
  hr ▸ word_d (hv wx hx).im (fun b hb => Nat.lt_of_lt_of_le (hF b hb) hx.size) off ho
theorem crf_bad {n : Nat} {lv : Nat → Bool} {nx : Nat → Nx} {d : Nat} {i : Int} {acc : List Nat} (h : ¬ (0 ≤ i ∧ i < n ∧ lv i.toNat = false ∧ acc.contains i.toNat = false)) : crf n lv nx (d + 1) i acc = false := by
  rw [crf, if_neg h]
theorem crf_to {n : Nat} {lv : Nat → Bool} {nx : Nat → Nx} {d c : Nat} {acc : List Nat} (h1 : c < n) (h2 : lv c = false) (h3 : acc.contains c = false) {w l : Int} (h : nx c = if w = 0 then .fin else if l < 0 then .bad else .onto l.toNat) (hl : w = 0 → l = -1) :
    crf n lv nx (d + 1) (c : Int) acc = if w ≠ 0 ∧ l < 0 then false else crf n lv nx d l (c :: acc) := by
  rw [crf, if_pos ⟨by omega, by omega, by rw [Int.toNat_natCast]; exact h2, by rw [Int.toNat_natCast]; exact h3⟩, Int.toNat_natCast, h]
  by_cases hw : w = 0
  · rw [if_pos hw, if_neg (fun hh => hh.1 hw), hl hw]
  · rw [if_neg hw]
    by_cases hl0 : l < 0
    · rw [if_pos hl0, if_pos ⟨hw, hl0⟩]
    · rw [if_neg hl0, if_neg (fun hh => hl0 hh.2)]
      have : ((l.toNat : Nat) : Int) = l := by omega
      simp only [this]
theorem down1 {g : Nat} (h : g ≤ 256) : wrap64 (g : Int) = (g : Int) := by unfold wrap64; omega
theorem ge_dec {c n : Nat} (h : ¬ c < n) : decide ((c : Int) ≥ (n : Int)) = true ∧ decide (n ≤ c) = true := ⟨decide_eq_true (by omega), decide_eq_true (by omega)⟩
theorem nge_dec {c n : Nat} (h : c < n) : decide ((c : Int) ≥ (n : Int)) = false ∧ decide (n ≤ c) = false := ⟨decide_eq_false (by omega), decide_eq_false (by omega)⟩
def d9F (im : Im) (i : Nat) : Option Int := if (im.pg i).kd = 4 ∧ cellsB im i = false then some i else none
theorem cell_nums9 {im : Im} {o r : Nat} (g : Geo im o r) {k : Nat} (hk : k < im.pages.length) (h0 : 0 ≤ (im.pg k).cl) (h7 : (im.pg k).cl ≤ 7) {n z : Nat} (hn : cellsN (im.pg k).cl = n) (hz : cellZ (im.pg k) = z) :
    n * z = 4096 ∧ n ≤ 256 ∧ 0 < n ∧ 16 ≤ z ∧ Int.tdiv 4096 (n : Int) = (z : Int) ∧ wrap64 (z : Int) = (z : Int) ∧ IntKind.u64.wrap (z : Int) = (z : Int) ∧ ¬ n = 0 ∧ IntKind.u64.wrap (k : Int) = (k : Int) ∧ IntKind.u64.wrap (4096 * (k : Int)) = 4096 * (k : Int) ∧ IntKind.u64.wrap (im.base + 4096 * (k : Int)) = im.base + 4096 * (k : Int) ∧ 4096 * (k : Int) + 4096 ≤ im.mem.length ∧ 4096 / (n : Int) = (z : Int) := by
  obtain ⟨c, -, hc7, n1, n2, n3⟩ := cell_page h0 h7
  have hzz : 16 * 2 ^ (im.pg k).cl.toNat = z := hz
  rw [hn, hzz] at n3
  have hn2 : n = 2 ^ (8 - c) := by rw [← hn]; exact n1
  have hz2 : z = 2 ^ (4 + c) := by rw [← hzz]; exact n2
  have p1 : (2 : Nat) ^ (8 - c) ≤ 2 ^ 8 := Nat.pow_le_pow_right (by decide) (by omega)
  have p2 : (2 : Nat) ^ 4 ≤ 2 ^ (4 + c) := Nat.pow_le_pow_right (by decide) (by omega)
  have p3 : 0 < (2 : Nat) ^ (8 - c) := Nat.pow_pos (by decide)
  rw [← hn2] at p1 p3
  rw [← hz2] at p2
  have hq : 4096 / n = z := by rw [← n3]; exact Nat.mul_div_cancel_left z p3
  have hqI : 4096 / (n : Int) = (z : Int) := by rw [← hq]; rfl
  have hzle : z ≤ 4096 := by rw [← hq]; exact Nat.div_le_self _ _
  have hm := g.mem
  have hnn := g.n
  have h1024 := g.n1024
  have htop := g.top
  have hb0 := g.base0
  unfold Im.n at hnn h1024
  clear n1 n2 hn2 hz2 hq hc7 hn hz hzz
  refine ⟨n3, by omega, p3, by omega, by rw [Int.tdiv_eq_ediv_of_nonneg (by decide)]; exact hqI, ?_, ?_, by omega, ?_, ?_, ?_, by omega, hqI⟩
  · clear n3 hqI; unfold wrap64; omega
  all_goals
    clear n3 hqI
    rw [wrap_u64]
    omega
theorem cell_off9 {im : Im} {n z c k : Nat} (hnz : n * z = 4096) (hc : c < n) (hm : 4096 * (k : Int) + 4096 ≤ im.mem.length) (hk : (k : Int) < 1024) {zc off : Nat} (hzc : zc = c * z) (ho : off = 4096 * k + zc) (hz16 : 16 ≤ z) :
    (z : Int) * (c : Int) = (zc : Int) ∧ IntKind.u64.wrap (c : Int) = (c : Int) ∧ IntKind.u64.wrap (zc : Int) = (zc : Int) ∧ IntKind.u64.wrap (4096 * (k : Int) + (zc : Int)) = (off : Int) ∧ off + 8 ≤ im.mem.length ∧ zc ≤ 4096 := by
  have h1 : (c + 1) * z ≤ n * z := Nat.mul_le_mul_right z hc
  rw [Nat.succ_mul, hnz, ← hzc] at h1
  have hcz : c ≤ zc := by rw [hzc]; exact Nat.le_mul_of_pos_right c (by omega)
  refine ⟨by rw [hzc, Int.natCast_mul, Int.mul_comm], ?_, ?_, ?_, by omega, by omega⟩
  all_goals
    clear hzc hnz
    rw [wrap_u64]
    omega
theorem cell_adr9 {im : Im} {o r : Nat} (g : Geo im o r) {k zc : Nat} (hk : k < im.pages.length) (hzc : zc ≤ 4096) : IntKind.u64.wrap (im.base + 4096 * (k : Int) + (zc : Int)) = im.base + 4096 * (k : Int) + (zc : Int) := by
  have hm := g.mem
  have hnn := g.n
  have htop := g.top
  have hb0 := g.base0
  unfold Im.n at hnn
  rw [wrap_u64]
  omega
section
variable {F : Nat → Prop} {im : Im} {s : Sl} {w : World}
set_option maxRecDepth 100000 in
set_option maxHeartbeats 8000000 in
theorem cells9_d (h : ImAt F w im s) (hF : ∀ b, F b → b < w.heap.size) {o r : Nat} (g : Geo im o r) (hR : ∀ i, i < im.pages.length → Rng im.order ((im.n : Int) - 1) (im.pg i)) (hS : ∀ i, i < im.pages.length → (im.pg i).kd = 4 → slabB (im.pg i) = true) : Calls Try.prog 48 #[.agg (im.cells s)] w (DocP w (.int .i64 (doc (R9 im)))) := by
  obtain ⟨A, a, B, b, C, c, D, d, E, e⟩ := s
  obtain ⟨WA, hWA⟩ : ∃ W, w.alloc (imO im ⟨A, a, B, b, C, c, D, d, E, e⟩) = W := ⟨_, rfl⟩
  obtain ⟨hsa, hbl, hvl⟩ := box_facts h hF hWA
  have HBL := Lib.hid hbl
  have HVL := Lib.hid hvl
  have HFA := Lib.hid (show ∀ b, F b → b < WA.heap.size from fun b hb => by have := hF b hb; omega)
  have HWF := Lib.hid h.wf
  have hl := len_i64 h.wf
  obtain ⟨c0, c1, c2, c3, c4, c5, c6, c7, c8⟩ := (hvl WA (Below.refl _ _)).cell
  dsimp only at c0 c1 c2 c3 c4 c5 c6 c7 c8
  unfold imO Im.cells at hWA
  unfold Im.cells
  clear h hF hvl hbl
  have HR := Lib.hid hR
  have HS := Lib.hid hS
  have HGEO := Lib.hid g
  have HN1024 := Lib.hid (show im.pages.length ≤ 1024 from g.n1024)
  clear hR hS g
  go_enter Try.func48, Try.ntmps48
  go_wp2
  clear hWA c0 c1 c2 c3 c4 c5 c6 c7 c8
  go_loopg [3] im.pages.length (fun g v wr => ∃ k : Nat, v = .int .i64 (k : Int) ∧ Aside0 (k + g = im.pages.length) ∧ Aside0 (Below WA.heap.size WA wr) ∧ Aside0 (scan (d9F im) g k = R9 im))
  case atStart => exact ⟨0, rfl, ⟨by omega⟩, ⟨Below.refl _ _⟩, ⟨rfl⟩⟩
  case round =>
    obtain ⟨k, rfl, hkg, hbe, hsc⟩ := hrel
    obtain ⟨-, -, -, -, -, c5, -, -, -⟩ := (HVL.out wr hbe.out).cell
    dsimp only at c5
    by_cases hk : k < im.pages.length
    case neg =>
      have hkd : decide ((k : Int) < (im.pages.length : Int)) = false := decide_eq_false (by omega)
      have hkd' : decide (k < im.pages.length) = false := decide_eq_false hk
      have HX := Lib.hid (show R9 im = none by have h := hsc.out; rw [show gk = 0 by have := hkg.out; omega, scan] at h; exact h.symm)
      clear hk
      go_wp2
      go_ret
      exact ⟨by rw [HX.out]; rfl, HBL.out _ hbe.out⟩
    have hkI : (k : Int) < (im.pages.length : Int) := by omega
    have hkd : decide ((k : Int) < (im.pages.length : Int)) = true := decide_eq_true hkI
    have hkd' : decide (k < im.pages.length) = true := decide_eq_true hk
    obtain ⟨g1, rfl⟩ : ∃ g1, gk = g1 + 1 := ⟨gk - 1, by have := hkg.out; omega⟩
    obtain ⟨ad, he, -, p0, p1, p2, p3, p4, p5, p6, p7, p8, p9, p10⟩ := (HVL.out wr hbe.out).page k hk
    dsimp only at he
    subst he
    obtain ⟨W1, hW1⟩ : ∃ W, wr.alloc (pageO (im.pg k)) = W := ⟨_, rfl⟩
    obtain ⟨hlt1, hb1, hpv⟩ := pg_facts hbe.out hW1
    have HB1 := Lib.hid hb1
    have HLT1 := Lib.hid hlt1
    have HPV := Lib.hid hpv
    obtain ⟨q0, q1, q2, q3, q4, q5, q6, q7, q8, q9, q10⟩ := hpv W1 rfl
    obtain ⟨d0, d1, d2, d3, d4, d5, d6, d7, d8⟩ := (HVL.out W1 hb1).cell
    dsimp only at d0 d1 d2 d3 d4 d5 d6 d7 d8
    have HK := Lib.hid hk
    have HG := Lib.hid (show k + 1 + g1 = im.pages.length by have := hkg.out; omega)
    have HBAD := Lib.hid (show ∀ pl, d9F im k = some pl → R9 im = some pl from fun pl h => hsc.out.symm.trans (scan_bad h))
    have HGOOD := Lib.hid (show d9F im k = none → scan (d9F im) g1 (k + 1) = R9 im from fun h => (scan_ok h).symm.trans hsc.out)
    unfold pageO at hW1
    clear hk hbe hb1 hlt1 hpv hsc hkg
    have hR : d9F im k = if (im.pg k).kd = 4 ∧ cellsB im k = false then some (k : Int) else none := rfl
    rw [hR] at HBAD HGOOD
    clear hR
    by_cases h0 : (im.pg k).kd = 4
    case neg =>
      have e0 : ((im.pg k).kd != 4) = true := by simpa using h0
      have HX := Lib.hid (HGOOD.out (if_neg (fun hh => h0 hh.1)))
      clear h0
      go_wp2
      go_roundg g1
      case measure => omega
      case rel => exact ⟨k + 1, by simp, ⟨HG.out⟩, ⟨HB1.out⟩, ⟨HX.out⟩⟩
    have e0 : ((im.pg k).kd != 4) = false := by simpa using h0
    have HCELL := Lib.hid (fun wx => cells_d (im.pg k) (HR.out k HK.out).cl.1 (HR.out k HK.out).cl.2 wx)
    have HHAS := Lib.hid (has_d (im.pg k) (HWF.out.pg HK.out))
    have hlv := slab_lv (HS.out k HK.out h0)
    have hce := cells_eq (im := im) (i := k) (by omega) hlv.1
    rw [hce] at HBAD HGOOD
    have HNXD := Lib.hid (fun (c : Nat) {w l : Int} => nxC_doc (im := im) (i := k) (HR.out k HK.out).cl.1 (HR.out k HK.out).cl.2 HGEO.out.base0 HGEO.out.base c (w := w) (l := l))
    obtain ⟨n, hn⟩ : ∃ n, cellsN (im.pg k).cl = n := ⟨_, rfl⟩
    obtain ⟨z, hz⟩ : ∃ z, cellZ (im.pg k) = z := ⟨_, rfl⟩
    obtain ⟨m1, m2, m3, m4, m5, m6, m7, m8, m9, m10, m11, m12, m13⟩ := cell_nums9 HGEO.out HK.out (HR.out k HK.out).cl.1 (HR.out k HK.out).cl.2 hn hz
    rw [hn] at HCELL HBAD HGOOD HNXD hlv
    rw [hz] at HNXD
    obtain ⟨lv, hlve⟩ : ∃ lv : Nat, (im.pg k).lv = lv := ⟨(im.pg k).lv.toNat, by omega⟩
    rw [hlve, Int.toNat_natCast] at HBAD HGOOD
    rw [hlve] at q3 hlv
    obtain ⟨dd, hdd⟩ : ∃ dd, n - lv = dd := ⟨_, rfl⟩
    have hlw : wrap64 ((n : Int) - (lv : Int)) = (dd : Int) := by clear m1 m13 m5; unfold wrap64; omega
    rw [hdd] at HBAD HGOOD
    have HLW := Lib.hid hlw
    have HDD := Lib.hid hdd
    obtain ⟨R, hRR⟩ : ∃ R, crf n (im.pg k).bit (nxC im k) dd (im.pg k).fs [] = R := ⟨_, rfl⟩
    have HRR := Lib.hid hRR
    rw [hRR] at HBAD HGOOD
    have HBAD2 := Lib.hid (show R = false → R9 im = some (k : Int) from fun h => HBAD.out _ (if_pos ⟨h0, h⟩))
    have HGOOD2 := Lib.hid (show R = true → scan (d9F im) g1 (k + 1) = R9 im from fun h => HGOOD.out (if_neg (fun hh => by rw [h] at hh; cases hh.2)))
    have hms : ∀ w : World, _ := make_bools n m2
    have M1 := Lib.hid m1
    have M2 := Lib.hid m2
    have M4 := Lib.hid m4
    have M12 := Lib.hid m12
    obtain ⟨fs, hfs⟩ : ∃ fs, (im.pg k).fs = fs := ⟨_, rfl⟩
    rw [hfs] at HRR q6
    have HLV := Lib.hid hlve
    have HFS := Lib.hid hfs
    have HP3 : (im.pg k).lv = (lv : Int) := hlve
    unfold Pg.vals at HCELL HHAS
    rw [HP3, hfs] at HCELL HHAS
    have m3I : (0 : Int) < (n : Int) := by omega
    have m8' : ¬ (n : Int) = 0 := by omega
    clear h0 hn hz hlve hdd hRR hlv hce m1 m2 m4 m12 m13 hfs HP3 HBAD HGOOD m3
    go_wp2_with (go_at_call 31; refine (HCELL.out _).mono ?_; rintro e w5 ⟨rfl, hb5⟩; obtain ⟨W6, hW6⟩ : ∃ W, w5.alloc (.cells (Array.replicate n (.bool false)) 4) = W := ⟨_, rfl⟩; have hb6 : Below W1.heap.size W1 W6 := (by rw [← hW6]; exact hb5.alloc hb5.size _); have HB6 := Lib.hid hb6; have HMET := Lib.hid (show Met w5.heap.size n [] W6 by rw [← hW6]; exact Met.new w5 n); have HMB := Lib.hid hb5.size; obtain ⟨r0, r1, r2, r3, r4, r5, r6, r7, r8, r9, r10⟩ := HPV.out W6 (hb6.block _ HLT1.out); rw [HLV.out] at r3; rw [HFS.out] at r6; clear hb5 hb6)
    clear p0 p1 p2 p3 p4 p5 p6 p7 p8 p9 p10 q0 q1 q2 q3 q4 q5 q6 q7 q8 q9 q10 d0 d1 d2 d3 d4 d5 d6 d7 d8 r0 r1 r2 r3 r4 r5 r6 r7 r8 r9 r10 hW1 hW6 c5 hms hkd hkd' hlw m5 m6 m7 m8 m8' e0
    generalize w5.heap.size = mb at *
    obtain ⟨HM⟩ : Aside0 (W1.heap.size ≤ mb) := ⟨HMB.out⟩
    have HM := Lib.hid HM
    clear HMB
    go_loopg [8, 9, 10, 11, 12, 41, 42, 43, 44, 45, 46, 47, 48, 49, 50, 51, 52, 53, 54, 55, 56, 57, 58, 59, 60, 61, 62, 63, 64, 65, 66, 67, 68, 69, 70, 71, 72, 73, 74, 75, 76, 77, 78, 79, 80, 81, 82, 83, 84, 85, 86, 87, 88, 89, 90, 91, 92, 93, 94, 95, 96, 97, 98, 99, 100, 101, 102, 103, 104] dd (fun g v8 v9 _ _ _ _ _ _ _ _ _ _ _ _ _ _ _ _ _ _ _ _ _ _ _ _ _ _ _ _ _ _ _ _ _ _ _ _ _ _ _ _ _ _ _ _ _ _ _ _ _ _ _ _ _ _ _ _ _ _ _ _ _ _ _ _ _ _ _ wi => ∃ (i : Int) (acc : List Nat), v8 = .int .i64 i ∧ v9 = .int .i64 (g : Int) ∧ Aside0 (g ≤ 256) ∧ Aside0 (crf n (im.pg k).bit (nxC im k) g i acc = R) ∧ Aside0 (Below W1.heap.size W1 wi) ∧ Aside0 (Met mb n acc wi))
    case atStart => exact ⟨fs, [], rfl, by rw [HLW.out], ⟨by have := M2.out; have := HDD.out; omega⟩, ⟨HRR.out⟩, ⟨HB6.out⟩, ⟨HMET.out⟩⟩
    case round =>
      obtain ⟨i, acc, rfl, rfl, hgb, hcr, hbi, hmet⟩ := hrel
      have HBI := Lib.hid hbi.out
      have HMT := Lib.hid hmet.out
      have HCR := Lib.hid hcr.out
      obtain ⟨c0, c1, c2, c3, c4, c5, c6, c7, c8⟩ := (HVL.out wr (HB1.out.trans (hbi.out.mono HB1.out.size))).cell
      dsimp only at c0 c1 c2 c3 c4 c5 c6 c7 c8
      obtain ⟨q0, q1, q2, q3, q4, q5, q6, q7, q8, q9, q10⟩ := HPV.out wr (hbi.out.block _ HLT1.out)
      rw [HLV.out] at q3
      rw [HFS.out] at q6
      clear hbi hmet
      by_cases hg0 : 0 < gk
      case neg =>
        have g0 : decide ((0 : Int) < (gk : Int)) = false := decide_eq_false (by omega)
        have g0' : decide (0 < gk) = false := decide_eq_false hg0
        have hR0 : (i == -1) = R := by have h := hcr.out; rw [show gk = 0 by omega, crf] at h; exact h
        clear hg0 hcr
        by_cases hi1 : i = -1
        · have i0 : (i != -1) = false := by simpa using hi1
          have HX := Lib.hid (HGOOD2.out (by rw [← hR0]; simpa using hi1))
          clear hR0 hi1
          go_wp2
          go_roundg g1
          case measure => omega
          case rel => exact ⟨k + 1, by simp, ⟨HG.out⟩, ⟨HB1.out.trans (HBI.out.mono HB1.out.size)⟩, ⟨HX.out⟩⟩
        · have i0 : (i != -1) = true := by simpa using hi1
          have HX := Lib.hid (HBAD2.out (by rw [← hR0]; simpa using hi1))
          clear hR0 hi1
          go_wp2
          go_ret
          exact ⟨by rw [HX.out]; rfl, HBL.out _ (HB1.out.trans (HBI.out.mono HB1.out.size))⟩
      have g0 : decide ((0 : Int) < (gk : Int)) = true := decide_eq_true (by omega)
      have g0' : decide (0 < gk) = true := decide_eq_true hg0
      obtain ⟨g2, rfl⟩ : ∃ g2, gk = g2 + 1 := ⟨gk - 1, by omega⟩
      have HGB := Lib.hid (show g2 ≤ 256 by have := hgb.out; omega)
      clear hg0 hcr hgb
      by_cases hi0 : i < 0
      case pos =>
        have i0 : decide (i < 0) = true := decide_eq_true hi0
        have HX := Lib.hid (HBAD2.out (HCR.out.symm.trans (crf_bad (fun hh => by have := hh.1; omega))))
        clear hi0
        go_wp2
        go_ret
        exact ⟨by rw [HX.out]; rfl, HBL.out _ (HB1.out.trans (HBI.out.mono HB1.out.size))⟩
      obtain ⟨c, rfl⟩ : ∃ c : Nat, i = c := ⟨i.toNat, by omega⟩
      have i0 : decide ((c : Int) < 0) = false := decide_eq_false (by omega)
      clear hi0
      by_cases hcn : c < n
      case neg =>
        obtain ⟨j0, j1⟩ := ge_dec hcn
        have HX := Lib.hid (HBAD2.out (HCR.out.symm.trans (crf_bad (fun hh => hcn (by have := hh.2.1; omega)))))
        clear hcn
        go_wp2
        go_ret
        exact ⟨by rw [HX.out]; rfl, HBL.out _ (HB1.out.trans (HBI.out.mono HB1.out.size))⟩
      obtain ⟨j0, j1⟩ := nge_dec hcn
      have HCN := Lib.hid hcn
      have HC256 := Lib.hid (show c < 256 by have := M2.out; omega)
      have hcI : (c : Int) < (n : Int) := by omega
      clear hcn
      cases hb : (im.pg k).bit c with
      | true =>
        have HX := Lib.hid (HBAD2.out (HCR.out.symm.trans (crf_bad (fun hh => by have := hh.2.2.1; rw [Int.toNat_natCast, hb] at this; cases this))))
        have HBB := Lib.hid hb
        clear hb
        go_wp2_with (go_at_call 32; refine (HHAS.out c HC256.out wr).mono ?_; rintro e w7 ⟨rfl, hb7⟩; have HB7 := Lib.hid hb7; rw [HBB.out]; clear hb7)
        go_ret
        exact ⟨by rw [HX.out]; rfl, HBL.out _ (HB1.out.trans ((HBI.out.trans (HB7.out.mono HBI.out.size)).mono HB1.out.size))⟩
      | false =>
        cases hac : acc.contains c with
        | true =>
          have HX := Lib.hid (HBAD2.out (HCR.out.symm.trans (crf_bad (fun hh => by have := hh.2.2.2; rw [Int.toNat_natCast, hac] at this; cases this))))
          have HBB := Lib.hid hb
          have HAC := Lib.hid hac
          clear hb hac
          go_wp2_with (go_at_call 32; refine (HHAS.out c HC256.out wr).mono ?_; rintro e w7 ⟨rfl, hb7⟩; have HB7 := Lib.hid hb7; have hm7 := HMT.out.keep hb7; have HM7 := Lib.hid hm7; obtain ⟨k7, f7⟩ := hm7.cell HCN.out; rw [HAC.out] at k7; rw [HBB.out]; clear hb7 hm7)
          go_ret
          exact ⟨by rw [HX.out]; rfl, HBL.out _ (HB1.out.trans ((HBI.out.trans (HB7.out.mono HBI.out.size)).mono HB1.out.size))⟩
        | false =>
          obtain ⟨zc, hzc⟩ : ∃ zc, zc = c * z := ⟨_, rfl⟩
          obtain ⟨off, hoff⟩ : ∃ off, off = 4096 * k + zc := ⟨_, rfl⟩
          have HK1024 := Lib.hid (show (k : Int) < 1024 by have := HN1024.out; have := HK.out; omega)
          obtain ⟨z1, z2, z3, z4, z5, z6⟩ := cell_off9 M1.out HCN.out M12.out HK1024.out hzc hoff M4.out
          obtain ⟨y, hy⟩ : ∃ y, wordM im.mem off = y := ⟨_, rfl⟩
          obtain ⟨at_, hat⟩ : ∃ a, im.base + 4096 * (k : Int) = a := ⟨_, rfl⟩
          obtain ⟨l, hl2⟩ : ∃ l, lastC (z : Int) at_ y n = l := ⟨_, rfl⟩
          have HATP := Lib.hid (show 0 < at_ by rw [← hat]; have := HGEO.out.base0; omega)
          have hnx := HNXD.out c (w := y) (l := l) (by rw [← hy, hoff, hzc]) (by rw [hat]; exact hl2)
          have hto := crf_to (d := g2) HCN.out hb hac hnx (fun h0 => by
            rw [← hl2, h0]
            refine lastC_none (fun j hj e => ?_)
            have h1 := HATP.out
            have h2 : 0 ≤ (z : Int) * (j : Int) := Int.mul_nonneg (by omega) (by omega)
            omega)
          rw [HCR.out] at hto
          have HTO := Lib.hid hto
          have HL2 := Lib.hid hl2
          have HZ5 := Lib.hid z5
          have HY := Lib.hid hy
          have HAT := Lib.hid hat
          have HBB := Lib.hid hb
          have HAC := Lib.hid hac
          rw [hat] at m11
          clear hb hac hzc hoff hy hat hl2 hnx hto z5 z6
          go_wp2_with (first | (go_at_call 32; refine (HHAS.out c HC256.out wr).mono ?_; rintro e w7 ⟨rfl, hb7⟩; have hm7 := HMT.out.keep hb7; obtain ⟨k7, f7⟩ := hm7.cell HCN.out; rw [HAC.out] at k7; rw [HBB.out]; obtain ⟨W8, hW8⟩ : ∃ W, w7.setCell ⟨mb, c, none⟩ (.bool true) = W := ⟨_, rfl⟩; have hb8 : Below W1.heap.size W1 W8 := (by rw [← hW8]; exact below_put (HBI.out.trans (hb7.mono HBI.out.size)) HM.out); have HB8 := Lib.hid hb8; have HM8 := Lib.hid (show Met mb n (c :: acc) W8 by rw [← hW8]; exact hm7.put HCN.out); obtain ⟨d0, d1, d2, d3, d4, d5, d6, d7, d8⟩ := (HVL.out W8 (HB1.out.trans (hb8.mono HB1.out.size))).cell; dsimp only at d0 d1 d2 d3 d4 d5 d6 d7 d8; clear hb7 hm7 hb8) | (go_at_call 75; refine (word_in2 HVL.out HFA.out (HB1.out.trans (HB8.out.mono HB1.out.size)) HZ5.out HY.out).mono ?_; rintro e w9 ⟨rfl, hb9⟩; have hb91 : Below W1.heap.size W1 w9 := HB8.out.trans (hb9.mono HB8.out.size); have HB9 := Lib.hid hb91; have HM9 := Lib.hid (HM8.out.keep hb9); have HCL9 := Lib.hid (HVL.out w9 (HB1.out.trans (hb91.mono HB1.out.size))).cell; clear hb9 hb91))
          clear c0 c1 c2 c3 c4 c5 c6 c7 c8 q0 q1 q2 q3 q4 q5 q6 q7 q8 q9 q10 k7 f7 d0 d1 d2 d3 d4 d5 d6 d7 d8
          go_loopg [11, 12, 77, 78, 79, 80, 81, 82, 83, 84, 85, 86, 87, 88, 89, 90, 91, 92, 93, 94, 95, 96] n (fun g v11 v12 _ _ _ _ _ _ _ _ _ _ _ _ _ _ _ _ _ _ _ _ wi => ∃ j : Nat, v12 = .int .i64 (j : Int) ∧ v11 = .int .i64 (lastC (z : Int) at_ y j) ∧ Aside0 (j + g = n) ∧ wi = w9)
          case atStart => exact ⟨0, rfl, rfl, ⟨by omega⟩, rfl⟩
          case round =>
            obtain ⟨j, rfl, rfl, hjg, rfl⟩ := hrel
            obtain ⟨d0, -, -, -, -, -, -, -, -⟩ := HCL9.out
            by_cases hj : j < n
            case pos =>
              obtain ⟨t1, t2⟩ := lt_dec hj
              obtain ⟨g3, rfl⟩ : ∃ g3, gk = g3 + 1 := ⟨gk - 1, by have := hjg.out; omega⟩
              obtain ⟨zj, hzj⟩ : ∃ zj, zj = j * z := ⟨_, rfl⟩
              obtain ⟨off2, hoff2⟩ : ∃ off, off = 4096 * k + zj := ⟨_, rfl⟩
              obtain ⟨y1, y2, y3, -, -, y6⟩ := cell_off9 M1.out hj M12.out HK1024.out hzj hoff2 M4.out
              have y4 := cell_adr9 HGEO.out HK.out y6
              rw [HAT.out] at y4
              have HY1 := Lib.hid y1
              have HJG := Lib.hid (show j + 1 + g3 = n by have := hjg.out; omega)
              have y5 : wrap64 ((j : Int) + 1) = (j : Int) + 1 := up1 (by have := M2.out; omega)
              have HATB := Lib.hid HAT.out
              have hat2 : im.base + 4096 * (k : Int) = at_ := HAT.out
              clear hj hzj hoff2 y6 hjg
              by_cases he : y = at_ + (zj : Int)
              · have e1 : (y == at_ + (zj : Int)) = true := by rw [beq_iff_eq]; exact he
                have HS1 := Lib.hid (show lastC (z : Int) at_ y (j + 1) = (j : Int) by rw [lastC, HY1.out, if_pos he])
                clear he
                go_wp2
                go_roundg g3
                case measure => omega
                case rel => exact ⟨j + 1, by simp; try exact y5, by rw [HS1.out], ⟨HJG.out⟩, rfl⟩
              · have e1 : (y == at_ + (zj : Int)) = false := by rw [beq_eq_false_iff_ne]; exact he
                have HS1 := Lib.hid (show lastC (z : Int) at_ y (j + 1) = lastC (z : Int) at_ y j by rw [lastC, HY1.out, if_neg he])
                clear he
                go_wp2
                go_roundg g3
                case measure => omega
                case rel => exact ⟨j + 1, by simp; try exact y5, by rw [HS1.out], ⟨HJG.out⟩, rfl⟩
            case neg =>
              obtain ⟨t1, t2⟩ := nlt_dec hj
              have hjn : j = n := by have := hjg.out; omega
              rw [hjn, HL2.out]
              clear hj hjn hjg
              by_cases hbad : y ≠ 0 ∧ l < 0
              · have b1 : (y != 0) = true := by simpa using hbad.1
                have b2 : decide (l < 0) = true := decide_eq_true hbad.2
                have HX := Lib.hid (HBAD2.out (by rw [HTO.out, if_pos hbad]))
                clear hbad
                go_wp2
                go_ret
                exact ⟨by rw [HX.out]; rfl, HBL.out _ (HB1.out.trans (HB9.out.mono HB1.out.size))⟩
              · have HX := Lib.hid (show crf n (im.pg k).bit (nxC im k) g2 l (c :: acc) = R by rw [HTO.out, if_neg hbad])
                by_cases hy0 : y = 0
                · have b1 : (y != 0) = false := by simpa using hy0
                  clear hbad hy0
                  go_wp2
                  go_roundg g2
                  case measure => omega
                  case rel => exact ⟨l, c :: acc, rfl, by first | (simp; done) | (simp; exact down1 HGB.out), ⟨HGB.out⟩, ⟨HX.out⟩, ⟨HB9.out⟩, ⟨HM9.out⟩⟩
                · have b1 : (y != 0) = true := by simpa using hy0
                  have b2 : decide (l < 0) = false := decide_eq_false (fun hh => hbad ⟨hy0, hh⟩)
                  clear hbad hy0
                  go_wp2
                  go_roundg g2
                  case measure => omega
                  case rel => exact ⟨l, c :: acc, rfl, by first | (simp; done) | (simp; exact down1 HGB.out), ⟨HGB.out⟩, ⟨HX.out⟩, ⟨HB9.out⟩, ⟨HM9.out⟩⟩
end
end Go.Proofs.Ytkgedpcipaogjaa.WB
end
section
namespace Go.Proofs.Ytkgedpcipaogjaa.WB
open Go Go.RowKit Go.Proofs.YtkgedpcipaogjaaW.PrintWords Go.Proofs.YtkgedpcipaogjaaW.PrintLast Go.Proofs.YtkgedpcipaogjaaW.PrintMore
set_option linter.unusedVariables false
set_option linter.unusedSimpArgs false
theorem R5_none {im : Im} (h : R5 im = none) : ∀ i, i < im.pages.length → (im.pg i).kd = 4 → slabB (im.pg i) = true := by
  intro i hi hk
  unfold R5 at h
  rw [scan_none] at h
  have := h i (Nat.zero_le _) (by unfold Im.n; omega)
  by_cases e : slabB (im.pg i) = true
  · exact e
  · rw [if_pos ⟨hk, by simpa using e⟩] at this; cases this
theorem rng_of {im : Im} (h : R3 im = none) : ∀ i, i < im.pages.length → Rng im.order ((im.n : Int) - 1) (im.pg i) := fun i hi => rangeB_t (R3_none.1 h i hi)
section
variable {F : Nat → Prop} {im : Im} {s : Sl} {w : World}
set_option maxRecDepth 100000 in
theorem one_2 (h : ImAt F w im s) (hF : ∀ b, F b → b < w.heap.size) (hp : ∀ j, j < 1 → res im j = none) : Calls Try.prog 29 #[.agg (im.cells s), .int .i64 2] w (DocP w (.int .i64 (doc (res im 1)))) := by
  have hmay := R1_none.1 (hp 0 (by decide))
  obtain ⟨A, a, B, b, C, c, D, d, E, e⟩ := s
  obtain ⟨WA, hWA⟩ : ∃ W, w.alloc (imO im ⟨A, a, B, b, C, c, D, d, E, e⟩) = W := ⟨_, rfl⟩
  obtain ⟨hsa, hbl, hvl⟩ := box_facts h hF hWA
  have HBL := Lib.hid hbl
  have HVL := Lib.hid hvl
  have HFA := Lib.hid (show ∀ b, F b → b < WA.heap.size from fun b hb => by have := hF b hb; omega)
  have HWF := Lib.hid h.wf
  have hl := len_i64 h.wf
  obtain ⟨c0, c1, c2, c3, c4, c5, c6, c7, c8⟩ := (hvl WA (Below.refl _ _)).cell
  dsimp only at c0 c1 c2 c3 c4 c5 c6 c7 c8
  unfold imO Im.cells at hWA
  unfold Im.cells
  clear h hF hvl hbl
  have HIM := Lib.hid (HVL.out WA (Below.refl _ _)).im
  have HC := Lib.hid (lengths_d HIM.out HFA.out hmay)
  obtain ⟨v, hv⟩ : ∃ v, doc (R2 im) = v := ⟨_, rfl⟩
  have HV := Lib.hid hv
  have hv2 : doc (res im 1) = v := hv
  rw [hv] at HC
  rw [hv2]
  unfold Im.cells at HC
  clear hmay hp hv hv2
  go_enter Try.func29, Try.ntmps29
  go_wp2_with (go_at_call 41; refine HC.out.mono ?_; rintro e w5 ⟨rfl, hb5⟩; have HB5 := Lib.hid hb5; clear hb5)
  go_ret
  exact ⟨rfl, HBL.out _ HB5.out⟩
set_option maxRecDepth 100000 in
theorem one_3 (h : ImAt F w im s) (hF : ∀ b, F b → b < w.heap.size) (hp : ∀ j, j < 2 → res im j = none) : Calls Try.prog 29 #[.agg (im.cells s), .int .i64 3] w (DocP w (.int .i64 (doc (res im 2)))) := by
  have hmay := R1_none.1 (hp 0 (by decide))
  obtain ⟨o, r, g⟩ := geo_of h.wf (hp 0 (by decide)) (hp 1 (by decide))
  obtain ⟨A, a, B, b, C, c, D, d, E, e⟩ := s
  obtain ⟨WA, hWA⟩ : ∃ W, w.alloc (imO im ⟨A, a, B, b, C, c, D, d, E, e⟩) = W := ⟨_, rfl⟩
  obtain ⟨hsa, hbl, hvl⟩ := box_facts h hF hWA
  have HBL := Lib.hid hbl
  have HVL := Lib.hid hvl
  have HFA := Lib.hid (show ∀ b, F b → b < WA.heap.size from fun b hb => by have := hF b hb; omega)
  have HWF := Lib.hid h.wf
  have hl := len_i64 h.wf
  obtain ⟨c0, c1, c2, c3, c4, c5, c6, c7, c8⟩ := (hvl WA (Below.refl _ _)).cell
  dsimp only at c0 c1 c2 c3 c4 c5 c6 c7 c8
  unfold imO Im.cells at hWA
  unfold Im.cells
  clear h hF hvl hbl
  have HIM := Lib.hid (HVL.out WA (Below.refl _ _)).im
  have HC := Lib.hid (ranges_d HIM.out HFA.out)
  obtain ⟨v, hv⟩ : ∃ v, doc (R3 im) = v := ⟨_, rfl⟩
  have HV := Lib.hid hv
  have hv2 : doc (res im 2) = v := hv
  rw [hv] at HC
  rw [hv2]
  unfold Im.cells at HC
  clear hmay g hp hv hv2
  go_enter Try.func29, Try.ntmps29
  go_wp2_with (go_at_call 42; refine HC.out.mono ?_; rintro e w5 ⟨rfl, hb5⟩; have HB5 := Lib.hid hb5; clear hb5)
  go_ret
  exact ⟨rfl, HBL.out _ HB5.out⟩
set_option maxRecDepth 100000 in
theorem one_4 (h : ImAt F w im s) (hF : ∀ b, F b → b < w.heap.size) (hp : ∀ j, j < 3 → res im j = none) : Calls Try.prog 29 #[.agg (im.cells s), .int .i64 4] w (DocP w (.int .i64 (doc (res im 3)))) := by
  have hmay := R1_none.1 (hp 0 (by decide))
  obtain ⟨o, r, g⟩ := geo_of h.wf (hp 0 (by decide)) (hp 1 (by decide))
  have hR := rng_of (im := im) (hp 2 (by decide))
  obtain ⟨A, a, B, b, C, c, D, d, E, e⟩ := s
  obtain ⟨WA, hWA⟩ : ∃ W, w.alloc (imO im ⟨A, a, B, b, C, c, D, d, E, e⟩) = W := ⟨_, rfl⟩
  obtain ⟨hsa, hbl, hvl⟩ := box_facts h hF hWA
  have HBL := Lib.hid hbl
  have HVL := Lib.hid hvl
  have HFA := Lib.hid (show ∀ b, F b → b < WA.heap.size from fun b hb => by have := hF b hb; omega)
  have HWF := Lib.hid h.wf
  have hl := len_i64 h.wf
  obtain ⟨c0, c1, c2, c3, c4, c5, c6, c7, c8⟩ := (hvl WA (Below.refl _ _)).cell
  dsimp only at c0 c1 c2 c3 c4 c5 c6 c7 c8
  unfold imO Im.cells at hWA
  unfold Im.cells
  clear h hF hvl hbl
  have HIM := Lib.hid (HVL.out WA (Below.refl _ _)).im
  have HC := Lib.hid (runs_d HIM.out HFA.out g hR)
  obtain ⟨v, hv⟩ : ∃ v, doc (R4 im) = v := ⟨_, rfl⟩
  have HV := Lib.hid hv
  have hv2 : doc (res im 3) = v := hv
  rw [hv] at HC
  rw [hv2]
  unfold Im.cells at HC
  clear hmay g hR hp hv hv2
  go_enter Try.func29, Try.ntmps29
  go_wp2_with (go_at_call 43; refine HC.out.mono ?_; rintro e w5 ⟨rfl, hb5⟩; have HB5 := Lib.hid hb5; clear hb5)
  go_ret
  exact ⟨rfl, HBL.out _ HB5.out⟩
set_option maxRecDepth 100000 in
theorem one_5 (h : ImAt F w im s) (hF : ∀ b, F b → b < w.heap.size) (hp : ∀ j, j < 4 → res im j = none) : Calls Try.prog 29 #[.agg (im.cells s), .int .i64 5] w (DocP w (.int .i64 (doc (res im 4)))) := by
  have hmay := R1_none.1 (hp 0 (by decide))
  obtain ⟨o, r, g⟩ := geo_of h.wf (hp 0 (by decide)) (hp 1 (by decide))
  have hR := rng_of (im := im) (hp 2 (by decide))
  obtain ⟨A, a, B, b, C, c, D, d, E, e⟩ := s
  obtain ⟨WA, hWA⟩ : ∃ W, w.alloc (imO im ⟨A, a, B, b, C, c, D, d, E, e⟩) = W := ⟨_, rfl⟩
  obtain ⟨hsa, hbl, hvl⟩ := box_facts h hF hWA
  have HBL := Lib.hid hbl
  have HVL := Lib.hid hvl
  have HFA := Lib.hid (show ∀ b, F b → b < WA.heap.size from fun b hb => by have := hF b hb; omega)
  have HWF := Lib.hid h.wf
  have hl := len_i64 h.wf
  obtain ⟨c0, c1, c2, c3, c4, c5, c6, c7, c8⟩ := (hvl WA (Below.refl _ _)).cell
  dsimp only at c0 c1 c2 c3 c4 c5 c6 c7 c8
  unfold imO Im.cells at hWA
  unfold Im.cells
  clear h hF hvl hbl
  have HIM := Lib.hid (HVL.out WA (Below.refl _ _)).im
  have HC := Lib.hid (slabs_d HIM.out HFA.out hR)
  obtain ⟨v, hv⟩ : ∃ v, doc (R5 im) = v := ⟨_, rfl⟩
  have HV := Lib.hid hv
  have hv2 : doc (res im 4) = v := hv
  rw [hv] at HC
  rw [hv2]
  unfold Im.cells at HC
  clear hmay g hR hp hv hv2
  go_enter Try.func29, Try.ntmps29
  go_wp2_with (go_at_call 44; refine HC.out.mono ?_; rintro e w5 ⟨rfl, hb5⟩; have HB5 := Lib.hid hb5; clear hb5)
  go_ret
  exact ⟨rfl, HBL.out _ HB5.out⟩
set_option maxRecDepth 100000 in
theorem one_6 (h : ImAt F w im s) (hF : ∀ b, F b → b < w.heap.size) (hp : ∀ j, j < 5 → res im j = none) : Calls Try.prog 29 #[.agg (im.cells s), .int .i64 6] w (DocP w (.int .i64 (doc (res im 5)))) := by
  have hmay := R1_none.1 (hp 0 (by decide))
  obtain ⟨o, r, g⟩ := geo_of h.wf (hp 0 (by decide)) (hp 1 (by decide))
  have hR := rng_of (im := im) (hp 2 (by decide))
  have hS := R5_none (im := im) (hp 4 (by decide))
  obtain ⟨A, a, B, b, C, c, D, d, E, e⟩ := s
  obtain ⟨WA, hWA⟩ : ∃ W, w.alloc (imO im ⟨A, a, B, b, C, c, D, d, E, e⟩) = W := ⟨_, rfl⟩
  obtain ⟨hsa, hbl, hvl⟩ := box_facts h hF hWA
  have HBL := Lib.hid hbl
  have HVL := Lib.hid hvl
  have HFA := Lib.hid (show ∀ b, F b → b < WA.heap.size from fun b hb => by have := hF b hb; omega)
  have HWF := Lib.hid h.wf
  have hl := len_i64 h.wf
  obtain ⟨c0, c1, c2, c3, c4, c5, c6, c7, c8⟩ := (hvl WA (Below.refl _ _)).cell
  dsimp only at c0 c1 c2 c3 c4 c5 c6 c7 c8
  unfold imO Im.cells at hWA
  unfold Im.cells
  clear h hF hvl hbl
  have HIM := Lib.hid (HVL.out WA (Below.refl _ _)).im
  have HC := Lib.hid (halves_d HIM.out HFA.out g hR)
  obtain ⟨v, hv⟩ : ∃ v, doc (R6 im) = v := ⟨_, rfl⟩
  have HV := Lib.hid hv
  have hv2 : doc (res im 5) = v := hv
  rw [hv] at HC
  rw [hv2]
  unfold Im.cells at HC
  clear hmay g hR hS hp hv hv2
  go_enter Try.func29, Try.ntmps29
  go_wp2_with (go_at_call 45; refine HC.out.mono ?_; rintro e w5 ⟨rfl, hb5⟩; have HB5 := Lib.hid hb5; clear hb5)
  go_ret
  exact ⟨rfl, HBL.out _ HB5.out⟩
set_option maxRecDepth 100000 in
theorem one_7 (h : ImAt F w im s) (hF : ∀ b, F b → b < w.heap.size) (hp : ∀ j, j < 6 → res im j = none) : Calls Try.prog 29 #[.agg (im.cells s), .int .i64 7] w (DocP w (.int .i64 (doc (res im 6)))) := by
  have hmay := R1_none.1 (hp 0 (by decide))
  obtain ⟨o, r, g⟩ := geo_of h.wf (hp 0 (by decide)) (hp 1 (by decide))
  have hR := rng_of (im := im) (hp 2 (by decide))
  have hS := R5_none (im := im) (hp 4 (by decide))
  obtain ⟨A, a, B, b, C, c, D, d, E, e⟩ := s
  obtain ⟨WA, hWA⟩ : ∃ W, w.alloc (imO im ⟨A, a, B, b, C, c, D, d, E, e⟩) = W := ⟨_, rfl⟩
  obtain ⟨hsa, hbl, hvl⟩ := box_facts h hF hWA
  have HBL := Lib.hid hbl
  have HVL := Lib.hid hvl
  have HFA := Lib.hid (show ∀ b, F b → b < WA.heap.size from fun b hb => by have := hF b hb; omega)
  have HWF := Lib.hid h.wf
  have hl := len_i64 h.wf
  obtain ⟨c0, c1, c2, c3, c4, c5, c6, c7, c8⟩ := (hvl WA (Below.refl _ _)).cell
  dsimp only at c0 c1 c2 c3 c4 c5 c6 c7 c8
  unfold imO Im.cells at hWA
  unfold Im.cells
  clear h hF hvl hbl
  have HIM := Lib.hid (HVL.out WA (Below.refl _ _)).im
  have HC := Lib.hid (paired_d HIM.out HFA.out g)
  obtain ⟨v, hv⟩ : ∃ v, doc (R7 im) = v := ⟨_, rfl⟩
  have HV := Lib.hid hv
  have hv2 : doc (res im 6) = v := hv
  rw [hv] at HC
  rw [hv2]
  unfold Im.cells at HC
  clear hmay g hR hS hp hv hv2
  go_enter Try.func29, Try.ntmps29
  go_wp2_with (go_at_call 46; refine HC.out.mono ?_; rintro e w5 ⟨rfl, hb5⟩; have HB5 := Lib.hid hb5; clear hb5)
  go_ret
  exact ⟨rfl, HBL.out _ HB5.out⟩
set_option maxRecDepth 100000 in
theorem one_8 (h : ImAt F w im s) (hF : ∀ b, F b → b < w.heap.size) (hp : ∀ j, j < 7 → res im j = none) : Calls Try.prog 29 #[.agg (im.cells s), .int .i64 8] w (DocP w (.int .i64 (doc (res im 7)))) := by
  have hmay := R1_none.1 (hp 0 (by decide))
  obtain ⟨o, r, g⟩ := geo_of h.wf (hp 0 (by decide)) (hp 1 (by decide))
  have hR := rng_of (im := im) (hp 2 (by decide))
  have hS := R5_none (im := im) (hp 4 (by decide))
  obtain ⟨A, a, B, b, C, c, D, d, E, e⟩ := s
  obtain ⟨WA, hWA⟩ : ∃ W, w.alloc (imO im ⟨A, a, B, b, C, c, D, d, E, e⟩) = W := ⟨_, rfl⟩
  obtain ⟨hsa, hbl, hvl⟩ := box_facts h hF hWA
  have HBL := Lib.hid hbl
  have HVL := Lib.hid hvl
  have HFA := Lib.hid (show ∀ b, F b → b < WA.heap.size from fun b hb => by have := hF b hb; omega)
  have HWF := Lib.hid h.wf
  have hl := len_i64 h.wf
  obtain ⟨c0, c1, c2, c3, c4, c5, c6, c7, c8⟩ := (hvl WA (Below.refl _ _)).cell
  dsimp only at c0 c1 c2 c3 c4 c5 c6 c7 c8
  unfold imO Im.cells at hWA
  unfold Im.cells
  clear h hF hvl hbl
  have HIM := Lib.hid (HVL.out WA (Below.refl _ _)).im
  have HC := Lib.hid (free_d HIM.out HFA.out g)
  obtain ⟨v, hv⟩ : ∃ v, doc (R8 im) = v := ⟨_, rfl⟩
  have HV := Lib.hid hv
  have hv2 : doc (res im 7) = v := hv
  rw [hv] at HC
  rw [hv2]
  unfold Im.cells at HC
  clear hmay g hR hS hp hv hv2
  go_enter Try.func29, Try.ntmps29
  go_wp2_with (go_at_call 47; refine HC.out.mono ?_; rintro e w5 ⟨rfl, hb5⟩; have HB5 := Lib.hid hb5; clear hb5)
  go_ret
  exact ⟨rfl, HBL.out _ HB5.out⟩
set_option maxRecDepth 100000 in
theorem one_9 (h : ImAt F w im s) (hF : ∀ b, F b → b < w.heap.size) (hp : ∀ j, j < 8 → res im j = none) : Calls Try.prog 29 #[.agg (im.cells s), .int .i64 9] w (DocP w (.int .i64 (doc (res im 8)))) := by
  have hmay := R1_none.1 (hp 0 (by decide))
  obtain ⟨o, r, g⟩ := geo_of h.wf (hp 0 (by decide)) (hp 1 (by decide))
  have hR := rng_of (im := im) (hp 2 (by decide))
  have hS := R5_none (im := im) (hp 4 (by decide))
  obtain ⟨A, a, B, b, C, c, D, d, E, e⟩ := s
  obtain ⟨WA, hWA⟩ : ∃ W, w.alloc (imO im ⟨A, a, B, b, C, c, D, d, E, e⟩) = W := ⟨_, rfl⟩
  obtain ⟨hsa, hbl, hvl⟩ := box_facts h hF hWA
  have HBL := Lib.hid hbl
  have HVL := Lib.hid hvl
  have HFA := Lib.hid (show ∀ b, F b → b < WA.heap.size from fun b hb => by have := hF b hb; omega)
  have HWF := Lib.hid h.wf
  have hl := len_i64 h.wf
  obtain ⟨c0, c1, c2, c3, c4, c5, c6, c7, c8⟩ := (hvl WA (Below.refl _ _)).cell
  dsimp only at c0 c1 c2 c3 c4 c5 c6 c7 c8
  unfold imO Im.cells at hWA
  unfold Im.cells
  clear h hF hvl hbl
  have HIM := Lib.hid (HVL.out WA (Below.refl _ _)).im
  have HC := Lib.hid (cells9_d HIM.out HFA.out g hR hS)
  obtain ⟨v, hv⟩ : ∃ v, doc (R9 im) = v := ⟨_, rfl⟩
  have HV := Lib.hid hv
  have hv2 : doc (res im 8) = v := hv
  rw [hv] at HC
  rw [hv2]
  unfold Im.cells at HC
  clear hmay g hR hS hp hv hv2
  go_enter Try.func29, Try.ntmps29
  go_wp2_with (go_at_call 48; refine HC.out.mono ?_; rintro e w5 ⟨rfl, hb5⟩; have HB5 := Lib.hid hb5; clear hb5)
  go_ret
  exact ⟨rfl, HBL.out _ HB5.out⟩
set_option maxRecDepth 100000 in
theorem one_10 (h : ImAt F w im s) (hF : ∀ b, F b → b < w.heap.size) (hp : ∀ j, j < 9 → res im j = none) : Calls Try.prog 29 #[.agg (im.cells s), .int .i64 10] w (DocP w (.int .i64 (doc (res im 9)))) := by
  have hmay := R1_none.1 (hp 0 (by decide))
  obtain ⟨o, r, g⟩ := geo_of h.wf (hp 0 (by decide)) (hp 1 (by decide))
  have hR := rng_of (im := im) (hp 2 (by decide))
  have hS := R5_none (im := im) (hp 4 (by decide))
  obtain ⟨A, a, B, b, C, c, D, d, E, e⟩ := s
  obtain ⟨WA, hWA⟩ : ∃ W, w.alloc (imO im ⟨A, a, B, b, C, c, D, d, E, e⟩) = W := ⟨_, rfl⟩
  obtain ⟨hsa, hbl, hvl⟩ := box_facts h hF hWA
  have HBL := Lib.hid hbl
  have HVL := Lib.hid hvl
  have HFA := Lib.hid (show ∀ b, F b → b < WA.heap.size from fun b hb => by have := hF b hb; omega)
  have HWF := Lib.hid h.wf
  have hl := len_i64 h.wf
  obtain ⟨c0, c1, c2, c3, c4, c5, c6, c7, c8⟩ := (hvl WA (Below.refl _ _)).cell
  dsimp only at c0 c1 c2 c3 c4 c5 c6 c7 c8
  unfold imO Im.cells at hWA
  unfold Im.cells
  clear h hF hvl hbl
  have HIM := Lib.hid (HVL.out WA (Below.refl _ _)).im
  have HC := Lib.hid (partial_d HIM.out HFA.out g hR)
  obtain ⟨v, hv⟩ : ∃ v, doc (R10 im) = v := ⟨_, rfl⟩
  have HV := Lib.hid hv
  have hv2 : doc (res im 9) = v := hv
  rw [hv] at HC
  rw [hv2]
  unfold Im.cells at HC
  clear hmay g hR hS hp hv hv2
  go_enter Try.func29, Try.ntmps29
  go_wp2_with (go_at_call 49; refine HC.out.mono ?_; rintro e w5 ⟨rfl, hb5⟩; have HB5 := Lib.hid hb5; clear hb5)
  go_ret
  exact ⟨rfl, HBL.out _ HB5.out⟩
set_option maxRecDepth 100000 in
theorem one_11 (h : ImAt F w im s) (hF : ∀ b, F b → b < w.heap.size) (hp : ∀ j, j < 10 → res im j = none) : Calls Try.prog 29 #[.agg (im.cells s), .int .i64 11] w (DocP w (.int .i64 (doc (res im 10)))) := by
  have hmay := R1_none.1 (hp 0 (by decide))
  obtain ⟨o, r, g⟩ := geo_of h.wf (hp 0 (by decide)) (hp 1 (by decide))
  have hR := rng_of (im := im) (hp 2 (by decide))
  have hS := R5_none (im := im) (hp 4 (by decide))
  obtain ⟨A, a, B, b, C, c, D, d, E, e⟩ := s
  obtain ⟨WA, hWA⟩ : ∃ W, w.alloc (imO im ⟨A, a, B, b, C, c, D, d, E, e⟩) = W := ⟨_, rfl⟩
  obtain ⟨hsa, hbl, hvl⟩ := box_facts h hF hWA
  have HBL := Lib.hid hbl
  have HVL := Lib.hid hvl
  have HFA := Lib.hid (show ∀ b, F b → b < WA.heap.size from fun b hb => by have := hF b hb; omega)
  have HWF := Lib.hid h.wf
  have hl := len_i64 h.wf
  obtain ⟨c0, c1, c2, c3, c4, c5, c6, c7, c8⟩ := (hvl WA (Below.refl _ _)).cell
  dsimp only at c0 c1 c2 c3 c4 c5 c6 c7 c8
  unfold imO Im.cells at hWA
  unfold Im.cells
  clear h hF hvl hbl
  have HIM := Lib.hid (HVL.out WA (Below.refl _ _)).im
  have HC := Lib.hid (full_d HIM.out HFA.out hR)
  obtain ⟨v, hv⟩ : ∃ v, doc (R11 im) = v := ⟨_, rfl⟩
  have HV := Lib.hid hv
  have hv2 : doc (res im 10) = v := hv
  rw [hv] at HC
  rw [hv2]
  unfold Im.cells at HC
  clear hmay g hR hS hp hv hv2
  go_enter Try.func29, Try.ntmps29
  go_wp2_with (go_at_call 50; refine HC.out.mono ?_; rintro e w5 ⟨rfl, hb5⟩; have HB5 := Lib.hid hb5; clear hb5)
  go_ret
  exact ⟨rfl, HBL.out _ HB5.out⟩
theorem one_d (h : ImAt F w im s) (hF : ∀ b, F b → b < w.heap.size) : ∀ t : Nat, 1 ≤ t → t < 11 → (∀ j, j < t → res im j = none) → Calls Try.prog 29 #[.agg (im.cells s), .int .i64 ((t : Int) + 1)] w (DocP w (.int .i64 (doc (res im t))))
  | 1, _, _, hp => one_2 h hF hp
  | 2, _, _, hp => one_3 h hF hp
  | 3, _, _, hp => one_4 h hF hp
  | 4, _, _, hp => one_5 h hF hp
  | 5, _, _, hp => one_6 h hF hp
  | 6, _, _, hp => one_7 h hF hp
  | 7, _, _, hp => one_8 h hF hp
  | 8, _, _, hp => one_9 h hF hp
  | 9, _, _, hp => one_10 h hF hp
  | 10, _, _, hp => one_11 h hF hp
theorem doc_none {r : Option Int} (h : r = none) : doc r = -1 := by rw [h]; rfl
theorem doc_some {r : Option Int} {p : Int} (h : r = some p) : doc r = p := by rw [h]; rfl
theorem fb_some {res : Nat → Option Int} {d k : Nat} {p : Int} (h : res k = some p) : firstBad res (d + 1) k = ((k : Int) + 1, p) := by
  rw [firstBad, h]
  rfl
theorem fb_none {res : Nat → Option Int} {d k : Nat} (h : res k = none) : firstBad res (d + 1) k = firstBad res d (k + 1) := by
  rw [firstBad, h]
set_option maxRecDepth 100000 in
set_option maxHeartbeats 4000000 in
theorem Check_d (h : ImAt F w im s) (hF : ∀ b, F b → b < w.heap.size) : Calls Try.prog 16 #[.agg (im.cells s)] w fun e w' => e = .returned (.tuple #[.int .i64 (firstBad (res im) 11 0).1, .int .i64 (firstBad (res im) 11 0).2]) ∧ Below w.heap.size w w' := by
  obtain ⟨FB, hFB⟩ : ∃ b, firstBad (res im) 11 0 = b := ⟨_, rfl⟩
  have HFB := Lib.hid hFB
  have HUB := Lib.hid h.wf.base
  rw [hFB]
  clear hFB
  obtain ⟨A, a, B, b, C, c, D, d, E, e⟩ := s
  obtain ⟨WA, hWA⟩ : ∃ W, w.alloc (imO im ⟨A, a, B, b, C, c, D, d, E, e⟩) = W := ⟨_, rfl⟩
  obtain ⟨hsa, hbl, hvl⟩ := box_facts h hF hWA
  have HBL := Lib.hid hbl
  have HVL := Lib.hid hvl
  have HFA := Lib.hid (show ∀ b, F b → b < WA.heap.size from fun b hb => by have := hF b hb; omega)
  have HWF := Lib.hid h.wf
  have hl := len_i64 h.wf
  obtain ⟨c0, c1, c2, c3, c4, c5, c6, c7, c8⟩ := (hvl WA (Below.refl _ _)).cell
  dsimp only at c0 c1 c2 c3 c4 c5 c6 c7 c8
  unfold imO Im.cells at hWA
  unfold Im.cells
  clear h hF hvl hbl
  cases hmay : mayB im.base im.limit im.order with
  | false =>
    have HX := Lib.hid (show FB = (1, 0) by rw [← HFB.out]; exact fb_some (k := 0) (show R1 im = some 0 by unfold R1; rw [if_neg (by rw [hmay]; decide)]))
    have HMAY := Lib.hid (May_d hmay HUB.out)
    clear hmay
    go_enter Try.func16, Try.ntmps16
    go_wp2_with (go_at_call 22; refine (HMAY.out _).mono ?_; rintro e w4 ⟨rfl, hb4⟩; have HB4 := Lib.hid hb4; clear hb4)
    go_ret2
    exact ⟨by rw [HX.out]; rfl, HBL.out _ HB4.out⟩
  | true =>
  have HR1 := Lib.hid (show res im 0 = none from R1_none.2 hmay)
  have HMAY := Lib.hid (May_d hmay HUB.out)
  clear hmay
  go_enter Try.func16, Try.ntmps16
  go_wp2_with (go_at_call 22; refine (HMAY.out _).mono ?_; rintro e w4 ⟨rfl, hb4⟩; have HB4 := Lib.hid hb4; clear hb4)
  clear hWA c0 c1 c2 c3 c4 c5 c6 c7 c8
  go_loopg [4, 5, 10, 11, 12, 13, 14, 15, 16, 17, 18, 19, 20] 10 (fun g v _ _ _ _ _ _ _ _ _ _ _ _ wr => ∃ t : Nat, v = .int .i64 ((t : Int) + 1) ∧ Aside0 (t + g = 11) ∧ Aside0 (1 ≤ t) ∧ Aside0 (∀ j, j < t → res im j = none) ∧ Aside0 (Below WA.heap.size WA wr) ∧ Aside0 (firstBad (res im) g t = FB))
  case atStart => exact ⟨1, rfl, ⟨rfl⟩, ⟨Nat.le_refl _⟩, ⟨fun j hj => by have e : j = 0 := (by omega); rw [e]; exact HR1.out⟩, ⟨HB4.out⟩, ⟨by rw [← HFB.out, fb_none HR1.out]⟩⟩
  case round =>
    obtain ⟨t, rfl, htg, ht1, hall, hbe, hfb⟩ := hrel
    obtain ⟨c0, c1, c2, c3, c4, c5, c6, c7, c8⟩ := (HVL.out wr hbe.out).cell
    dsimp only at c0 c1 c2 c3 c4 c5 c6 c7 c8
    have HBE := Lib.hid hbe.out
    by_cases ht : t < 11
    case neg =>
      have t1 : decide ((t : Int) + 1 ≤ 11) = false := decide_eq_false (by omega)
      have HX := Lib.hid (show FB = (0, 0) by have h := hfb.out; rw [show gk = 0 by have := htg.out; omega, firstBad] at h; exact h.symm)
      clear ht
      go_wp2
      go_ret2
      exact ⟨by rw [HX.out]; rfl, HBL.out _ HBE.out⟩
    have t1 : decide ((t : Int) + 1 ≤ 11) = true := decide_eq_true (by omega)
    obtain ⟨g1, rfl⟩ : ∃ g1, gk = g1 + 1 := ⟨gk - 1, by have := htg.out; omega⟩
    have HTG := Lib.hid (lp_step htg.out)
    have HONE := Lib.hid (one_d (HVL.out wr hbe.out).im (fun b hb => Nat.lt_of_lt_of_le (HFA.out b hb) hbe.out.size) t ht1.out ht hall.out)
    have HALL := Lib.hid hall.out
    have t2 : wrap64 ((t : Int) + 1 + 1) = (t : Int) + 1 + 1 := by unfold wrap64; omega
    unfold Im.cells at HONE
    cases hr : res im t with
    | some p =>
      have HX := Lib.hid (show FB = ((t : Int) + 1, p) from hfb.out.symm.trans (fb_some hr))
      have hp0 := res_pos im hr
      rw [doc_some hr] at HONE
      have d1 : decide (p ≥ 0) = true := decide_eq_true hp0
      have d2 : decide (0 ≤ p) = true := decide_eq_true hp0
      clear ht htg ht1 hall hbe hfb hr hp0
      go_wp2_with (go_at_call 29; refine HONE.out.mono ?_; rintro e w5 ⟨rfl, hb5⟩; have HB5 := Lib.hid hb5; clear hb5)
      go_ret2
      exact ⟨by rw [HX.out]; rfl, HBL.out _ (HBE.out.trans (HB5.out.mono HBE.out.size))⟩
    | none =>
      have HX := Lib.hid (show firstBad (res im) g1 (t + 1) = FB from (fb_none hr).symm.trans hfb.out)
      rw [doc_none hr] at HONE
      have HA2 := Lib.hid (show ∀ j, j < t + 1 → res im j = none from fun j hj => by
        by_cases e : j = t
        · rw [e]; exact hr
        · exact HALL.out j (by omega))
      clear ht htg ht1 hall hbe hfb hr
      go_wp2_with (go_at_call 29; refine HONE.out.mono ?_; rintro e w5 ⟨rfl, hb5⟩; have HB5 := Lib.hid hb5; clear hb5)
      go_roundg g1
      case measure => omega
      case rel => exact ⟨t + 1, by first | rfl | (simp; done) | (rw [t2]; rfl), ⟨HTG.out⟩, ⟨Nat.succ_le_succ (Nat.zero_le _)⟩, ⟨HA2.out⟩, ⟨HBE.out.trans (HB5.out.mono HBE.out.size)⟩, ⟨HX.out⟩⟩
end
end Go.Proofs.Ytkgedpcipaogjaa.WB
end
section
namespace Go.Proofs.Ytkgedpcipaogjaa.WB
open Go Go.RowKit Go.Proofs.YtkgedpcipaogjaaW.PrintWords Go.Proofs.YtkgedpcipaogjaaW.PrintLast Go.Proofs.YtkgedpcipaogjaaW.PrintMore
set_option linter.unusedVariables false
set_option linter.unusedSimpArgs false
section
variable {F : Nat → Prop} {im : Im} {s : Sl} {w : World}
theorem docCheck (h : ImAt F w im s) (hF : ∀ b, F b → b < w.heap.size) : Calls Try.prog 16 #[.agg (im.cells s)] w fun e w' => e = .returned (.tuple #[.int .i64 im.check.1, .int .i64 im.check.2]) ∧ Below w.heap.size w w' := Check_d h hF
set_option maxRecDepth 100000 in
set_option maxHeartbeats 4000000 in
theorem is_d (h : ImAt F w im s) (hF : ∀ b, F b → b < w.heap.size) (r p : Int) : Calls Try.prog 13 #[.agg (im.cells s), .int .i64 r, .int .i64 p] w (DocP w (.bool (im.check.1 == r && im.check.2 == p))) := by
  obtain ⟨A, a, B, b, C, c, D, d, E, e⟩ := s
  obtain ⟨WA, hWA⟩ : ∃ W, w.alloc (imO im ⟨A, a, B, b, C, c, D, d, E, e⟩) = W := ⟨_, rfl⟩
  obtain ⟨hsa, hbl, hvl⟩ := box_facts h hF hWA
  have HBL := Lib.hid hbl
  have HVL := Lib.hid hvl
  have HFA := Lib.hid (show ∀ b, F b → b < WA.heap.size from fun b hb => by have := hF b hb; omega)
  have HWF := Lib.hid h.wf
  have hl := len_i64 h.wf
  obtain ⟨c0, c1, c2, c3, c4, c5, c6, c7, c8⟩ := (hvl WA (Below.refl _ _)).cell
  dsimp only at c0 c1 c2 c3 c4 c5 c6 c7 c8
  unfold imO Im.cells at hWA
  unfold Im.cells
  clear h hF hvl hbl
  have HCK := Lib.hid (checkIm_c (HVL.out WA (Below.refl _ _)).im HFA.out)
  obtain ⟨⟨a1, a2⟩, ha⟩ : ∃ b, im.check = b := ⟨_, rfl⟩
  rw [ha] at HCK ⊢
  unfold Im.cells at HCK
  dsimp only at *
  clear ha
  by_cases h1 : a1 = r
  · have d1 : (a1 == r) = true := by simpa using h1
    have H1 := Lib.hid h1
    clear h1
    by_cases h2 : a2 = p
    · have d2 : (a2 == p) = true := by simpa using h2
      have H2 := Lib.hid h2
      clear h2
      go_enter Try.func13, Try.ntmps13
      go_wp2_with (go_at_call 18; refine HCK.out.mono ?_; rintro e w5 ⟨rfl, hb5⟩; have HB5 := Lib.hid hb5; clear hb5)
      go_ret
      exact ⟨by first | rfl | (rw [d1, d2]; rfl), HBL.out _ HB5.out⟩
    · have d2 : (a2 == p) = false := by simpa using h2
      have H2 := Lib.hid h2
      clear h2
      go_enter Try.func13, Try.ntmps13
      go_wp2_with (go_at_call 18; refine HCK.out.mono ?_; rintro e w5 ⟨rfl, hb5⟩; have HB5 := Lib.hid hb5; clear hb5)
      go_ret
      exact ⟨by first | rfl | (rw [d1, d2]; rfl), HBL.out _ HB5.out⟩
  · have d1 : (a1 == r) = false := by simpa using h1
    have H1 := Lib.hid h1
    clear h1
    go_enter Try.func13, Try.ntmps13
    go_wp2_with (go_at_call 18; refine HCK.out.mono ?_; rintro e w5 ⟨rfl, hb5⟩; have HB5 := Lib.hid hb5; clear hb5)
    go_ret
    exact ⟨by first | rfl | (rw [d1]; rfl), HBL.out _ HB5.out⟩
end
end Go.Proofs.Ytkgedpcipaogjaa.WB
end
section
namespace Go.Proofs.Ytkgedpcipaogjaa.WB
open Go Go.RowKit Go.Proofs.YtkgedpcipaogjaaW.PrintWords Go.Proofs.YtkgedpcipaogjaaW.PrintLast Go.Proofs.YtkgedpcipaogjaaW.PrintMore Go.Proofs.Ytkgedpcipaogjaa.PWalkChecks Go.Proofs.Ytkgedpcipaogjaa.Mem
set_option linter.unusedVariables false
set_option linter.unusedSimpArgs false
def vPg0 : Pg := { kd := 0, od := 1, cl := 0, lv := 0, nx := -1, pv := -1, fs := -1, b0 := 0, b1 := 0, b2 := 0, b3 := 0 }
def vPg1 : Pg := { kd := 1, od := 1, cl := 0, lv := 0, nx := -1, pv := -1, fs := -1, b0 := 0, b1 := 0, b2 := 0, b3 := 0 }
def vMem : List Int := List.replicate 8192 0
theorem vMem_len : vMem.length = 8192 := List.length_replicate
def voidIm : Im := { base := 65536, limit := 2, order := 1, regions := 1, mem := vMem, pages := [vPg0, vPg1], pairs := [[0]], heads := [0, 65536], parts := [-1, -1, -1, -1, -1, -1, -1, -1] }
def Nw (n : Nat) (w : World) (b : Nat) : Prop := n ≤ b ∧ b < w.heap.size
theorem add0 (g i : Nat) : (⟨g, 0, none⟩ : Addr).add i = ⟨g, i, none⟩ := by unfold Addr.add; split <;> simp_all
theorem rowI_at {xs : List Int} {k : IntKind} {t : TypeId} {w : World} {g : Nat} {cs : Array Value} (h : w.heap[g]? = some (.cells cs t (0, 0))) (hc : cs = (xs.map (Value.int k ·)).toArray) {F : Nat → Prop} (hF : F g) : RowI F w (some ⟨g, 0, none⟩) k xs := by
  refine fun _ => ⟨_, rfl, hF, fun i hi => ?_⟩
  rw [add0, blk_cell h i, hc]
  simp [List.getD_eq_getElem?_getD, List.getElem?_eq_getElem hi]
theorem rowI_zero {n g : Nat} {w : World} (h : w.heap[g]? = some (zeroO n)) {F : Nat → Prop} (hF : F g) : RowI F w (some ⟨g, 0, none⟩) .u8 (List.replicate n 0) := by
  refine fun _ => ⟨_, rfl, hF, fun i hi => ?_⟩
  rw [List.length_replicate] at hi
  rw [add0, blk_cell h i, ← Array.getElem?_toList, toList_madeCells_one, List.getElem?_replicate, if_pos hi, List.getD_eq_getElem?_getD, List.getElem?_replicate, if_pos hi]
  rfl
theorem rowP_at {p q : Pg} {t : TypeId} {w : World} {g : Nat} {cs : Array Value} (h : w.heap[g]? = some (.cells cs t (0, 0))) (hc : cs = (p.cells ++ q.cells).toArray) {F : Nat → Prop} (hF : F g) : RowP F w (some ⟨g, 0, none⟩) [p, q] := by
  refine fun _ => ⟨_, rfl, hF, fun i hi j v hv => ?_⟩
  rw [add0, blk_cell h _, hc]
  have hj : j < 11 := by
    have := (List.getElem?_eq_some_iff.1 hv).1
    rwa [cells_len] at this
  rw [List.getElem?_toArray]
  match i, hi with
  | 0, _ => rw [List.getElem?_append_left (by rw [cells_len]; omega)]; simpa using hv
  | 1, _ => rw [List.getElem?_append_right (by rw [cells_len]; omega), cells_len, show 1 * 11 + j - 11 = j by omega]; exact hv
theorem rowR_at {l : List Int} {B : Option Addr} {c g : Nat} {t : TypeId} {w : World} (h : w.heap[g]? = some (.cells #[.slice B l.length c] t (0, 0))) (hc : l.length ≤ c) {F : Nat → Prop} (hF : F g) (hl : RowI F w B .u64 l) : RowR F w (some ⟨g, 0, none⟩) [l] := by
  refine fun _ => ⟨_, rfl, hF, fun i hi => ?_⟩
  obtain rfl : i = 0 := by simpa using hi
  refine ⟨B, c, hc, ?_, hl⟩
  rw [add0, blk_cell h 0]
  rfl
theorem voidIm_wf : voidIm.Wf := by
  refine ⟨by unfold U64; decide, by unfold I64; decide, by unfold I64; decide, by unfold I64; decide, fun x hx => ?_, fun p hp => ?_, fun l hl => ?_, fun x hx => ?_, fun x hx => ?_, ?_, by decide, by decide, fun l hl => ?_, by decide, by decide⟩
  · rw [(List.mem_replicate.1 (show x ∈ List.replicate 8192 (0 : Int) from hx)).2]; decide
  · change p ∈ [vPg0, vPg1] at hp
    simp at hp
    rcases hp with rfl | rfl <;> exact ⟨by unfold I64; decide, by unfold I64; decide, by unfold I64; decide, by unfold I64; decide, by unfold I64; decide, by unfold I64; decide, by unfold I64; decide, by unfold U64; decide, by unfold U64; decide, by unfold U64; decide, by unfold U64; decide⟩
  · change l ∈ [[(0 : Int)]] at hl
    simp at hl
    subst hl
    intro x hx
    simp at hx
    subst hx
    unfold U64; decide
  · change x ∈ [(0 : Int), 65536] at hx
    simp at hx
    rcases hx with rfl | rfl <;> (unfold U64; decide)
  · change x ∈ [(-1 : Int), -1, -1, -1, -1, -1, -1, -1] at hx
    simp at hx
    subst hx
    unfold I64; decide
  · show vMem.length ≤ _
    rw [vMem_len]; decide
  · change l ∈ [[(0 : Int)]] at hl
    simp at hl
    subst hl
    decide
structure VdX (n : Nat) (w : World) (s : Sl) (g1 g5 g6 g8 : Nat) : Prop where
  eA : s.A = some ⟨g1, 0, none⟩
  eC : s.C = some ⟨g6, 0, none⟩
  eE : s.E = some ⟨g8, 0, none⟩
  a : s.a = 8192
  c : s.c = 1
  e : s.e = 8
  n1 : Nw n w g1
  n5 : Nw n w g5
  n6 : Nw n w g6
  n8 : Nw n w g8
  h1 : w.heap[g1]? = some (zeroO 8192)
  h5 : w.heap[g5]? = some (.cells #[.int .u64 0] 22 (0, 0))
  h6 : w.heap[g6]? = some (.cells #[.slice (some ⟨g5, 0, none⟩) 1 1] 28 (0, 0))
  h8 : w.heap[g8]? = some (.cells #[.int .i64 (-1), .int .i64 (-1), .int .i64 (-1), .int .i64 (-1), .int .i64 (-1), .int .i64 (-1), .int .i64 (-1), .int .i64 (-1)] 3 (0, 0))
def vdP (r0 : Nat) (k : Nat) (v : Value) (w : World) : Prop := match k with
  | 0 => v = .agg #[.int .u64 65536, .int .i64 2, .int .i64 1]
  | 1 => ∃ g, v = .slice (some ⟨g, 0, none⟩) 8192 8192 ∧ Nw (r0 + 3) w g ∧ w.heap[g]? = some (zeroO 8192)
  | 2 => v = .agg #[.int .i64 0, .int .i64 1, .int .i64 0, .int .i64 0, .int .i64 (-1), .int .i64 (-1), .int .i64 (-1), .int .u64 0, .int .u64 0, .int .u64 0, .int .u64 0]
  | 3 => v = .agg #[.int .i64 1, .int .i64 1, .int .i64 0, .int .i64 0, .int .i64 (-1), .int .i64 (-1), .int .i64 (-1), .int .u64 0, .int .u64 0, .int .u64 0, .int .u64 0]
  | 4 => ∃ A, v = .slice A 2 2 ∧ RowP (Nw (r0 + 3) w) w A [vPg0, vPg1]
  | 5 => ∃ g, v = .slice (some ⟨g, 0, none⟩) 1 1 ∧ Nw (r0 + 3) w g ∧ w.heap[g]? = some (.cells #[.int .u64 0] 22 (0, 0))
  | 6 => ∃ g5 g, v = .slice (some ⟨g, 0, none⟩) 1 1 ∧ Nw (r0 + 3) w g5 ∧ Nw (r0 + 3) w g ∧ w.heap[g5]? = some (.cells #[.int .u64 0] 22 (0, 0)) ∧ w.heap[g]? = some (.cells #[.slice (some ⟨g5, 0, none⟩) 1 1] 28 (0, 0))
  | 7 => ∃ A, v = .slice A 2 2 ∧ RowI (Nw (r0 + 3) w) w A .u64 [0, 65536]
  | 8 => ∃ g, v = .slice (some ⟨g, 0, none⟩) 8 8 ∧ Nw (r0 + 3) w g ∧ w.heap[g]? = some (.cells #[.int .i64 (-1), .int .i64 (-1), .int .i64 (-1), .int .i64 (-1), .int .i64 (-1), .int .i64 (-1), .int .i64 (-1), .int .i64 (-1)] 3 (0, 0))
  | 9 => ∃ s : Sl, v = .agg (voidIm.cells s) ∧ ImAt (Nw (r0 + 3) w) w voidIm s ∧ ∃ g1 g5 g6 g8, VdX (r0 + 3) w s g1 g5 g6 g8
  | 10 => ∃ s : Sl, r0 + 3 ≤ w.heap.size ∧ w.heap[r0]? = some (.cells (voidIm.cells s) 31 (0, 0)) ∧ ImAt (Nw (r0 + 3) w) w voidIm s ∧ ∃ g1 g5 g6 g8, VdX (r0 + 3) w s g1 g5 g6 g8
  | _ => True
theorem Nw.mono {n : Nat} {w w' : World} (h : w.heap.size ≤ w'.heap.size) (b : Nat) (hb : Nw n w b) : Nw n w' b := ⟨hb.1, Nat.lt_of_lt_of_le hb.2 h⟩
theorem VdX.step {n : Nat} {w w' : World} {s : Sl} {g1 g5 g6 g8 : Nat} (h : VdX n w s g1 g5 g6 g8) (hs : w.heap.size ≤ w'.heap.size) (hk : ∀ b, Nw n w b → w'.heap[b]? = w.heap[b]?) : VdX n w' s g1 g5 g6 g8 :=
  ⟨h.eA, h.eC, h.eE, h.a, h.c, h.e, Nw.mono hs _ h.n1, Nw.mono hs _ h.n5, Nw.mono hs _ h.n6, Nw.mono hs _ h.n8, (hk _ h.n1).trans h.h1, (hk _ h.n5).trans h.h5, (hk _ h.n6).trans h.h6, (hk _ h.n8).trans h.h8⟩
theorem vdP_step {r0 k : Nat} {v : Value} {w w' : World} (h : vdP r0 k v w) (hs : w.heap.size ≤ w'.heap.size) (hk : ∀ b, Nw (r0 + 3) w b → w'.heap[b]? = w.heap[b]?) (hr : k = 10 → w'.heap[r0]? = w.heap[r0]?) : vdP r0 k v w' := by
  match k with
  | 0 => exact h
  | 1 => obtain ⟨g, e, hn, hx⟩ := h; exact ⟨g, e, Nw.mono hs _ hn, (hk _ hn).trans hx⟩
  | 2 => exact h
  | 3 => exact h
  | 4 => obtain ⟨A, e, hx⟩ := h; exact ⟨A, e, (hx.keep hk).mono (Nw.mono hs)⟩
  | 5 => obtain ⟨g, e, hn, hx⟩ := h; exact ⟨g, e, Nw.mono hs _ hn, (hk _ hn).trans hx⟩
  | 6 => obtain ⟨g5, g, e, hn5, hn, hx5, hx⟩ := h; exact ⟨g5, g, e, Nw.mono hs _ hn5, Nw.mono hs _ hn, (hk _ hn5).trans hx5, (hk _ hn).trans hx⟩
  | 7 => obtain ⟨A, e, hx⟩ := h; exact ⟨A, e, (hx.keep hk).mono (Nw.mono hs)⟩
  | 8 => obtain ⟨g, e, hn, hx⟩ := h; exact ⟨g, e, Nw.mono hs _ hn, (hk _ hn).trans hx⟩
  | 9 => obtain ⟨s, e, hx, g1, g5, g6, g8, hg⟩ := h; exact ⟨s, e, (hx.keep hk).mono (Nw.mono hs), g1, g5, g6, g8, hg.step hs hk⟩
  | 10 => obtain ⟨s, e0, e, hx, g1, g5, g6, g8, hg⟩ := h; exact ⟨s, by omega, (hr rfl).trans e, (hx.keep hk).mono (Nw.mono hs), g1, g5, g6, g8, hg.step hs hk⟩
  | k + 11 => exact trivial
theorem vdP_alloc {r0 k : Nat} {v : Value} {w : World} (o : Obj) (h : vdP r0 k v w) : vdP r0 k v (w.alloc o) := by
  refine vdP_step h (by simp) (fun b hb => Below.heap_alloc w o b hb.2) (fun e => ?_)
  subst e
  obtain ⟨s, h1, h2, -⟩ := h
  exact Below.heap_alloc w o r0 (by omega)
structure vdC (r0 : Nat) (w0 w : World) : Prop where
  r : w0.heap.size = r0
  p0 : w.heap[r0 + 1]? = some (pageO vPg0)
  p1 : w.heap[r0 + 2]? = some (pageO vPg1)
  below : Below w0.heap.size w0 w
  size : r0 + 3 ≤ w.heap.size
  res : ∃ cs : Array Value, w.heap[r0]? = some (.cells cs 31 (0, 0)) ∧ cs.size = 9
theorem vdC.alloc {r0 : Nat} {w0 w : World} (h : vdC r0 w0 w) (o : Obj) : vdC r0 w0 (w.alloc o) := by
  obtain ⟨cs, h1, h2⟩ := h.res
  have := h.size
  exact ⟨h.r, blk_alloc h.p0 o, blk_alloc h.p1 o, h.below.alloc h.below.size o, by simp; omega, cs, blk_alloc h1 o, h2⟩
theorem arr15 (t : Array Value) (h : t.size = 15) : ∃ x0 x1 x2 x3 x4 x5 x6 x7 x8 x9 x10 x11 x12 x13 x14, t = #[x0, x1, x2, x3, x4, x5, x6, x7, x8, x9, x10, x11, x12, x13, x14] := by
  obtain ⟨l⟩ := t
  simp at h
  match l, h with
  | [x0, x1, x2, x3, x4, x5, x6, x7, x8, x9, x10, x11, x12, x13, x14], _ => exact ⟨x0, x1, x2, x3, x4, x5, x6, x7, x8, x9, x10, x11, x12, x13, x14, rfl⟩
theorem no_slot {ops : Array Oper} {d : Nat} (h : ((List.range ops.size).all fun k => slotK ops k != some d) = true) : ∀ k, slotK ops k ≠ some d := by
  intro k hk
  rcases Nat.lt_or_ge k ops.size with h1 | h1
  · have := List.all_eq_true.1 h k (List.mem_range.2 h1)
    rw [hk] at this
    simp at this
  · unfold slotK at hk
    rw [Array.getElem?_eq_none h1] at hk
    cases hk
structure PutG (w0 w : World) (g : Nat) (cs : Array Value) (t : TypeId) : Prop where
  at_ : w.heap[g]? = some (.cells cs t (0, 0))
  far : ∀ b, b ≠ g → w.heap[b]? = w0.heap[b]?
  size : w.heap.size = w0.heap.size
  below : ∀ B wb, B ≤ g → Below B wb w0 → Below B wb w
theorem PutG.set {w0 w : World} {g : Nat} {cs cs' : Array Value} {t : TypeId} (h : PutG w0 w g cs t) (i : Nat) (y : Value) (e : cs.setIfInBounds i y = cs') : PutG w0 (w.setCell ⟨g, i, none⟩ y) g cs' t :=
  ⟨blk_put h.at_ i y e, fun b hb => (Below.heap_setCell w _ _ _ hb).trans (h.far b hb), by simpa [World.setCell] using h.size, fun B wb hB hb => (h.below B wb hB hb).setCell hB _⟩
theorem set9 {w : World} {g : Nat} {t : TypeId} {x0 x1 x2 x3 x4 x5 x6 x7 x8 : Value} (h : w.heap[g]? = some (.cells #[x0, x1, x2, x3, x4, x5, x6, x7, x8] t (0, 0))) (y0 y1 y2 y3 y4 y5 y6 y7 y8 : Value) :
    PutG w (((((((((w.setCell ⟨g, 0, none⟩ y0).setCell ⟨g, 1, none⟩ y1).setCell ⟨g, 2, none⟩ y2).setCell ⟨g, 3, none⟩ y3).setCell ⟨g, 4, none⟩ y4).setCell ⟨g, 5, none⟩ y5).setCell ⟨g, 6, none⟩ y6).setCell ⟨g, 7, none⟩ y7).setCell ⟨g, 8, none⟩ y8) g #[y0, y1, y2, y3, y4, y5, y6, y7, y8] t := by
  have h0 : PutG w w g #[x0, x1, x2, x3, x4, x5, x6, x7, x8] t := ⟨h, fun _ _ => rfl, rfl, fun _ _ _ hb => hb⟩
  have h1 := h0.set (cs' := #[y0, x1, x2, x3, x4, x5, x6, x7, x8]) 0 y0 rfl
  have h2 := h1.set (cs' := #[y0, y1, x2, x3, x4, x5, x6, x7, x8]) 1 y1 rfl
  have h3 := h2.set (cs' := #[y0, y1, y2, x3, x4, x5, x6, x7, x8]) 2 y2 rfl
  have h4 := h3.set (cs' := #[y0, y1, y2, y3, x4, x5, x6, x7, x8]) 3 y3 rfl
  have h5 := h4.set (cs' := #[y0, y1, y2, y3, y4, x5, x6, x7, x8]) 4 y4 rfl
  have h6 := h5.set (cs' := #[y0, y1, y2, y3, y4, y5, x6, x7, x8]) 5 y5 rfl
  have h7 := h6.set (cs' := #[y0, y1, y2, y3, y4, y5, y6, x7, x8]) 6 y6 rfl
  have h8 := h7.set (cs' := #[y0, y1, y2, y3, y4, y5, y6, y7, x8]) 7 y7 rfl
  have h9 := h8.set (cs' := #[y0, y1, y2, y3, y4, y5, y6, y7, y8]) 8 y8 rfl
  exact h9
theorem arr9 (t : Array Value) (h : t.size = 9) : ∃ x0 x1 x2 x3 x4 x5 x6 x7 x8, t = #[x0, x1, x2, x3, x4, x5, x6, x7, x8] := by
  obtain ⟨l⟩ := t
  simp at h
  match l, h with
  | [x0, x1, x2, x3, x4, x5, x6, x7, x8], _ => exact ⟨x0, x1, x2, x3, x4, x5, x6, x7, x8, rfl⟩
set_option maxRecDepth 100000 in
set_option maxHeartbeats 1000000 in
theorem void_c (w : World) : Calls Try.prog 10 #[] w fun e w' => ∃ s : Sl, e = .returned (.agg (voidIm.cells s)) ∧ ImAt (Nw w.heap.size w') w' voidIm s ∧ Below w.heap.size w w' ∧ ∃ g1 g5 g6 g8, VdX w.heap.size w' s g1 g5 g6 g8 := by
  have HMK : ∀ wx : World, (Instr.makeSlice 25 (.int .i64 8192) (.int .i64 8192)).run Try.prog wx = .ok (.slice (some ⟨wx.heap.size, 0, none⟩) 8192 8192) (wx.alloc (zeroO 8192)) := fun wx => makeB (n := 8192) (by decide) .i64 wx
  go_enter Try.func10, Try.ntmps10
  go_wp2
  refine grow_region (vdC w.heap.size w) (vdP w.heap.size) (by kernel_rfl) (by kernel_rfl) ?hC ?hstep ?hfin
  case hC =>
    refine ⟨rfl, ?_, ?_, ?_, by simp, _, blk_drew (blk_alloc (blk_alloc (blk_new w _) _) _), rfl⟩
    · have := blk_alloc (blk_new (w.alloc (.cells #[.int .u64 0, .int .i64 0, .int .i64 0, .int .i64 0, .slice none 0 0, .slice none 0 0, .slice none 0 0, .slice none 0 0, .slice none 0 0] 31 (0, 0))) (pageO vPg0)) (pageO vPg1)
      simp only [World.size_alloc] at this
      exact blk_drew this
    · have := blk_new ((w.alloc (.cells #[.int .u64 0, .int .i64 0, .int .i64 0, .int .i64 0, .slice none 0 0, .slice none 0 0, .slice none 0 0, .slice none 0 0, .slice none 0 0] 31 (0, 0))).alloc (pageO vPg0)) (pageO vPg1)
      simp only [World.size_alloc] at this
      exact blk_drew this
    · exact ((((Below.refl _ _).alloc (Nat.le_refl _) _).alloc (by simp) _).alloc (by simp; omega) _).drew
  case hfin =>
    intro a wx hag hcls hall
    have h0 := hag.rest 0 (no_slot (by kernel_rfl))
    have hdf := hag.defers
    obtain ⟨tm, df⟩ := a
    obtain ⟨x0, x1, x2, x3, x4, x5, x6, x7, x8, x9, x10, x11, x12, x13, x14, rfl⟩ := arr15 tm hag.size
    simp at h0 hdf
    subst h0 hdf
    obtain ⟨s, hsz, hr, hx, g1, g5, g6, g8, hg⟩ : vdP w.heap.size 10 _ wx := hall 10 (by simp)
    have HG := Lib.hid hg
    clear hg
    have HB := Lib.hid hcls.below
    have HX := Lib.hid hx
    have HR := Lib.hid hr
    clear hag hall hcls hx
    unfold Im.cells at hr
    have z0 := blk_cell hr 0
    have z1 := blk_cell hr 1
    have z2 := blk_cell hr 2
    have z3 := blk_cell hr 3
    have z4 := blk_cell hr 4
    have z5 := blk_cell hr 5
    have z6 := blk_cell hr 6
    have z7 := blk_cell hr 7
    have z8 := blk_cell hr 8
    clear hr
    go_wp2
    refine bodyPost_ret (v := .agg (voidIm.cells s)) (by unfold Im.cells; simp [results, Try.results10, go_sem, z0, z1, z2, z3, z4, z5, z6, z7, z8]) rfl ⟨s, rfl, HX.out.mono (fun b hb => ⟨by have := hb.1; omega, hb.2⟩), HB.out, g1, g5, g6, g8, ⟨HG.out.eA, HG.out.eC, HG.out.eE, HG.out.a, HG.out.c, HG.out.e, ⟨by have := HG.out.n1.1; omega, HG.out.n1.2⟩, ⟨by have := HG.out.n5.1; omega, HG.out.n5.2⟩, ⟨by have := HG.out.n6.1; omega, HG.out.n6.2⟩, ⟨by have := HG.out.n8.1; omega, HG.out.n8.2⟩, HG.out.h1, HG.out.h5, HG.out.h6, HG.out.h8⟩⟩
  case hstep =>
    intro i o ho a wx hag hcls hdeps
    have h0 := hag.rest 0 (no_slot (by kernel_rfl))
    have h1 := hag.rest 1 (no_slot (by kernel_rfl))
    have h2 := hag.rest 2 (no_slot (by kernel_rfl))
    obtain ⟨tm, df⟩ := a
    obtain ⟨x0, x1, x2, x3, x4, x5, x6, x7, x8, x9, x10, x11, x12, x13, x14, rfl⟩ := arr15 tm hag.size
    simp at h0 h1 h2
    subst h0 h1 h2
    clear hag
    generalize w.heap.size = r0 at *
    have HC := Lib.hid hcls
    obtain ⟨p0, p1, p2, p3, p4, p5, p6, p7, p8, p9, p10⟩ := page_var hcls.p0
    obtain ⟨q0, q1, q2, q3, q4, q5, q6, q7, q8, q9, q10⟩ := page_var hcls.p1
    clear hcls
    rcases i with _ | _ | _ | _ | _ | _ | _ | _ | _ | _ | _ | i
    · injection ho with ho
      subst ho
      refine ⟨by kernel_rfl, fun K hK => ?_⟩
      go_simp
      exact hK _ wx (fun h => nomatch h) rfl (fun k u hk h => h) HC.out
    · injection ho with ho
      subst ho
      refine ⟨by kernel_rfl, fun K hK => ?_⟩
      go_simp
      exact hK _ _ (fun h => nomatch h) ⟨_, rfl, ⟨HC.out.size, by simp⟩, blk_new _ _⟩ (fun k u hk h => vdP_alloc _ h) (HC.out.alloc _)
    · injection ho with ho
      subst ho
      refine ⟨by kernel_rfl, fun K hK => ?_⟩
      go_simp
      exact hK _ wx (fun h => nomatch h) rfl (fun k u hk h => h) HC.out
    · injection ho with ho
      subst ho
      refine ⟨by kernel_rfl, fun K hK => ?_⟩
      go_simp
      exact hK _ wx (fun h => nomatch h) rfl (fun k u hk h => h) HC.out
    · injection ho with ho
      subst ho
      have e7 : x7 = _ := hdeps ⟨2, .data⟩ (by simp) rfl
      subst e7
      have e8 : x8 = _ := hdeps ⟨3, .data⟩ (by simp) rfl
      subst e8
      refine ⟨by kernel_rfl, fun K hK => ?_⟩
      go_simp
      exact hK _ _ (fun h => nomatch h) ⟨_, rfl, rowP_at (p := vPg0) (q := vPg1) (blk_new _ _) rfl ⟨HC.out.size, by simp⟩⟩ (fun k u hk h => vdP_alloc _ h) (HC.out.alloc _)
    · injection ho with ho
      subst ho
      refine ⟨by kernel_rfl, fun K hK => ?_⟩
      go_simp
      exact hK _ _ (fun h => nomatch h) ⟨_, rfl, ⟨HC.out.size, by simp⟩, blk_new _ _⟩ (fun k u hk h => vdP_alloc _ h) (HC.out.alloc _)
    · injection ho with ho
      subst ho
      obtain ⟨g5, e10, hn5, hx5⟩ : vdP r0 5 x10 wx := hdeps ⟨5, .data⟩ (by simp) rfl
      subst e10
      refine ⟨by kernel_rfl, fun K hK => ?_⟩
      go_simp
      exact hK _ _ (fun h => nomatch h) ⟨g5, _, rfl, ⟨hn5.1, by have := hn5.2; simp; omega⟩, ⟨HC.out.size, by simp⟩, blk_alloc hx5 _, blk_new _ _⟩ (fun k u hk h => vdP_alloc _ h) (HC.out.alloc _)
    · injection ho with ho
      subst ho
      refine ⟨by kernel_rfl, fun K hK => ?_⟩
      go_simp
      exact hK _ _ (fun h => nomatch h) ⟨_, rfl, rowI_at (xs := [0, 65536]) (blk_new _ _) rfl ⟨HC.out.size, by simp⟩⟩ (fun k u hk h => vdP_alloc _ h) (HC.out.alloc _)
    · injection ho with ho
      subst ho
      refine ⟨by kernel_rfl, fun K hK => ?_⟩
      go_simp
      exact hK _ _ (fun h => nomatch h) ⟨_, rfl, ⟨HC.out.size, by simp⟩, blk_new _ _⟩ (fun k u hk h => vdP_alloc _ h) (HC.out.alloc _)
    · injection ho with ho
      subst ho
      have e5 : x5 = _ := hdeps ⟨0, .data⟩ (by simp) rfl
      subst e5
      obtain ⟨g1, e6, hn1, hx1⟩ : vdP r0 1 x6 wx := hdeps ⟨1, .data⟩ (by simp) rfl
      obtain ⟨A4, e9, hx4⟩ : vdP r0 4 x9 wx := hdeps ⟨4, .data⟩ (by simp) rfl
      obtain ⟨g5, g6, e11, hn5, hn6, hx5, hx6⟩ : vdP r0 6 x11 wx := hdeps ⟨6, .data⟩ (by simp) rfl
      obtain ⟨A7, e12, hx7⟩ : vdP r0 7 x12 wx := hdeps ⟨7, .data⟩ (by simp) rfl
      obtain ⟨g8, e13, hn8, hx8⟩ : vdP r0 8 x13 wx := hdeps ⟨8, .data⟩ (by simp) rfl
      subst e6 e9 e11 e12 e13
      refine ⟨by kernel_rfl, fun K hK => ?_⟩
      go_simp
      refine hK _ wx (fun h => nomatch h) ⟨⟨some ⟨g1, 0, none⟩, 8192, A4, 2, some ⟨g6, 0, none⟩, 1, A7, 2, some ⟨g8, 0, none⟩, 8⟩, ?_, ⟨rowI_zero hx1 hn1, hx4, rowR_at (l := [0]) (c := 1) hx6 (by decide) hn6 (rowI_at (xs := [0]) hx5 rfl hn5), hx7, rowI_at (xs := [-1, -1, -1, -1, -1, -1, -1, -1]) hx8 rfl hn8, ?_, Nat.le_refl _, Nat.le_refl _, Nat.le_refl _, Nat.le_refl _, voidIm_wf⟩, g1, g5, g6, g8, rfl, rfl, rfl, rfl, rfl, rfl, hn1, hn5, hn6, hn8, hx1, hx5, hx6, hx8⟩ (fun k u hk h => h) HC.out
      · unfold Im.cells
        show _ = Value.agg #[.int .u64 65536, .int .i64 2, .int .i64 1, .int .i64 1, .slice (some ⟨g1, 0, none⟩) vMem.length 8192, .slice A4 2 2, .slice (some ⟨g6, 0, none⟩) 1 1, .slice A7 2 2, .slice (some ⟨g8, 0, none⟩) 8 8]
        rw [vMem_len]
      · show vMem.length ≤ 8192
        rw [vMem_len]; exact Nat.le_refl _
    · injection ho with ho
      subst ho
      obtain ⟨s, e14, hx, g1, g5, g6, g8, hg⟩ : vdP r0 9 x14 wx := hdeps ⟨9, .data⟩ (by simp) rfl
      have HG := Lib.hid hg
      clear hg
      subst e14
      obtain ⟨cs, hr1, hr2⟩ := HC.out.res
      obtain ⟨y0, y1, y2, y3, y4, y5, y6, y7, y8, rfl⟩ := arr9 cs hr2
      have HR := Lib.hid hr1
      have HX := Lib.hid hx
      have z0 := blk_cell hr1 0
      have z1 := blk_cell hr1 1
      have z2 := blk_cell hr1 2
      have z3 := blk_cell hr1 3
      have z4 := blk_cell hr1 4
      have z5 := blk_cell hr1 5
      have z6 := blk_cell hr1 6
      have z7 := blk_cell hr1 7
      have z8 := blk_cell hr1 8
      have f0 := blk_frozen hr1 0
      have f1 := blk_frozen hr1 1
      have f2 := blk_frozen hr1 2
      have f3 := blk_frozen hr1 3
      have f4 := blk_frozen hr1 4
      have f5 := blk_frozen hr1 5
      have f6 := blk_frozen hr1 6
      have f7 := blk_frozen hr1 7
      have f8 := blk_frozen hr1 8
      clear hr1 hx hr2
      unfold Im.cells
      refine ⟨by kernel_rfl, fun K hK => ?_⟩
      go_simp
      obtain ⟨k1, k2, k3, k4⟩ := set9 HR.out (Value.int IntKind.u64 voidIm.base) (Value.int IntKind.i64 voidIm.limit) (Value.int IntKind.i64 voidIm.order) (Value.int IntKind.i64 voidIm.regions) (Value.slice s.A voidIm.mem.length s.a) (Value.slice s.B voidIm.pages.length s.b) (Value.slice s.C voidIm.pairs.length s.c) (Value.slice s.D voidIm.heads.length s.d) (Value.slice s.E voidIm.parts.length s.e)
      have hsz := HC.out.size
      have hw0 := HC.out.r
      refine hK undef _ (fun _ => rfl) ⟨s, by rw [k3]; exact hsz, k1, (HX.out.keep (fun b hb => k2 b (by have := hb.1; omega))).mono (Nw.mono (by rw [k3]; exact Nat.le_refl _)), g1, g5, g6, g8, HG.out.step (by rw [k3]; exact Nat.le_refl _) (fun b hb => k2 b (by have := hb.1; omega))⟩ (fun k u hk h => vdP_step h (by rw [k3]; exact Nat.le_refl _) (fun b hb => k2 b (by have := hb.1; omega)) (fun e => absurd e hk)) ?_
      exact ⟨hw0, (k2 _ (by omega)).trans HC.out.p0, (k2 _ (by omega)).trans HC.out.p1, k4 _ _ (by omega) HC.out.below, by rw [k3]; exact hsz, _, k1, rfl⟩
    · cases ho
end Go.Proofs.Ytkgedpcipaogjaa.WB
end
section
set_option linter.unusedVariables false
namespace Go.Proofs.Ytkgedpcipaogjaa.WB
theorem cellBs_len (im : Im) (i : Nat) : ∀ m, (cellBs im i m).length ≤ m
  | 0 => Nat.le_refl _
  | m + 1 => by
    rw [cellBs, List.length_append]
    have := cellBs_len im i m
    split
    · simp only [List.length_cons, List.length_nil]; omega
    · simp only [List.length_nil]; omega
theorem cellsN_le (c : Int) : cellsN c ≤ 256 := by unfold cellsN; exact Nat.div_le_self _ _
theorem pageBs_len (im : Im) (i : Nat) : (pageBs im i).length ≤ 256 := by
  unfold pageBs
  split
  · simp only [List.length_cons, List.length_nil]; omega
  · split
    · exact Nat.le_trans (cellBs_len im i _) (cellsN_le _)
    · simp only [List.length_nil]; omega
theorem blocksTo_len (im : Im) : ∀ m, (blocksTo im m).length ≤ 256 * m
  | 0 => Nat.le_refl _
  | m + 1 => by
    rw [blocksTo, List.length_append]
    have h1 := blocksTo_len im m
    have h2 := pageBs_len im m
    omega
theorem page_big {im : Im} {i : Nat} (h : (im.pg i).kd = 2) : pageBs im i = [(im.base + 4096 * (i : Int), 4096 * 2 ^ (im.pg i).od.toNat)] := by
  unfold pageBs
  rw [if_pos h]
theorem page_slab {im : Im} {i : Nat} (h : (im.pg i).kd = 4) : pageBs im i = cellBs im i (cellsN (im.pg i).cl) := by
  unfold pageBs
  rw [if_neg (by omega), if_pos h]
theorem page_no_blk {im : Im} {i : Nat} (h : ¬ (im.pg i).kd = 2) (h2 : ¬ (im.pg i).kd = 4) : pageBs im i = [] := by
  unfold pageBs
  rw [if_neg h, if_neg h2]
theorem cell_not {im : Im} {i c : Nat} (h : (im.pg i).bit c = false) : cellBs im i (c + 1) = cellBs im i c := by
  rw [cellBs, if_neg (by rw [h]; decide), List.append_nil]
theorem addr_bd {im : Im} {o r : Nat} (g : Geo im o r) {i : Nat} (hi : i < im.n) : 0 < im.base + 4096 * (i : Int) ∧ im.base + 4096 * (i : Int) + 4096 ≤ 9223372036854775808 := by
  have hm := g.mem
  have hn := g.n
  have ht := g.top
  have hb := g.base0
  omega
theorem big_bd {o : Nat} (ho : o ≤ 8) : 4096 * 2 ^ o ≤ 1048576 := by
  have : 2 ^ o ≤ 2 ^ 8 := Nat.pow_le_pow_right (by decide) ho
  omega
end Go.Proofs.Ytkgedpcipaogjaa.WB
end
