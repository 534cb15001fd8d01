/- Pages, walked: what blocks make of pages. -/
import Derived.Test.YtihfblnjgaalcaaOStrW
import Derived.Test.YtihfblnjgaalcaaOBase
import Derived.Deep.Cut
import Derived.Deep.CutRange
import Derived.Deep.DeepCutAuto
import Derived.Deep.LoopGhost
import Derived.Deep.RegionHeld3
import Derived.StillTailTactics
namespace Go.Proofs.Ytihfblnjgaalcaa.OG
open Go Go.RowKit Go.Maps Go.Proofs.YtihfblnjgaalcaaW.PrintWords Go.Proofs.YtihfblnjgaalcaaW.PrintLast Go.Proofs.YtihfblnjgaalcaaW.PrintMore Go.Proofs.Ytihfblnjgaalcaa.R Go.Proofs.Ytihfblnjgaalcaa.OM Go.Proofs.Ytihfblnjgaalcaa.OP Go.Proofs.Ytihfblnjgaalcaa.OR Go.Proofs.Ytihfblnjgaalcaa.OS Go.Proofs.Ytihfblnjgaalcaa.OB
set_option linter.unusedVariables false
set_option linter.unusedSimpArgs false
/-- What pages tells. -/
def PagesPost (base order n : Int) (l : List S55) (w : World) (e : Ending) (w' : World) : Prop :=
 Below w.heap.size w w' ∧ ((∃ (m : PM) (mb s : Nat), scan base order n PM.none l 0 = (some m, -1) ∧ e = .returned (.tuple #[.map (some mb), .int .i64 (-1)]) ∧ RepR w' mb s m ∧ s ≤ 256 * l.length) ∨
  ∃ i : Int, scan base order n PM.none l 0 = (none, i) ∧ e = .returned (.tuple #[.map none, .int .i64 i]))
abbrev cfgCells (base limit order : Int) : Obj := .cells #[.int .u64 base, .int .i64 limit, .int .i64 order] 29 (0, 0)
theorem drop_rd {l : List S55} {i : Nat} (h : i < l.length) : l.drop i = rd_T55 l (i : Int) :: l.drop (i + 1) := by
 rw [List.drop_eq_getElem_cons h]
 unfold rd_T55
 rw [Int.toNat_natCast, List.getD_eq_getElem?_getD, List.getElem?_eq_getElem h]
 rfl
theorem rd_mem {l : List S55} {i : Nat} (h : i < l.length) : rd_T55 l (i : Int) ∈ l := by
 unfold rd_T55
 rw [Int.toNat_natCast, List.getD_eq_getElem?_getD, List.getElem?_eq_getElem h]
 exact List.getElem_mem h
def chk (base limit order n p z i : Int) : Option Int :=
 (oracle_size.f base limit order z).bind fun t118 => (if t118 = true then (if z = 0 then (none) else (if (Int.tmod p z) = 0 then (if p < base then (some i) else ((oracle_region.f base limit order).bind fun t119 => (if (IntKind.u64.wrap (p - base)) ≥ (IntKind.u64.wrap ((IntKind.u64.wrap (n)) * t119)) then (some i) else (some (-1))))) else (some i))) else (some i))
theorem chk_ok {base limit order n p z : Int} (i : Nat) (hm : mayB base limit order = true) (h0 : 0 ≤ n) (hn : n ≤ limit) (hb0 : 0 ≤ base) (hp0 : 0 ≤ p) (hp : p < 18446744073709551616) (hz0 : 0 ≤ z) :
  ∃ r, chk base limit order n p z (i : Int) = some r ∧ (r = -1 → okB base order n ⟨p, z⟩ = true) ∧ (r ≠ -1 → okB base order n ⟨p, z⟩ = false) := by
 obtain ⟨a, b, c, d, e, f, g, k⟩ := mayB_iff.1 hm
 have hby := may_bytes hm h0 hn
 have hR := RR_bd a b
 unfold chk okB
 rw [size_f base limit a b, region_f base limit a b]
 simp only [Option.bind_some]
 have hi : ¬ (i : Int) = -1 := by omega
 cases hs : sizeB order z with
 | false => exact ⟨i, by simp, fun h => absurd h hi, fun _ => by simp⟩
 | true =>
  obtain ⟨q1, q2, q3⟩ := sizeB_iff.1 hs
  rw [if_pos rfl, if_neg (show ¬ z = 0 by omega), Int.tmod_eq_emod_of_nonneg hp0]
  by_cases h1 : p % z = 0
  ·rw [if_pos h1, decide_eq_true h1]
   by_cases h2 : p < base
   ·rw [if_pos h2, decide_eq_false (show ¬ base ≤ p by omega)]
    exact ⟨i, rfl, fun h => absurd h hi, fun _ => by simp⟩
   ·rw [if_neg h2, decide_eq_true (show base ≤ p by omega), u64_in (x := p - base) (by omega) (by omega), u64_in (x := n) (by omega) (by omega), u64_in (x := n * RR order) (by omega) (by omega)]
    by_cases h3 : p - base ≥ n * RR order
    ·rw [if_pos h3, decide_eq_false (show ¬ p - base < n * RR order by omega)]
     exact ⟨i, rfl, fun h => absurd h hi, fun _ => by simp⟩
    ·rw [if_neg h3, decide_eq_true (show p - base < n * RR order by omega)]
     exact ⟨-1, rfl, fun _ => by simp, fun h => absurd rfl h⟩
  ·rw [if_neg h1, decide_eq_false h1]
   exact ⟨i, rfl, fun h => absurd h hi, fun _ => by simp⟩
def T5 : Bool × List (List Nat × List Nat) := (true, [([], []), ([], []), ([1], [1]), ([0, 2], [0, 2]), ([3], [3]), ([4, 3], [4]), ([5], [5]), ([6, 5], [5, 6]), ([5], [5]), ([8, 5], [5, 8]), ([7, 9, 5], [5, 7, 9]), ([10, 5], [5, 10]), ([5, 11], [5, 11]), ([12, 5], [12]), ([13], [13]), ([14, 13], [13, 14]), ([13], [13]), ([16, 13], [13, 16]), ([15, 17, 13], [13, 15, 17]), ([13, 18], [13, 18]), ([19, 13], [19]), ([20], [20]), ([21, 20], [20, 21]), ([20], [20]), ([23, 20], [20, 23]), ([22, 24, 20], [20, 22, 24]), ([20], [20]), ([26, 20], [20, 26]), ([20], [20]), ([28, 20, 20], [20, 28]), ([27, 29, 20], [20, 27, 29]), ([25, 30, 20], [20, 25, 30]), ([20, 31], [20, 31])])
def B5 : List Nat := [0, 0, 2, 7, 15, 31, 63, 127, 63, 319, 1023, 2047, 4095, 8191, 16383, 32767, 16383, 81919, 262143, 524287, 1048575, 2097151, 4194303, 2097151, 10485759, 33554431, 2097151, 69206015, 2097151, 270532607, 1008730111, 2147483647, 4294967295]
theorem tab5 : rtab .any (opsOf Try.f39 5) = T5 := by kernel_rfl
theorem bits5 : waitsOk T5.2 B5 = true := by kernel_rfl
theorem drewN_cell (w : World) (n : Nat) (a : Addr) : (w.drewN n).cell? a = w.cell? a := rfl
theorem drewN_two (w : World) (a b : Nat) : (w.drewN a).drewN b = w.drewN (a + b) := by simp only [World.drewN]; rw [Nat.add_assoc]
theorem below_grown {c : Nat} {w wc w3 : World} (hb : Below w.heap.size w wc) (hg : wc.grownBy w3 (some c)) (hc : w.heap.size ≤ c) : Below w.heap.size w w3 :=
 ⟨hg.os.trans hb.os, hg.tape.trans hb.tape, hg.output.trans hb.output, Nat.le_trans hb.size hg.size, fun q hq =>
  (hg.block q (Nat.lt_of_lt_of_le hq hb.size) (by intro e; injection e with e; omega)).trans (hb.block q hq)⟩
theorem put1_ok {q : Int} {p z : Int} {m : PM} {sz : Int} {cs : Int → Option Int} {cn : Nat} (h1 : (cs p).isSome = false) (h2 : sz = z) : put1 q ⟨p, z⟩ m (.small sz cs cn) = some (pmSet m q (.small sz (upd cs p z) (cn + 1))) := by
 simp only [put1]
 rw [if_neg (by rw [h1]; simp [h2])]
theorem q_new {m : PM} {i : Nat} {q0 : Int} {sz : Int} (h : ∀ x z cs q, m x = some (.small z cs q) → q ≤ i) : ∀ x z cs' q, pmSet m q0 (.small sz noCells 0) x = some (.small z cs' q) → q ≤ i := by
 intro x z cs' q hx
 by_cases e : x = q0
 ·subst e; rw [pmSet_same] at hx; cases hx; omega
 ·rw [pmSet_other m _ e] at hx; exact h x z cs' q hx
theorem new_small {B : Nat} {w w2 : World} {mb s s' : Nat} {m : PM} {ptr : Int → Option Int} {x z : Int} (h : Rep B w mb s m ptr) (hB : B ≤ w.heap.size) (hx : m x = none) (hmap : MapI Try.prog El.ptr 3 .i64 w2 mb s' (upd ptr x ((w.heap.size + 1 : Nat) : Int)))
  (hgr : ((w.alloc (.map #[] 0)).alloc (.cells #[.bool false, .int .u64 z, .map (some w.heap.size)] 90)).grownBy w2 (some mb)) : Rep B w2 mb s' (pmSet m x (.small z noCells 0)) (upd ptr x ((w.heap.size + 1 : Nat) : Int)) := by
 refine h.new_lot hB hx (((Below.refl w.heap.size w).alloc (Nat.le_refl _) _).alloc (by simp) _) (c := w.heap.size) (Nat.le_succ _) (fun _ _ _ _ => Nat.le_refl _) ⟨?_, ?_⟩ hmap hgr
 ·have h2 := blk_new (w.alloc (.map #[] 0)) (.cells #[.bool false, .int .u64 z, .map (some w.heap.size)] 90)
  rw [show (w.alloc (.map #[] 0)).heap.size = w.heap.size + 1 from by simp] at h2
  exact h2
 ·exact (MapI.made w Try.prog (El.int .u64) 22 .u64).alloc _
theorem fill_bad {z : Int} {k : Nat} {q : Int} {m : PM} {l : Lot} (h : m q = some l) : fill z (k + 1) q m = none := by simp only [fill, h]
theorem fill_ok {z : Int} {k : Nat} {q : Int} {m : PM} (h : m q = none) : fill z (k + 1) q m = fill z k (q + 1) (pmSet m q (.great z)) := by simp only [fill, h]
theorem q_great {m : PM} {i : Nat} {q0 : Int} {sz : Int} (h : ∀ x z cs q, m x = some (.small z cs q) → q ≤ i) : ∀ x z cs' q, pmSet m q0 (.great sz) x = some (.small z cs' q) → q ≤ i := by
 intro x z cs' q hx
 by_cases e : x = q0
 ·subst e; rw [pmSet_same] at hx; cases hx
 ·rw [pmSet_other m _ e] at hx; exact h x z cs' q hx
theorem new_great {B : Nat} {w w2 : World} {mb s s' : Nat} {m : PM} {ptr : Int → Option Int} {x z : Int} (h : Rep B w mb s m ptr) (hB : B ≤ w.heap.size) (hx : m x = none) (hmap : MapI Try.prog El.ptr 3 .i64 w2 mb s' (upd ptr x ((w.heap.size : Nat) : Int)))
  (hgr : (w.alloc (.cells #[.bool true, .int .u64 z, .map none] 90)).grownBy w2 (some mb)) : Rep B w2 mb s' (pmSet m x (.great z)) (upd ptr x ((w.heap.size : Nat) : Int)) :=
 h.new_lot hB hx ((Below.refl w.heap.size w).alloc (Nat.le_refl _) _) (c := 0) (Nat.le_refl _) (fun _ _ _ e => by cases e) (blk_new w _) hmap hgr
theorem grown_drewN {w w2 : World} {n : Nat} {row : Option Nat} (h : (w.drewN n).grownBy w2 row) : w.grownBy w2 row := ⟨h.os, h.tape, h.output, h.size, h.block⟩
theorem succ_i (i : Nat) (h : i < 9223372036854775807) : wrap64 ((i : Int) + 1) = ((i + 1 : Nat) : Int) := by unfold wrap64; omega
theorem q_put {m : PM} {i : Nat} {q0 : Int} {sz : Int} {cs : Int → Option Int} {cn : Nat} (h : ∀ x z cs q, m x = some (.small z cs q) → q ≤ i) (hc : cn ≤ i) : ∀ x z cs' q, pmSet m q0 (.small sz cs (cn + 1)) x = some (.small z cs' q) → q ≤ i + 1 := by
 intro x z cs' q hx
 by_cases e : x = q0
 ·subst e; rw [pmSet_same] at hx; cases hx; omega
 ·rw [pmSet_other m _ e] at hx; have := h x z cs' q hx; omega
theorem step_bad {base order n : Int} {m : PM} {b : S55} (h : okB base order n b = false) : OP.step base order n m b = none := by
 simp only [OP.step]; rw [if_neg (by rw [h]; simp)]
theorem step_new {base order n : Int} {m : PM} {b : S55} (h : okB base order n b = true) (hz : b.f1 < 4096) (hm : m (pageOf base b) = none) :
  OP.step base order n m b = put1 (pageOf base b) b (pmSet m (pageOf base b) (.small b.f1 noCells 0)) (.small b.f1 noCells 0) := by
 simp only [OP.step]; rw [if_pos h, if_pos hz, hm]
theorem step_old {base order n : Int} {m : PM} {b : S55} {l : Lot} (h : okB base order n b = true) (hz : b.f1 < 4096) (hm : m (pageOf base b) = some l) :
  OP.step base order n m b = put1 (pageOf base b) b m l := by
 simp only [OP.step]; rw [if_pos h, if_pos hz, hm]
theorem step_big {base order n : Int} {m : PM} {b : S55} (h : okB base order n b = true) (hz : ¬ b.f1 < 4096) : OP.step base order n m b = fill b.f1 (b.f1 / 4096).toNat (pageOf base b) m := by
 simp only [OP.step]; rw [if_pos h, if_neg hz]
theorem look_nil_u64 (w : World) (p : Int) : (Instr.lookup 88 (.map none) (.int .u64 p) true).run Try.prog w = .ok (.tuple #[.int .u64 0, .bool false]) w := by kernel_rfl
set_option maxRecDepth 100000 in
set_option maxHeartbeats 16000000 in
theorem pages_calls (base limit order n : Int) (A : Option Addr) (c : Nat) (l : List S55) (w : World) (hr : Kd.C k55 w A l.length l) (hc : l.length ≤ c) (hl : l.length ≤ 8796093022208) (hm : mayB base limit order = true) (h0 : 0 ≤ n) (hn : n ≤ limit) (hwd : OP.Wd l) (hb0 : 0 ≤ base) :
  Calls Try.prog 39 #[.agg #[.int .u64 base, .int .i64 limit, .int .i64 order], .int .i64 n, .slice A l.length c] w (PagesPost base order n l w) := by
 have HR := Lib.hid hr
 have HL := Lib.hid hl
 have HMAY := Lib.hid hm
 have HWD := Lib.hid hwd
 have HN := Lib.hid hn
 have HN0 := Lib.hid h0
 have HBA := Lib.hid hb0
 clear hr hl hm hwd hn h0 hb0 hc
 have hmm := @run_makeMap Try.prog
 have hu55 := Try.underlying55
 go_enter Try.func39, Try.ntmps39
 go_wp2
 have HBX := Lib.hid (show ((w.alloc (cfgCells base limit order)).alloc (.map #[] 0)).heap[w.heap.size]? = some (cfgCells base limit order) from (Below.heap_alloc _ _ _ (by simp)).trans (blk_new w _))
 have HREP := Lib.hid (show Rep (w.heap.size + 1) ((w.alloc (cfgCells base limit order)).alloc (.map #[] 0)) (w.heap.size + 1) 0 PM.none (fun _ => none) from (by have h := Rep.made (w.alloc (cfgCells base limit order)); simp at h; exact h))
 have HB1 := Lib.hid (show Below w.heap.size w ((w.alloc (cfgCells base limit order)).alloc (.map #[] 0)) from (((Below.refl w.heap.size w).alloc (Nat.le_refl _) _).alloc (by simp) _))
 go_loopg [19] l.length (fun g v wr => ∃ (i s : Nat) (m : PM) (ptr : Int → Option Int), v = .int .i64 (i : Int) ∧ Aside0 (i + g = l.length) ∧ Aside0 (scan base order n m (l.drop i) i = scan base order n PM.none l 0) ∧ Aside0 (Rep (w.heap.size + 1) wr (w.heap.size + 1) s m ptr) ∧ Aside0 (s ≤ 256 * i) ∧
  Aside0 (∀ x z cs q, m x = some (.small z cs q) → q ≤ i) ∧ Aside0 (Below w.heap.size w wr) ∧ Aside0 (wr.heap[w.heap.size]? = some (cfgCells base limit order)))
 case atStart => exact ⟨0, 0, PM.none, _, rfl, ⟨Nat.zero_add _⟩, ⟨rfl⟩, ⟨HREP.out⟩, ⟨Nat.le_refl _⟩, ⟨fun x z cs q h => by cases h⟩, ⟨HB1.out⟩, ⟨HBX.out⟩⟩
 case round =>
  obtain ⟨i, s, m, ptr, rfl, hg, hsc, hrep, hs, hq, hbr, hbx⟩ := hrel
  clear HBX HREP HB1
  by_cases hlt : i < l.length
  ·obtain ⟨g1, rfl⟩ : ∃ g1, gk = g1 + 1 := ⟨gk - 1, by have := hg.out; omega⟩
   obtain ⟨ad, rfl, hx0, hx1⟩ := at_T55 HR.out (i : Int) (by omega) (by omega)
   replace hx0 := (hbr.out.cell (World.block_lt_of_cell? w _ hx0)).trans hx0
   replace hx1 := (hbr.out.cell (World.block_lt_of_cell? w _ hx1)).trans hx1
   obtain ⟨b, hb⟩ : ∃ b, rd_T55 l (i : Int) = b := ⟨_, rfl⟩
   have HBM := Lib.hid (show b ∈ l from hb ▸ rd_mem hlt)
   have HDR := Lib.hid (show l.drop i = b :: l.drop (i + 1) from hb ▸ drop_rd hlt)
   rw [hb, Int.toNat_natCast] at hx0 hx1
   clear hb
   have HLT := Lib.hid hlt
   have hd : decide (i < l.length) = true := decide_eq_true hlt
   clear hlt
   go_upto_region 5 with fail
   obtain ⟨p, z⟩ := b
   simp only at hx0 hx1
   have hord := (mayB_iff.1 HMAY.out).1
   have hord8 := (mayB_iff.1 HMAY.out).2.1
   go_cut [56] (fun v wx => ∃ r : Bool, v = .bool r ∧ Aside0 (okB base order n ⟨p, z⟩ = !r) ∧ Aside0 (wx.heap[wr.heap.size]? = some (.cells #[.int .u64 p, .int .u64 z] 55 (0, 0))) ∧ Aside0 (Below wr.heap.size wr wx))
   case first =>
    have hHR := chk_ok i HMAY.out HN0.out HN.out HBA.out (HWD.out _ HBM.out).1.1 (HWD.out _ HBM.out).1.2 (HWD.out _ HBM.out).2.1
    obtain ⟨r, H, hres⟩ := hHR
    have HRES := Lib.hid hres
    clear hres hx0 hx1
    obtain ⟨wq, hwq⟩ : ∃ wq, wr.alloc (.cells #[.int .u64 p, .int .u64 z] 55) = wq := ⟨_, rfl⟩
    have HWR := Aside0.mk (show Below wr.heap.size wr wq from hwq ▸ (Below.refl _ _).alloc (Nat.le_refl _) _)
    have BK117 := Aside0.mk (show wq.heap[wr.heap.size]? = some (.cells #[.int .u64 p, .int .u64 z] 55 (0, 0)) from hwq ▸ blk_new wr _)
    have BK115 := Aside0.mk (show wq.heap[w.heap.size]? = some (.cells #[.int .u64 base, .int .i64 limit, .int .i64 order] 29 (0, 0)) from hwq ▸ (Below.heap_alloc _ _ _ (blk_lt hbx.out)).trans hbx.out)
    have HB := Aside0.mk (Below.refl wq.heap.size wq)
    rw [hwq]
    clear hwq
    unfold chk at H
    replace H := Option.bind_eq_some_iff.mp H
    obtain ⟨t118, A80, H⟩ := H
    replace H : (if t118 = true then (if z = 0 then (none) else (if (Int.tmod p z) = 0 then (if p < base then (some (i : Int)) else ((oracle_region.f base limit order).bind fun t119 => (if (IntKind.u64.wrap (p - base)) ≥ (IntKind.u64.wrap ((IntKind.u64.wrap (n)) * t119)) then (some (i : Int)) else (some (-1))))) else (some (i : Int)))) else (some (i : Int))) = some r := H
    have A8 := Aside0.mk A80
    clear A80
    by_cases c9 : t118 = true
    ·subst c9
     have H1 : (if z = 0 then (none) else (if (Int.tmod p z) = 0 then (if p < base then (some (i : Int)) else ((oracle_region.f base limit order).bind fun t119 => (if (IntKind.u64.wrap (p - base)) ≥ (IntKind.u64.wrap ((IntKind.u64.wrap (n)) * t119)) then (some (i : Int)) else (some (-1))))) else (some (i : Int)))) = some r := by rw [if_pos rfl] at H; exact H
     clear H
     have H := H1
     clear H1
     by_cases c10 : z = 0
     ·rw [if_pos c10] at H
      exact absurd H (by simp)
     ·rw [if_neg c10] at H
      have c10b0 : (z == 0) = false := beq_eq_false_iff_ne.mpr c10
      have c10b1 : (z != 0) = true := bne_iff_ne.mpr c10
      by_cases c11 : (Int.tmod p z) = 0
      ·rw [if_pos c11] at H
       have c11b0 : ((Int.tmod p z) == 0) = true := beq_iff_eq.mpr c11
       have c11b1 : ((Int.tmod p z) != 0) = false := bne_eq_false_iff_eq.mpr c11
       clear c11
       by_cases c12 : p < base
       ·rw [if_pos c12] at H
        have c12b0 : decide (p < base) = true := decide_eq_true c12
        clear c12
        obtain rfl := Option.some.inj H
        have n0_ := Aside0.mk (blk_drew BK115.out)
        have n1_ := Aside0.mk (blk_drew BK117.out)
        have n2_ := Aside0.mk (below_drew1 HB.out)
        clear BK115
        clear BK117
        clear HB
        have BK115 := n0_
        have BK117 := n1_
        have HB := n2_
        clear n0_ n1_ n2_
        refine start_ (n := 33) (S := fun w' => w'.cell? ⟨w.heap.size, 0, none⟩ = some (.int .u64 base) ∧ w'.cell? ⟨w.heap.size, 1, none⟩ = some (.int .i64 limit) ∧ w'.cell? ⟨w.heap.size, 2, none⟩ = some (.int .i64 order) ∧ w'.cell? ⟨wr.heap.size, 0, none⟩ = some (.int .u64 p) ∧ w'.cell? ⟨wr.heap.size, 1, none⟩ = some (.int .u64 z)) (ds := []) #[F,F,F,F,F,F,F,F,F,F,F,F,F,F,F,F,F,F,F,F,F,F,F,F,F,F,F,F,F,F,F,F,F] (by kernel_rfl) rfl rfl ⟨(blk_cell BK115.out 0).trans rfl, (blk_cell BK115.out 1).trans rfl, (blk_cell BK115.out 2).trans rfl, (blk_cell BK117.out 0).trans rfl, (blk_cell BK117.out 1).trans rfl⟩ (fun hHeld => ?_); refine with_tabW tab5 bits5 (fun HT_ HW_ => ?_)
        generalize wq.drew = w17 at BK115 BK117 HB hHeld ⊢
        refine pure_ (i := 1) (N := some 25) (v := ?_) (a' := ?_) #[F,T,F,F,F,F,F,F,F,F,F,F,F,F,F,F,F,F,F,F,F,F,F,F,F,F,F,F,F,F,F,F,F] rfl rfl (any_of HT_.out (by kernel_rfl)) (fun _ _ _ h => h) (Or.inl ⟨by rfl, ?_⟩) ?_ ?_
        rotate_left
        ·intro w'
         go_simp
         with_reducible rfl
        rotate_left
        ·simp only [Act.put, Sa, Sb, Sc, i64_w, i32_w]
         rfl
        refine take_ (i := 0) (N := some 24) (v := ?_) (a' := ?_) #[T,T,F,F,F,F,F,F,F,F,F,F,F,F,F,F,F,F,F,F,F,F,F,F,F,F,F,F,F,F,F,F,F] rfl rfl (take_ofW HT_.out HW_.out (by kernel_rfl)) (fun _ _ _ h => h) (Or.inl ⟨by rfl, ?_⟩) hHeld ?_ ?_
        rotate_left
        ·rintro w' ⟨s0, s1, s2, s3, s4⟩
         go_simp
         with_reducible rfl
        rotate_left
        ·simp only [Act.put, Sa, Sb, Sc, i64_w, i32_w]
         rfl
        refine take_ (i := 2) (N := some 26) (v := ?_) (a' := ?_) #[T,T,T,F,F,F,F,F,F,F,F,F,F,F,F,F,F,F,F,F,F,F,F,F,F,F,F,F,F,F,F,F,F] rfl rfl (take_ofW HT_.out HW_.out (by kernel_rfl)) (fun _ _ _ h => h) (Or.inl ⟨by rfl, ?_⟩) hHeld ?_ ?_
        rotate_left
        ·rintro w' ⟨s0, s1, s2, s3, s4⟩
         go_simp
         with_reducible rfl
        rotate_left
        ·simp only [Act.put, Sa, Sb, Sc, i64_w, i32_w]
         rfl
        refine one_ (i := 3) (N := some 27) #[T,T,T,T,F,F,F,F,F,F,F,F,F,F,F,F,F,F,F,F,F,F,F,F,F,F,F,F,F,F,F,F,F] rfl rfl (one_of HT_.out (by kernel_rfl)) (by decide) (fun K hK => ?_)
        refine goes_ Try.func46 (by kernel_rfl) rfl #[.agg #[.int .u64 base, .int .i64 limit, .int .i64 order], .int .u64 z] (by rfl) rfl rfl (by (try simp only [List.map_toArray, List.map_cons, List.map_nil]); first | done | rfl | (simp only [List.length_drop, List.length_take]; rfl)) ?_
        with_reducible refine (oracle_size.calls base limit order z true _ A8.out).mono ?_
        rintro e w18 ⟨rfl, hb⟩
        refine ⟨_, rfl, ?_⟩
        have n0_ := Aside0.mk (blk_below (g := w.heap.size) (o := .cells #[.int .u64 base, .int .i64 limit, .int .i64 order] 29 (0, 0)) (by (with_reducible repeat (first | refine blk_drewN ?_ _ | refine blk_drew ?_ | refine blk_alloc ?_ _)); exact BK115.out) hb)
        have n1_ := Aside0.mk (blk_below (g := wr.heap.size) (o := .cells #[.int .u64 p, .int .u64 z] 55 (0, 0)) (by (with_reducible repeat (first | refine blk_drewN ?_ _ | refine blk_drew ?_ | refine blk_alloc ?_ _)); exact BK117.out) hb)
        have n2_ := Aside0.mk (below_step (by repeat (first | (with_reducible first | exact HB.out | apply below_alloc | apply pw_below_drewN | apply below_drew1 | refine below_set ?_ GE115.out | refine below_set ?_ GE117.out) | exact HB.out)) hb)
        clear BK115
        clear BK117
        clear HB
        have BK115 := n0_
        have BK117 := n1_
        have HB := n2_
        clear n0_ n1_ n2_
        (try clear hb)
        (try clear hb2)
        (try clear hk)
        (try clear hi)
        refine hK.out _ _ ⟨(blk_cell BK115.out 0).trans rfl, (blk_cell BK115.out 1).trans rfl, (blk_cell BK115.out 2).trans rfl, (blk_cell BK117.out 0).trans rfl, (blk_cell BK117.out 1).trans rfl⟩ (fun hHeld => ?_)
        clear hK K
        refine norm_ (a' := ?_) ?_ ?_
        rotate_left
        ·show Act.put _ (some 27) _ = _
         simp only [Act.put, Sa, Sb, Sc, i64_w, i32_w]
         rfl
        refine pure_ (i := 4) (N := some 28) (v := ?_) (a' := ?_) #[T,T,T,T,T,F,F,F,F,F,F,F,F,F,F,F,F,F,F,F,F,F,F,F,F,F,F,F,F,F,F,F,F] rfl rfl (any_of HT_.out (by kernel_rfl)) (fun _ _ _ h => h) (Or.inl ⟨by rfl, ?_⟩) ?_ ?_
        rotate_left
        ·intro w'
         go_simp
         with_reducible rfl
        rotate_left
        ·simp only [Act.put, Sa, Sb, Sc, i64_w, i32_w]
         rfl
        refine pure_ (i := 5) (N := some 29) (v := ?_) (a' := ?_) #[T,T,T,T,T,T,F,F,F,F,F,F,F,F,F,F,F,F,F,F,F,F,F,F,F,F,F,F,F,F,F,F,F] rfl rfl (any_of HT_.out (by kernel_rfl)) (fun _ _ _ h => h) (Or.inl ⟨by rfl, ?_⟩) ?_ ?_
        rotate_left
        ·intro w'
         go_simp
         with_reducible rfl
        rotate_left
        ·simp only [Act.put, Sa, Sb, Sc, i64_w, i32_w]
         rfl
        refine pure_ (i := 6) (N := some 30) (v := ?_) (a' := ?_) #[T,T,T,T,T,T,T,F,F,F,F,F,F,F,F,F,F,F,F,F,F,F,F,F,F,F,F,F,F,F,F,F,F] rfl rfl (any_of HT_.out (by kernel_rfl)) (fun _ _ _ h => h) (Or.inl ⟨by rfl, ?_⟩) ?_ ?_
        rotate_left
        ·intro w'
         go_simp
         with_reducible rfl
        rotate_left
        ·simp only [Act.put, Sa, Sb, Sc, i64_w, i32_w]
         rfl
        refine pure_ (i := 8) (N := some 32) (v := ?_) (a' := ?_) #[T,T,T,T,T,T,T,F,T,F,F,F,F,F,F,F,F,F,F,F,F,F,F,F,F,F,F,F,F,F,F,F,F] rfl rfl (any_of HT_.out (by kernel_rfl)) (fun _ _ _ h => h) (Or.inl ⟨by rfl, ?_⟩) ?_ ?_
        rotate_left
        ·intro w'
         go_simp
         with_reducible rfl
        rotate_left
        ·simp only [Act.put, Sa, Sb, Sc, i64_w, i32_w]
         rfl
        refine take_ (i := 7) (N := some 31) (v := ?_) (a' := ?_) #[T,T,T,T,T,T,T,T,T,F,F,F,F,F,F,F,F,F,F,F,F,F,F,F,F,F,F,F,F,F,F,F,F] rfl rfl (take_ofW HT_.out HW_.out (by kernel_rfl)) (fun _ _ _ h => h) (Or.inl ⟨by rfl, ?_⟩) hHeld ?_ ?_
        rotate_left
        ·rintro w' ⟨s0, s1, s2, s3, s4⟩
         go_simp
         with_reducible rfl
        rotate_left
        ·simp only [Act.put, Sa, Sb, Sc, i64_w, i32_w]
         rfl
        refine take_ (i := 9) (N := some 33) (v := ?_) (a' := ?_) #[T,T,T,T,T,T,T,T,T,T,F,F,F,F,F,F,F,F,F,F,F,F,F,F,F,F,F,F,F,F,F,F,F] rfl rfl (take_ofW HT_.out HW_.out (by kernel_rfl)) (fun _ _ _ h => h) (Or.inl ⟨by rfl, ?_⟩) hHeld ?_ ?_
        rotate_left
        ·rintro w' ⟨s0, s1, s2, s3, s4⟩
         go_simp
         with_reducible rfl
        rotate_left
        ·simp only [Act.put, Sa, Sb, Sc, i64_w, i32_w]
         rfl
        refine pure_ (i := 10) (N := some 34) (v := ?_) (a' := ?_) #[T,T,T,T,T,T,T,T,T,T,T,F,F,F,F,F,F,F,F,F,F,F,F,F,F,F,F,F,F,F,F,F,F] rfl rfl (any_of HT_.out (by kernel_rfl)) (fun _ _ _ h => h) (Or.inl ⟨by rfl, ?_⟩) ?_ ?_
        rotate_left
        ·intro w'
         go_simp
         with_reducible rfl
        rotate_left
        ·simp only [Act.put, Sa, Sb, Sc, i64_w, i32_w]
         rfl
        refine pure_ (i := 11) (N := some 35) (v := ?_) (a' := ?_) #[T,T,T,T,T,T,T,T,T,T,T,T,F,F,F,F,F,F,F,F,F,F,F,F,F,F,F,F,F,F,F,F,F] rfl rfl (any_of HT_.out (by kernel_rfl)) (fun _ _ _ h => h) (Or.inl ⟨by rfl, ?_⟩) ?_ ?_
        rotate_left
        ·intro w'
         go_simp
         with_reducible rfl
        rotate_left
        ·simp only [Act.put, Sa, Sb, Sc, i64_w, i32_w]
         rfl
        refine pure_ (i := 12) (N := some 36) (v := ?_) (a' := ?_) #[T,T,T,T,T,T,T,T,T,T,T,T,T,F,F,F,F,F,F,F,F,F,F,F,F,F,F,F,F,F,F,F,F] rfl rfl (any_of HT_.out (by kernel_rfl)) (fun _ _ _ h => h) (Or.inl ⟨by rfl, ?_⟩) ?_ ?_
        rotate_left
        ·intro w'
         go_simp
         with_reducible rfl
        rotate_left
        ·simp only [Act.put, Sa, Sb, Sc, i64_w, i32_w]
         rfl
        refine pure_ (i := 13) (N := some 37) (v := ?_) (a' := ?_) #[T,T,T,T,T,T,T,T,T,T,T,T,T,T,F,F,F,F,F,F,F,F,F,F,F,F,F,F,F,F,F,F,F] rfl rfl (any_of HT_.out (by kernel_rfl)) (fun _ _ _ h => h) (Or.inl ⟨by rfl, ?_⟩) ?_ ?_
        rotate_left
        ·intro w'
         go_simp
         with_reducible rfl
        rotate_left
        ·simp only [Act.put, Sa, Sb, Sc, i64_w, i32_w]
         rfl
        refine pure_ (i := 14) (N := some 38) (v := ?_) (a' := ?_) #[T,T,T,T,T,T,T,T,T,T,T,T,T,T,T,F,F,F,F,F,F,F,F,F,F,F,F,F,F,F,F,F,F] rfl rfl (any_of HT_.out (by kernel_rfl)) (fun _ _ _ h => h) (Or.inl ⟨by rfl, ?_⟩) ?_ ?_
        rotate_left
        ·intro w'
         go_simp
         with_reducible rfl
        rotate_left
        ·simp only [Act.put, Sa, Sb, Sc, i64_w, i32_w]
         rfl
        refine pure_ (i := 16) (N := some 40) (v := ?_) (a' := ?_) #[T,T,T,T,T,T,T,T,T,T,T,T,T,T,T,F,T,F,F,F,F,F,F,F,F,F,F,F,F,F,F,F,F] rfl rfl (any_of HT_.out (by kernel_rfl)) (fun _ _ _ h => h) (Or.inl ⟨by rfl, ?_⟩) ?_ ?_
        rotate_left
        ·intro w'
         go_simp
         with_reducible rfl
        rotate_left
        ·simp only [Act.put, Sa, Sb, Sc, i64_w, i32_w]
         rfl
        refine take_ (i := 15) (N := some 39) (v := ?_) (a' := ?_) #[T,T,T,T,T,T,T,T,T,T,T,T,T,T,T,T,T,F,F,F,F,F,F,F,F,F,F,F,F,F,F,F,F] rfl rfl (take_ofW HT_.out HW_.out (by kernel_rfl)) (fun _ _ _ h => h) (Or.inl ⟨by rfl, ?_⟩) hHeld ?_ ?_
        rotate_left
        ·rintro w' ⟨s0, s1, s2, s3, s4⟩
         go_simp
         with_reducible rfl
        rotate_left
        ·simp only [Act.put, Sa, Sb, Sc, i64_w, i32_w]
         rfl
        refine take_ (i := 17) (N := some 41) (v := ?_) (a' := ?_) #[T,T,T,T,T,T,T,T,T,T,T,T,T,T,T,T,T,T,F,F,F,F,F,F,F,F,F,F,F,F,F,F,F] rfl rfl (take_ofW HT_.out HW_.out (by kernel_rfl)) (fun _ _ _ h => h) (Or.inl ⟨by rfl, ?_⟩) hHeld ?_ ?_
        rotate_left
        ·rintro w' ⟨s0, s1, s2, s3, s4⟩
         go_simp
         with_reducible rfl
        rotate_left
        ·simp only [Act.put, Sa, Sb, Sc, i64_w, i32_w]
         rfl
        refine pure_ (i := 18) (N := some 42) (v := ?_) (a' := ?_) #[T,T,T,T,T,T,T,T,T,T,T,T,T,T,T,T,T,T,T,F,F,F,F,F,F,F,F,F,F,F,F,F,F] rfl rfl (any_of HT_.out (by kernel_rfl)) (fun _ _ _ h => h) (Or.inl ⟨by rfl, ?_⟩) ?_ ?_
        rotate_left
        ·intro w'
         go_simp
         with_reducible rfl
        rotate_left
        ·simp only [Act.put, Sa, Sb, Sc, i64_w, i32_w]
         rfl
        refine pure_ (i := 19) (N := some 43) (v := ?_) (a' := ?_) #[T,T,T,T,T,T,T,T,T,T,T,T,T,T,T,T,T,T,T,T,F,F,F,F,F,F,F,F,F,F,F,F,F] rfl rfl (any_of HT_.out (by kernel_rfl)) (fun _ _ _ h => h) (Or.inl ⟨by rfl, ?_⟩) ?_ ?_
        rotate_left
        ·intro w'
         go_simp
         with_reducible rfl
        rotate_left
        ·simp only [Act.put, Sa, Sb, Sc, i64_w, i32_w]
         rfl
        refine pure_ (i := 20) (N := some 44) (v := ?_) (a' := ?_) #[T,T,T,T,T,T,T,T,T,T,T,T,T,T,T,T,T,T,T,T,T,F,F,F,F,F,F,F,F,F,F,F,F] rfl rfl (any_of HT_.out (by kernel_rfl)) (fun _ _ _ h => h) (Or.inl ⟨by rfl, ?_⟩) ?_ ?_
        rotate_left
        ·intro w'
         go_simp
         with_reducible rfl
        rotate_left
        ·simp only [Act.put, Sa, Sb, Sc, i64_w, i32_w]
         rfl
        refine pure_ (i := 21) (N := some 45) (v := undef) (a' := ?_) #[T,T,T,T,T,T,T,T,T,T,T,T,T,T,T,T,T,T,T,T,T,T,F,F,F,F,F,F,F,F,F,F,F] rfl rfl (any_of HT_.out (by kernel_rfl)) (fun _ _ _ h => h) (Or.inr ⟨by rfl, rfl⟩) ?_ ?_
        rotate_left
        ·simp only [Act.put, Sa, Sb, Sc, i64_w, i32_w]
         rfl
        refine pure_ (i := 22) (N := some 46) (v := undef) (a' := ?_) #[T,T,T,T,T,T,T,T,T,T,T,T,T,T,T,T,T,T,T,T,T,T,T,F,F,F,F,F,F,F,F,F,F] rfl rfl (any_of HT_.out (by kernel_rfl)) (fun _ _ _ h => h) (Or.inr ⟨by rfl, rfl⟩) ?_ ?_
        rotate_left
        ·simp only [Act.put, Sa, Sb, Sc, i64_w, i32_w]
         rfl
        refine pure_ (i := 23) (N := some 47) (v := undef) (a' := ?_) #[T,T,T,T,T,T,T,T,T,T,T,T,T,T,T,T,T,T,T,T,T,T,T,T,F,F,F,F,F,F,F,F,F] rfl rfl (any_of HT_.out (by kernel_rfl)) (fun _ _ _ h => h) (Or.inr ⟨by rfl, rfl⟩) ?_ ?_
        rotate_left
        ·simp only [Act.put, Sa, Sb, Sc, i64_w, i32_w]
         rfl
        refine pure_ (i := 24) (N := some 48) (v := undef) (a' := ?_) #[T,T,T,T,T,T,T,T,T,T,T,T,T,T,T,T,T,T,T,T,T,T,T,T,T,F,F,F,F,F,F,F,F] rfl rfl (any_of HT_.out (by kernel_rfl)) (fun _ _ _ h => h) (Or.inr ⟨by rfl, rfl⟩) ?_ ?_
        rotate_left
        ·simp only [Act.put, Sa, Sb, Sc, i64_w, i32_w]
         rfl
        refine pure_ (i := 25) (N := some 49) (v := undef) (a' := ?_) #[T,T,T,T,T,T,T,T,T,T,T,T,T,T,T,T,T,T,T,T,T,T,T,T,T,T,F,F,F,F,F,F,F] rfl rfl (any_of HT_.out (by kernel_rfl)) (fun _ _ _ h => h) (Or.inr ⟨by rfl, rfl⟩) ?_ ?_
        rotate_left
        ·simp only [Act.put, Sa, Sb, Sc, i64_w, i32_w]
         rfl
        refine pure_ (i := 26) (N := some 50) (v := undef) (a' := ?_) #[T,T,T,T,T,T,T,T,T,T,T,T,T,T,T,T,T,T,T,T,T,T,T,T,T,T,T,F,F,F,F,F,F] rfl rfl (any_of HT_.out (by kernel_rfl)) (fun _ _ _ h => h) (Or.inr ⟨by rfl, rfl⟩) ?_ ?_
        rotate_left
        ·simp only [Act.put, Sa, Sb, Sc, i64_w, i32_w]
         rfl
        refine pure_ (i := 27) (N := some 51) (v := undef) (a' := ?_) #[T,T,T,T,T,T,T,T,T,T,T,T,T,T,T,T,T,T,T,T,T,T,T,T,T,T,T,T,F,F,F,F,F] rfl rfl (any_of HT_.out (by kernel_rfl)) (fun _ _ _ h => h) (Or.inr ⟨by rfl, rfl⟩) ?_ ?_
        rotate_left
        ·simp only [Act.put, Sa, Sb, Sc, i64_w, i32_w]
         rfl
        refine pure_ (i := 28) (N := some 52) (v := undef) (a' := ?_) #[T,T,T,T,T,T,T,T,T,T,T,T,T,T,T,T,T,T,T,T,T,T,T,T,T,T,T,T,T,F,F,F,F] rfl rfl (any_of HT_.out (by kernel_rfl)) (fun _ _ _ h => h) (Or.inr ⟨by rfl, rfl⟩) ?_ ?_
        rotate_left
        ·simp only [Act.put, Sa, Sb, Sc, i64_w, i32_w]
         rfl
        refine pure_ (i := 29) (N := some 53) (v := undef) (a' := ?_) #[T,T,T,T,T,T,T,T,T,T,T,T,T,T,T,T,T,T,T,T,T,T,T,T,T,T,T,T,T,T,F,F,F] rfl rfl (any_of HT_.out (by kernel_rfl)) (fun _ _ _ h => h) (Or.inr ⟨by rfl, rfl⟩) ?_ ?_
        rotate_left
        ·simp only [Act.put, Sa, Sb, Sc, i64_w, i32_w]
         rfl
        refine pure_ (i := 30) (N := some 54) (v := undef) (a' := ?_) #[T,T,T,T,T,T,T,T,T,T,T,T,T,T,T,T,T,T,T,T,T,T,T,T,T,T,T,T,T,T,T,F,F] rfl rfl (any_of HT_.out (by kernel_rfl)) (fun _ _ _ h => h) (Or.inr ⟨by rfl, rfl⟩) ?_ ?_
        rotate_left
        ·simp only [Act.put, Sa, Sb, Sc, i64_w, i32_w]
         rfl
        refine pure_ (i := 31) (N := some 55) (v := undef) (a' := ?_) #[T,T,T,T,T,T,T,T,T,T,T,T,T,T,T,T,T,T,T,T,T,T,T,T,T,T,T,T,T,T,T,T,F] rfl rfl (any_of HT_.out (by kernel_rfl)) (fun _ _ _ h => h) (Or.inr ⟨by rfl, rfl⟩) ?_ ?_
        rotate_left
        ·simp only [Act.put, Sa, Sb, Sc, i64_w, i32_w]
         rfl
        refine pure_ (i := 32) (N := some 56) (v := ?_) (a' := ?_) #[T,T,T,T,T,T,T,T,T,T,T,T,T,T,T,T,T,T,T,T,T,T,T,T,T,T,T,T,T,T,T,T,T] rfl rfl (any_of HT_.out (by kernel_rfl)) (fun _ _ _ h => h) (Or.inl ⟨by rfl, ?_⟩) ?_ ?_
        rotate_left
        ·intro w'
         go_simp
         with_reducible rfl
        rotate_left
        ·simp only [Act.put, Sa, Sb, Sc, i64_w, i32_w]
         rfl
        refine done_ (done_of HT_.out (by kernel_rfl)) ?_
        go_wp2_with fail
        go_meet
        first
         | exact ⟨true, rfl, ⟨HRES.out.2 (by omega)⟩, ⟨BK117.out⟩, ⟨HWR.out.trans (HB.out.mono HWR.out.size)⟩⟩
         | exact ⟨false, rfl, ⟨by first | exact HRES.out.1 rfl | exact HRES.out.1 trivial⟩, ⟨BK117.out⟩, ⟨HWR.out.trans (HB.out.mono HWR.out.size)⟩⟩
       ·rw [if_neg c12] at H
        have c12b0 : decide (p < base) = false := decide_eq_false c12
        clear c12
        replace H := Option.bind_eq_some_iff.mp H
        obtain ⟨t119, A190, H⟩ := H
        replace H : (if (IntKind.u64.wrap (p - base)) ≥ (IntKind.u64.wrap ((IntKind.u64.wrap (n)) * t119)) then (some (i : Int)) else (some (-1))) = some r := H
        have A19 := Aside0.mk A190
        clear A190
        by_cases c20 : (IntKind.u64.wrap (p - base)) ≥ (IntKind.u64.wrap ((IntKind.u64.wrap (n)) * t119))
        ·rw [if_pos c20] at H
         have c20b0 : decide ((IntKind.u64.wrap ((IntKind.u64.wrap (n)) * t119)) ≤ (IntKind.u64.wrap (p - base))) = true := decide_eq_true c20
         clear c20
         obtain rfl := Option.some.inj H
         have n0_ := Aside0.mk (blk_drew BK115.out)
         have n1_ := Aside0.mk (blk_drew BK117.out)
         have n2_ := Aside0.mk (below_drew1 HB.out)
         clear BK115
         clear BK117
         clear HB
         have BK115 := n0_
         have BK117 := n1_
         have HB := n2_
         clear n0_ n1_ n2_
         refine start_ (n := 33) (S := fun w' => w'.cell? ⟨w.heap.size, 0, none⟩ = some (.int .u64 base) ∧ w'.cell? ⟨w.heap.size, 1, none⟩ = some (.int .i64 limit) ∧ w'.cell? ⟨w.heap.size, 2, none⟩ = some (.int .i64 order) ∧ w'.cell? ⟨wr.heap.size, 0, none⟩ = some (.int .u64 p) ∧ w'.cell? ⟨wr.heap.size, 1, none⟩ = some (.int .u64 z)) (ds := []) #[F,F,F,F,F,F,F,F,F,F,F,F,F,F,F,F,F,F,F,F,F,F,F,F,F,F,F,F,F,F,F,F,F] (by kernel_rfl) rfl rfl ⟨(blk_cell BK115.out 0).trans rfl, (blk_cell BK115.out 1).trans rfl, (blk_cell BK115.out 2).trans rfl, (blk_cell BK117.out 0).trans rfl, (blk_cell BK117.out 1).trans rfl⟩ (fun hHeld => ?_); refine with_tabW tab5 bits5 (fun HT_ HW_ => ?_)
         generalize wq.drew = w25 at BK115 BK117 HB hHeld ⊢
         refine pure_ (i := 1) (N := some 25) (v := ?_) (a' := ?_) #[F,T,F,F,F,F,F,F,F,F,F,F,F,F,F,F,F,F,F,F,F,F,F,F,F,F,F,F,F,F,F,F,F] rfl rfl (any_of HT_.out (by kernel_rfl)) (fun _ _ _ h => h) (Or.inl ⟨by rfl, ?_⟩) ?_ ?_
         rotate_left
         ·intro w'
          go_simp
          with_reducible rfl
         rotate_left
         ·simp only [Act.put, Sa, Sb, Sc, i64_w, i32_w]
          rfl
         refine take_ (i := 0) (N := some 24) (v := ?_) (a' := ?_) #[T,T,F,F,F,F,F,F,F,F,F,F,F,F,F,F,F,F,F,F,F,F,F,F,F,F,F,F,F,F,F,F,F] rfl rfl (take_ofW HT_.out HW_.out (by kernel_rfl)) (fun _ _ _ h => h) (Or.inl ⟨by rfl, ?_⟩) hHeld ?_ ?_
         rotate_left
         ·rintro w' ⟨s0, s1, s2, s3, s4⟩
          go_simp
          with_reducible rfl
         rotate_left
         ·simp only [Act.put, Sa, Sb, Sc, i64_w, i32_w]
          rfl
         refine take_ (i := 2) (N := some 26) (v := ?_) (a' := ?_) #[T,T,T,F,F,F,F,F,F,F,F,F,F,F,F,F,F,F,F,F,F,F,F,F,F,F,F,F,F,F,F,F,F] rfl rfl (take_ofW HT_.out HW_.out (by kernel_rfl)) (fun _ _ _ h => h) (Or.inl ⟨by rfl, ?_⟩) hHeld ?_ ?_
         rotate_left
         ·rintro w' ⟨s0, s1, s2, s3, s4⟩
          go_simp
          with_reducible rfl
         rotate_left
         ·simp only [Act.put, Sa, Sb, Sc, i64_w, i32_w]
          rfl
         refine one_ (i := 3) (N := some 27) #[T,T,T,T,F,F,F,F,F,F,F,F,F,F,F,F,F,F,F,F,F,F,F,F,F,F,F,F,F,F,F,F,F] rfl rfl (one_of HT_.out (by kernel_rfl)) (by decide) (fun K hK => ?_)
         refine goes_ Try.func46 (by kernel_rfl) rfl #[.agg #[.int .u64 base, .int .i64 limit, .int .i64 order], .int .u64 z] (by rfl) rfl rfl (by (try simp only [List.map_toArray, List.map_cons, List.map_nil]); first | done | rfl | (simp only [List.length_drop, List.length_take]; rfl)) ?_
         with_reducible refine (oracle_size.calls base limit order z true _ A8.out).mono ?_
         rintro e w26 ⟨rfl, hb⟩
         refine ⟨_, rfl, ?_⟩
         have n0_ := Aside0.mk (blk_below (g := w.heap.size) (o := .cells #[.int .u64 base, .int .i64 limit, .int .i64 order] 29 (0, 0)) (by (with_reducible repeat (first | refine blk_drewN ?_ _ | refine blk_drew ?_ | refine blk_alloc ?_ _)); exact BK115.out) hb)
         have n1_ := Aside0.mk (blk_below (g := wr.heap.size) (o := .cells #[.int .u64 p, .int .u64 z] 55 (0, 0)) (by (with_reducible repeat (first | refine blk_drewN ?_ _ | refine blk_drew ?_ | refine blk_alloc ?_ _)); exact BK117.out) hb)
         have n2_ := Aside0.mk (below_step (by repeat (first | (with_reducible first | exact HB.out | apply below_alloc | apply pw_below_drewN | apply below_drew1 | refine below_set ?_ GE115.out | refine below_set ?_ GE117.out) | exact HB.out)) hb)
         clear BK115
         clear BK117
         clear HB
         have BK115 := n0_
         have BK117 := n1_
         have HB := n2_
         clear n0_ n1_ n2_
         (try clear hb)
         (try clear hb2)
         (try clear hk)
         (try clear hi)
         refine hK.out _ _ ⟨(blk_cell BK115.out 0).trans rfl, (blk_cell BK115.out 1).trans rfl, (blk_cell BK115.out 2).trans rfl, (blk_cell BK117.out 0).trans rfl, (blk_cell BK117.out 1).trans rfl⟩ (fun hHeld => ?_)
         clear hK K
         refine norm_ (a' := ?_) ?_ ?_
         rotate_left
         ·show Act.put _ (some 27) _ = _
          simp only [Act.put, Sa, Sb, Sc, i64_w, i32_w]
          rfl
         refine pure_ (i := 4) (N := some 28) (v := ?_) (a' := ?_) #[T,T,T,T,T,F,F,F,F,F,F,F,F,F,F,F,F,F,F,F,F,F,F,F,F,F,F,F,F,F,F,F,F] rfl rfl (any_of HT_.out (by kernel_rfl)) (fun _ _ _ h => h) (Or.inl ⟨by rfl, ?_⟩) ?_ ?_
         rotate_left
         ·intro w'
          go_simp
          with_reducible rfl
         rotate_left
         ·simp only [Act.put, Sa, Sb, Sc, i64_w, i32_w]
          rfl
         refine pure_ (i := 5) (N := some 29) (v := ?_) (a' := ?_) #[T,T,T,T,T,T,F,F,F,F,F,F,F,F,F,F,F,F,F,F,F,F,F,F,F,F,F,F,F,F,F,F,F] rfl rfl (any_of HT_.out (by kernel_rfl)) (fun _ _ _ h => h) (Or.inl ⟨by rfl, ?_⟩) ?_ ?_
         rotate_left
         ·intro w'
          go_simp
          with_reducible rfl
         rotate_left
         ·simp only [Act.put, Sa, Sb, Sc, i64_w, i32_w]
          rfl
         refine pure_ (i := 6) (N := some 30) (v := ?_) (a' := ?_) #[T,T,T,T,T,T,T,F,F,F,F,F,F,F,F,F,F,F,F,F,F,F,F,F,F,F,F,F,F,F,F,F,F] rfl rfl (any_of HT_.out (by kernel_rfl)) (fun _ _ _ h => h) (Or.inl ⟨by rfl, ?_⟩) ?_ ?_
         rotate_left
         ·intro w'
          go_simp
          with_reducible rfl
         rotate_left
         ·simp only [Act.put, Sa, Sb, Sc, i64_w, i32_w]
          rfl
         refine pure_ (i := 8) (N := some 32) (v := ?_) (a' := ?_) #[T,T,T,T,T,T,T,F,T,F,F,F,F,F,F,F,F,F,F,F,F,F,F,F,F,F,F,F,F,F,F,F,F] rfl rfl (any_of HT_.out (by kernel_rfl)) (fun _ _ _ h => h) (Or.inl ⟨by rfl, ?_⟩) ?_ ?_
         rotate_left
         ·intro w'
          go_simp
          with_reducible rfl
         rotate_left
         ·simp only [Act.put, Sa, Sb, Sc, i64_w, i32_w]
          rfl
         refine take_ (i := 7) (N := some 31) (v := ?_) (a' := ?_) #[T,T,T,T,T,T,T,T,T,F,F,F,F,F,F,F,F,F,F,F,F,F,F,F,F,F,F,F,F,F,F,F,F] rfl rfl (take_ofW HT_.out HW_.out (by kernel_rfl)) (fun _ _ _ h => h) (Or.inl ⟨by rfl, ?_⟩) hHeld ?_ ?_
         rotate_left
         ·rintro w' ⟨s0, s1, s2, s3, s4⟩
          go_simp
          with_reducible rfl
         rotate_left
         ·simp only [Act.put, Sa, Sb, Sc, i64_w, i32_w]
          rfl
         refine take_ (i := 9) (N := some 33) (v := ?_) (a' := ?_) #[T,T,T,T,T,T,T,T,T,T,F,F,F,F,F,F,F,F,F,F,F,F,F,F,F,F,F,F,F,F,F,F,F] rfl rfl (take_ofW HT_.out HW_.out (by kernel_rfl)) (fun _ _ _ h => h) (Or.inl ⟨by rfl, ?_⟩) hHeld ?_ ?_
         rotate_left
         ·rintro w' ⟨s0, s1, s2, s3, s4⟩
          go_simp
          with_reducible rfl
         rotate_left
         ·simp only [Act.put, Sa, Sb, Sc, i64_w, i32_w]
          rfl
         refine pure_ (i := 10) (N := some 34) (v := ?_) (a' := ?_) #[T,T,T,T,T,T,T,T,T,T,T,F,F,F,F,F,F,F,F,F,F,F,F,F,F,F,F,F,F,F,F,F,F] rfl rfl (any_of HT_.out (by kernel_rfl)) (fun _ _ _ h => h) (Or.inl ⟨by rfl, ?_⟩) ?_ ?_
         rotate_left
         ·intro w'
          go_simp
          with_reducible rfl
         rotate_left
         ·simp only [Act.put, Sa, Sb, Sc, i64_w, i32_w]
          rfl
         refine pure_ (i := 11) (N := some 35) (v := ?_) (a' := ?_) #[T,T,T,T,T,T,T,T,T,T,T,T,F,F,F,F,F,F,F,F,F,F,F,F,F,F,F,F,F,F,F,F,F] rfl rfl (any_of HT_.out (by kernel_rfl)) (fun _ _ _ h => h) (Or.inl ⟨by rfl, ?_⟩) ?_ ?_
         rotate_left
         ·intro w'
          go_simp
          with_reducible rfl
         rotate_left
         ·simp only [Act.put, Sa, Sb, Sc, i64_w, i32_w]
          rfl
         refine pure_ (i := 12) (N := some 36) (v := ?_) (a' := ?_) #[T,T,T,T,T,T,T,T,T,T,T,T,T,F,F,F,F,F,F,F,F,F,F,F,F,F,F,F,F,F,F,F,F] rfl rfl (any_of HT_.out (by kernel_rfl)) (fun _ _ _ h => h) (Or.inl ⟨by rfl, ?_⟩) ?_ ?_
         rotate_left
         ·intro w'
          go_simp
          with_reducible rfl
         rotate_left
         ·simp only [Act.put, Sa, Sb, Sc, i64_w, i32_w]
          rfl
         refine pure_ (i := 13) (N := some 37) (v := ?_) (a' := ?_) #[T,T,T,T,T,T,T,T,T,T,T,T,T,T,F,F,F,F,F,F,F,F,F,F,F,F,F,F,F,F,F,F,F] rfl rfl (any_of HT_.out (by kernel_rfl)) (fun _ _ _ h => h) (Or.inl ⟨by rfl, ?_⟩) ?_ ?_
         rotate_left
         ·intro w'
          go_simp
          with_reducible rfl
         rotate_left
         ·simp only [Act.put, Sa, Sb, Sc, i64_w, i32_w]
          rfl
         refine pure_ (i := 14) (N := some 38) (v := ?_) (a' := ?_) #[T,T,T,T,T,T,T,T,T,T,T,T,T,T,T,F,F,F,F,F,F,F,F,F,F,F,F,F,F,F,F,F,F] rfl rfl (any_of HT_.out (by kernel_rfl)) (fun _ _ _ h => h) (Or.inl ⟨by rfl, ?_⟩) ?_ ?_
         rotate_left
         ·intro w'
          go_simp
          with_reducible rfl
         rotate_left
         ·simp only [Act.put, Sa, Sb, Sc, i64_w, i32_w]
          rfl
         refine pure_ (i := 16) (N := some 40) (v := ?_) (a' := ?_) #[T,T,T,T,T,T,T,T,T,T,T,T,T,T,T,F,T,F,F,F,F,F,F,F,F,F,F,F,F,F,F,F,F] rfl rfl (any_of HT_.out (by kernel_rfl)) (fun _ _ _ h => h) (Or.inl ⟨by rfl, ?_⟩) ?_ ?_
         rotate_left
         ·intro w'
          go_simp
          with_reducible rfl
         rotate_left
         ·simp only [Act.put, Sa, Sb, Sc, i64_w, i32_w]
          rfl
         refine take_ (i := 15) (N := some 39) (v := ?_) (a' := ?_) #[T,T,T,T,T,T,T,T,T,T,T,T,T,T,T,T,T,F,F,F,F,F,F,F,F,F,F,F,F,F,F,F,F] rfl rfl (take_ofW HT_.out HW_.out (by kernel_rfl)) (fun _ _ _ h => h) (Or.inl ⟨by rfl, ?_⟩) hHeld ?_ ?_
         rotate_left
         ·rintro w' ⟨s0, s1, s2, s3, s4⟩
          go_simp
          with_reducible rfl
         rotate_left
         ·simp only [Act.put, Sa, Sb, Sc, i64_w, i32_w]
          rfl
         refine take_ (i := 17) (N := some 41) (v := ?_) (a' := ?_) #[T,T,T,T,T,T,T,T,T,T,T,T,T,T,T,T,T,T,F,F,F,F,F,F,F,F,F,F,F,F,F,F,F] rfl rfl (take_ofW HT_.out HW_.out (by kernel_rfl)) (fun _ _ _ h => h) (Or.inl ⟨by rfl, ?_⟩) hHeld ?_ ?_
         rotate_left
         ·rintro w' ⟨s0, s1, s2, s3, s4⟩
          go_simp
          with_reducible rfl
         rotate_left
         ·simp only [Act.put, Sa, Sb, Sc, i64_w, i32_w]
          rfl
         refine pure_ (i := 18) (N := some 42) (v := ?_) (a' := ?_) #[T,T,T,T,T,T,T,T,T,T,T,T,T,T,T,T,T,T,T,F,F,F,F,F,F,F,F,F,F,F,F,F,F] rfl rfl (any_of HT_.out (by kernel_rfl)) (fun _ _ _ h => h) (Or.inl ⟨by rfl, ?_⟩) ?_ ?_
         rotate_left
         ·intro w'
          go_simp
          with_reducible rfl
         rotate_left
         ·simp only [Act.put, Sa, Sb, Sc, i64_w, i32_w]
          rfl
         refine pure_ (i := 19) (N := some 43) (v := ?_) (a' := ?_) #[T,T,T,T,T,T,T,T,T,T,T,T,T,T,T,T,T,T,T,T,F,F,F,F,F,F,F,F,F,F,F,F,F] rfl rfl (any_of HT_.out (by kernel_rfl)) (fun _ _ _ h => h) (Or.inl ⟨by rfl, ?_⟩) ?_ ?_
         rotate_left
         ·intro w'
          go_simp
          with_reducible rfl
         rotate_left
         ·simp only [Act.put, Sa, Sb, Sc, i64_w, i32_w]
          rfl
         refine pure_ (i := 20) (N := some 44) (v := ?_) (a' := ?_) #[T,T,T,T,T,T,T,T,T,T,T,T,T,T,T,T,T,T,T,T,T,F,F,F,F,F,F,F,F,F,F,F,F] rfl rfl (any_of HT_.out (by kernel_rfl)) (fun _ _ _ h => h) (Or.inl ⟨by rfl, ?_⟩) ?_ ?_
         rotate_left
         ·intro w'
          go_simp
          with_reducible rfl
         rotate_left
         ·simp only [Act.put, Sa, Sb, Sc, i64_w, i32_w]
          rfl
         refine pure_ (i := 21) (N := some 45) (v := ?_) (a' := ?_) #[T,T,T,T,T,T,T,T,T,T,T,T,T,T,T,T,T,T,T,T,T,T,F,F,F,F,F,F,F,F,F,F,F] rfl rfl (any_of HT_.out (by kernel_rfl)) (fun _ _ _ h => h) (Or.inl ⟨by rfl, ?_⟩) ?_ ?_
         rotate_left
         ·intro w'
          go_simp
          with_reducible rfl
         rotate_left
         ·simp only [Act.put, Sa, Sb, Sc, i64_w, i32_w]
          rfl
         refine pure_ (i := 23) (N := some 47) (v := ?_) (a' := ?_) #[T,T,T,T,T,T,T,T,T,T,T,T,T,T,T,T,T,T,T,T,T,T,F,T,F,F,F,F,F,F,F,F,F] rfl rfl (any_of HT_.out (by kernel_rfl)) (fun _ _ _ h => h) (Or.inl ⟨by rfl, ?_⟩) ?_ ?_
         rotate_left
         ·intro w'
          go_simp
          with_reducible rfl
         rotate_left
         ·simp only [Act.put, Sa, Sb, Sc, i64_w, i32_w]
          rfl
         refine pure_ (i := 26) (N := some 50) (v := ?_) (a' := ?_) #[T,T,T,T,T,T,T,T,T,T,T,T,T,T,T,T,T,T,T,T,T,T,F,T,F,F,T,F,F,F,F,F,F] rfl rfl (any_of HT_.out (by kernel_rfl)) (fun _ _ _ h => h) (Or.inl ⟨by rfl, ?_⟩) ?_ ?_
         rotate_left
         ·intro w'
          go_simp
          with_reducible rfl
         rotate_left
         ·simp only [Act.put, Sa, Sb, Sc, i64_w, i32_w]
          rfl
         refine pure_ (i := 27) (N := some 51) (v := ?_) (a' := ?_) #[T,T,T,T,T,T,T,T,T,T,T,T,T,T,T,T,T,T,T,T,T,T,F,T,F,F,T,T,F,F,F,F,F] rfl rfl (any_of HT_.out (by kernel_rfl)) (fun _ _ _ h => h) (Or.inl ⟨by rfl, ?_⟩) ?_ ?_
         rotate_left
         ·intro w'
          go_simp
          with_reducible rfl
         rotate_left
         ·simp only [Act.put, Sa, Sb, Sc, i64_w, i32_w]
          rfl
         refine take_ (i := 22) (N := some 46) (v := ?_) (a' := ?_) #[T,T,T,T,T,T,T,T,T,T,T,T,T,T,T,T,T,T,T,T,T,T,T,T,F,F,T,T,F,F,F,F,F] rfl rfl (take_ofW HT_.out HW_.out (by kernel_rfl)) (fun _ _ _ h => h) (Or.inl ⟨by rfl, ?_⟩) hHeld ?_ ?_
         rotate_left
         ·rintro w' ⟨s0, s1, s2, s3, s4⟩
          go_simp
          with_reducible rfl
         rotate_left
         ·simp only [Act.put, Sa, Sb, Sc, i64_w, i32_w]
          rfl
         refine take_ (i := 24) (N := some 48) (v := ?_) (a' := ?_) #[T,T,T,T,T,T,T,T,T,T,T,T,T,T,T,T,T,T,T,T,T,T,T,T,T,F,T,T,F,F,F,F,F] rfl rfl (take_ofW HT_.out HW_.out (by kernel_rfl)) (fun _ _ _ h => h) (Or.inl ⟨by rfl, ?_⟩) hHeld ?_ ?_
         rotate_left
         ·rintro w' ⟨s0, s1, s2, s3, s4⟩
          go_simp
          with_reducible rfl
         rotate_left
         ·simp only [Act.put, Sa, Sb, Sc, i64_w, i32_w]
          rfl
         refine pure_ (i := 25) (N := some 49) (v := ?_) (a' := ?_) #[T,T,T,T,T,T,T,T,T,T,T,T,T,T,T,T,T,T,T,T,T,T,T,T,T,T,T,T,F,F,F,F,F] rfl rfl (any_of HT_.out (by kernel_rfl)) (fun _ _ _ h => h) (Or.inl ⟨by rfl, ?_⟩) ?_ ?_
         rotate_left
         ·intro w'
          go_simp
          with_reducible rfl
         rotate_left
         ·simp only [Act.put, Sa, Sb, Sc, i64_w, i32_w]
          rfl
         refine take_ (i := 28) (N := some 52) (v := ?_) (a' := ?_) #[T,T,T,T,T,T,T,T,T,T,T,T,T,T,T,T,T,T,T,T,T,T,T,T,T,T,T,T,T,F,F,F,F] rfl rfl (take_ofW HT_.out HW_.out (by kernel_rfl)) (fun _ _ _ h => h) (Or.inl ⟨by rfl, ?_⟩) hHeld ?_ ?_
         rotate_left
         ·rintro w' ⟨s0, s1, s2, s3, s4⟩
          go_simp
          with_reducible rfl
         rotate_left
         ·simp only [Act.put, Sa, Sb, Sc, i64_w, i32_w]
          rfl
         refine one_ (i := 29) (N := some 53) #[T,T,T,T,T,T,T,T,T,T,T,T,T,T,T,T,T,T,T,T,T,T,T,T,T,T,T,T,T,T,F,F,F] rfl rfl (one_of HT_.out (by kernel_rfl)) (by decide) (fun K hK => ?_)
         refine goes_ Try.func51 (by kernel_rfl) rfl #[.agg #[.int .u64 base, .int .i64 limit, .int .i64 order]] (by rfl) rfl rfl (by (try simp only [List.map_toArray, List.map_cons, List.map_nil]); first | done | rfl | (simp only [List.length_drop, List.length_take]; rfl)) ?_
         with_reducible refine (oracle_region.calls base limit order t119 _ A19.out).mono ?_
         rintro e w27 ⟨rfl, hb⟩
         refine ⟨_, rfl, ?_⟩
         have n0_ := Aside0.mk (blk_below (g := w.heap.size) (o := .cells #[.int .u64 base, .int .i64 limit, .int .i64 order] 29 (0, 0)) (by (with_reducible repeat (first | refine blk_drewN ?_ _ | refine blk_drew ?_ | refine blk_alloc ?_ _)); exact BK115.out) hb)
         have n1_ := Aside0.mk (blk_below (g := wr.heap.size) (o := .cells #[.int .u64 p, .int .u64 z] 55 (0, 0)) (by (with_reducible repeat (first | refine blk_drewN ?_ _ | refine blk_drew ?_ | refine blk_alloc ?_ _)); exact BK117.out) hb)
         have n2_ := Aside0.mk (below_step (by repeat (first | (with_reducible first | exact HB.out | apply below_alloc | apply pw_below_drewN | apply below_drew1 | refine below_set ?_ GE115.out | refine below_set ?_ GE117.out) | exact HB.out)) hb)
         clear BK115
         clear BK117
         clear HB
         have BK115 := n0_
         have BK117 := n1_
         have HB := n2_
         clear n0_ n1_ n2_
         (try clear hb)
         (try clear hb2)
         (try clear hk)
         (try clear hi)
         refine hK.out _ _ ⟨(blk_cell BK115.out 0).trans rfl, (blk_cell BK115.out 1).trans rfl, (blk_cell BK115.out 2).trans rfl, (blk_cell BK117.out 0).trans rfl, (blk_cell BK117.out 1).trans rfl⟩ (fun hHeld => ?_)
         clear hK K
         refine norm_ (a' := ?_) ?_ ?_
         rotate_left
         ·show Act.put _ (some 53) _ = _
          simp only [Act.put, Sa, Sb, Sc, i64_w, i32_w]
          rfl
         refine pure_ (i := 30) (N := some 54) (v := ?_) (a' := ?_) #[T,T,T,T,T,T,T,T,T,T,T,T,T,T,T,T,T,T,T,T,T,T,T,T,T,T,T,T,T,T,T,F,F] rfl rfl (any_of HT_.out (by kernel_rfl)) (fun _ _ _ h => h) (Or.inl ⟨by rfl, ?_⟩) ?_ ?_
         rotate_left
         ·intro w'
          go_simp
          with_reducible rfl
         rotate_left
         ·simp only [Act.put, Sa, Sb, Sc, i64_w, i32_w]
          rfl
         refine pure_ (i := 31) (N := some 55) (v := ?_) (a' := ?_) #[T,T,T,T,T,T,T,T,T,T,T,T,T,T,T,T,T,T,T,T,T,T,T,T,T,T,T,T,T,T,T,T,F] rfl rfl (any_of HT_.out (by kernel_rfl)) (fun _ _ _ h => h) (Or.inl ⟨by rfl, ?_⟩) ?_ ?_
         rotate_left
         ·intro w'
          go_simp
          with_reducible rfl
         rotate_left
         ·simp only [Act.put, Sa, Sb, Sc, i64_w, i32_w]
          rfl
         refine pure_ (i := 32) (N := some 56) (v := ?_) (a' := ?_) #[T,T,T,T,T,T,T,T,T,T,T,T,T,T,T,T,T,T,T,T,T,T,T,T,T,T,T,T,T,T,T,T,T] rfl rfl (any_of HT_.out (by kernel_rfl)) (fun _ _ _ h => h) (Or.inl ⟨by rfl, ?_⟩) ?_ ?_
         rotate_left
         ·intro w'
          go_simp
          with_reducible rfl
         rotate_left
         ·simp only [Act.put, Sa, Sb, Sc, i64_w, i32_w]
          rfl
         refine done_ (done_of HT_.out (by kernel_rfl)) ?_
         go_wp2_with fail
         go_meet
         first
          | exact ⟨true, rfl, ⟨HRES.out.2 (by omega)⟩, ⟨BK117.out⟩, ⟨HWR.out.trans (HB.out.mono HWR.out.size)⟩⟩
          | exact ⟨false, rfl, ⟨by first | exact HRES.out.1 rfl | exact HRES.out.1 trivial⟩, ⟨BK117.out⟩, ⟨HWR.out.trans (HB.out.mono HWR.out.size)⟩⟩
        ·rw [if_neg c20] at H
         have c20b0 : decide ((IntKind.u64.wrap ((IntKind.u64.wrap (n)) * t119)) ≤ (IntKind.u64.wrap (p - base))) = false := decide_eq_false c20
         clear c20
         obtain rfl := Option.some.inj H
         have n0_ := Aside0.mk (blk_drew BK115.out)
         have n1_ := Aside0.mk (blk_drew BK117.out)
         have n2_ := Aside0.mk (below_drew1 HB.out)
         clear BK115
         clear BK117
         clear HB
         have BK115 := n0_
         have BK117 := n1_
         have HB := n2_
         clear n0_ n1_ n2_
         refine start_ (n := 33) (S := fun w' => w'.cell? ⟨w.heap.size, 0, none⟩ = some (.int .u64 base) ∧ w'.cell? ⟨w.heap.size, 1, none⟩ = some (.int .i64 limit) ∧ w'.cell? ⟨w.heap.size, 2, none⟩ = some (.int .i64 order) ∧ w'.cell? ⟨wr.heap.size, 0, none⟩ = some (.int .u64 p) ∧ w'.cell? ⟨wr.heap.size, 1, none⟩ = some (.int .u64 z)) (ds := []) #[F,F,F,F,F,F,F,F,F,F,F,F,F,F,F,F,F,F,F,F,F,F,F,F,F,F,F,F,F,F,F,F,F] (by kernel_rfl) rfl rfl ⟨(blk_cell BK115.out 0).trans rfl, (blk_cell BK115.out 1).trans rfl, (blk_cell BK115.out 2).trans rfl, (blk_cell BK117.out 0).trans rfl, (blk_cell BK117.out 1).trans rfl⟩ (fun hHeld => ?_); refine with_tabW tab5 bits5 (fun HT_ HW_ => ?_)
         generalize wq.drew = w32 at BK115 BK117 HB hHeld ⊢
         refine pure_ (i := 1) (N := some 25) (v := ?_) (a' := ?_) #[F,T,F,F,F,F,F,F,F,F,F,F,F,F,F,F,F,F,F,F,F,F,F,F,F,F,F,F,F,F,F,F,F] rfl rfl (any_of HT_.out (by kernel_rfl)) (fun _ _ _ h => h) (Or.inl ⟨by rfl, ?_⟩) ?_ ?_
         rotate_left
         ·intro w'
          go_simp
          with_reducible rfl
         rotate_left
         ·simp only [Act.put, Sa, Sb, Sc, i64_w, i32_w]
          rfl
         refine take_ (i := 0) (N := some 24) (v := ?_) (a' := ?_) #[T,T,F,F,F,F,F,F,F,F,F,F,F,F,F,F,F,F,F,F,F,F,F,F,F,F,F,F,F,F,F,F,F] rfl rfl (take_ofW HT_.out HW_.out (by kernel_rfl)) (fun _ _ _ h => h) (Or.inl ⟨by rfl, ?_⟩) hHeld ?_ ?_
         rotate_left
         ·rintro w' ⟨s0, s1, s2, s3, s4⟩
          go_simp
          with_reducible rfl
         rotate_left
         ·simp only [Act.put, Sa, Sb, Sc, i64_w, i32_w]
          rfl
         refine take_ (i := 2) (N := some 26) (v := ?_) (a' := ?_) #[T,T,T,F,F,F,F,F,F,F,F,F,F,F,F,F,F,F,F,F,F,F,F,F,F,F,F,F,F,F,F,F,F] rfl rfl (take_ofW HT_.out HW_.out (by kernel_rfl)) (fun _ _ _ h => h) (Or.inl ⟨by rfl, ?_⟩) hHeld ?_ ?_
         rotate_left
         ·rintro w' ⟨s0, s1, s2, s3, s4⟩
          go_simp
          with_reducible rfl
         rotate_left
         ·simp only [Act.put, Sa, Sb, Sc, i64_w, i32_w]
          rfl
         refine one_ (i := 3) (N := some 27) #[T,T,T,T,F,F,F,F,F,F,F,F,F,F,F,F,F,F,F,F,F,F,F,F,F,F,F,F,F,F,F,F,F] rfl rfl (one_of HT_.out (by kernel_rfl)) (by decide) (fun K hK => ?_)
         refine goes_ Try.func46 (by kernel_rfl) rfl #[.agg #[.int .u64 base, .int .i64 limit, .int .i64 order], .int .u64 z] (by rfl) rfl rfl (by (try simp only [List.map_toArray, List.map_cons, List.map_nil]); first | done | rfl | (simp only [List.length_drop, List.length_take]; rfl)) ?_
         with_reducible refine (oracle_size.calls base limit order z true _ A8.out).mono ?_
         rintro e w33 ⟨rfl, hb⟩
         refine ⟨_, rfl, ?_⟩
         have n0_ := Aside0.mk (blk_below (g := w.heap.size) (o := .cells #[.int .u64 base, .int .i64 limit, .int .i64 order] 29 (0, 0)) (by (with_reducible repeat (first | refine blk_drewN ?_ _ | refine blk_drew ?_ | refine blk_alloc ?_ _)); exact BK115.out) hb)
         have n1_ := Aside0.mk (blk_below (g := wr.heap.size) (o := .cells #[.int .u64 p, .int .u64 z] 55 (0, 0)) (by (with_reducible repeat (first | refine blk_drewN ?_ _ | refine blk_drew ?_ | refine blk_alloc ?_ _)); exact BK117.out) hb)
         have n2_ := Aside0.mk (below_step (by repeat (first | (with_reducible first | exact HB.out | apply below_alloc | apply pw_below_drewN | apply below_drew1 | refine below_set ?_ GE115.out | refine below_set ?_ GE117.out) | exact HB.out)) hb)
         clear BK115
         clear BK117
         clear HB
         have BK115 := n0_
         have BK117 := n1_
         have HB := n2_
         clear n0_ n1_ n2_
         (try clear hb)
         (try clear hb2)
         (try clear hk)
         (try clear hi)
         refine hK.out _ _ ⟨(blk_cell BK115.out 0).trans rfl, (blk_cell BK115.out 1).trans rfl, (blk_cell BK115.out 2).trans rfl, (blk_cell BK117.out 0).trans rfl, (blk_cell BK117.out 1).trans rfl⟩ (fun hHeld => ?_)
         clear hK K
         refine norm_ (a' := ?_) ?_ ?_
         rotate_left
         ·show Act.put _ (some 27) _ = _
          simp only [Act.put, Sa, Sb, Sc, i64_w, i32_w]
          rfl
         refine pure_ (i := 4) (N := some 28) (v := ?_) (a' := ?_) #[T,T,T,T,T,F,F,F,F,F,F,F,F,F,F,F,F,F,F,F,F,F,F,F,F,F,F,F,F,F,F,F,F] rfl rfl (any_of HT_.out (by kernel_rfl)) (fun _ _ _ h => h) (Or.inl ⟨by rfl, ?_⟩) ?_ ?_
         rotate_left
         ·intro w'
          go_simp
          with_reducible rfl
         rotate_left
         ·simp only [Act.put, Sa, Sb, Sc, i64_w, i32_w]
          rfl
         refine pure_ (i := 5) (N := some 29) (v := ?_) (a' := ?_) #[T,T,T,T,T,T,F,F,F,F,F,F,F,F,F,F,F,F,F,F,F,F,F,F,F,F,F,F,F,F,F,F,F] rfl rfl (any_of HT_.out (by kernel_rfl)) (fun _ _ _ h => h) (Or.inl ⟨by rfl, ?_⟩) ?_ ?_
         rotate_left
         ·intro w'
          go_simp
          with_reducible rfl
         rotate_left
         ·simp only [Act.put, Sa, Sb, Sc, i64_w, i32_w]
          rfl
         refine pure_ (i := 6) (N := some 30) (v := ?_) (a' := ?_) #[T,T,T,T,T,T,T,F,F,F,F,F,F,F,F,F,F,F,F,F,F,F,F,F,F,F,F,F,F,F,F,F,F] rfl rfl (any_of HT_.out (by kernel_rfl)) (fun _ _ _ h => h) (Or.inl ⟨by rfl, ?_⟩) ?_ ?_
         rotate_left
         ·intro w'
          go_simp
          with_reducible rfl
         rotate_left
         ·simp only [Act.put, Sa, Sb, Sc, i64_w, i32_w]
          rfl
         refine pure_ (i := 8) (N := some 32) (v := ?_) (a' := ?_) #[T,T,T,T,T,T,T,F,T,F,F,F,F,F,F,F,F,F,F,F,F,F,F,F,F,F,F,F,F,F,F,F,F] rfl rfl (any_of HT_.out (by kernel_rfl)) (fun _ _ _ h => h) (Or.inl ⟨by rfl, ?_⟩) ?_ ?_
         rotate_left
         ·intro w'
          go_simp
          with_reducible rfl
         rotate_left
         ·simp only [Act.put, Sa, Sb, Sc, i64_w, i32_w]
          rfl
         refine take_ (i := 7) (N := some 31) (v := ?_) (a' := ?_) #[T,T,T,T,T,T,T,T,T,F,F,F,F,F,F,F,F,F,F,F,F,F,F,F,F,F,F,F,F,F,F,F,F] rfl rfl (take_ofW HT_.out HW_.out (by kernel_rfl)) (fun _ _ _ h => h) (Or.inl ⟨by rfl, ?_⟩) hHeld ?_ ?_
         rotate_left
         ·rintro w' ⟨s0, s1, s2, s3, s4⟩
          go_simp
          with_reducible rfl
         rotate_left
         ·simp only [Act.put, Sa, Sb, Sc, i64_w, i32_w]
          rfl
         refine take_ (i := 9) (N := some 33) (v := ?_) (a' := ?_) #[T,T,T,T,T,T,T,T,T,T,F,F,F,F,F,F,F,F,F,F,F,F,F,F,F,F,F,F,F,F,F,F,F] rfl rfl (take_ofW HT_.out HW_.out (by kernel_rfl)) (fun _ _ _ h => h) (Or.inl ⟨by rfl, ?_⟩) hHeld ?_ ?_
         rotate_left
         ·rintro w' ⟨s0, s1, s2, s3, s4⟩
          go_simp
          with_reducible rfl
         rotate_left
         ·simp only [Act.put, Sa, Sb, Sc, i64_w, i32_w]
          rfl
         refine pure_ (i := 10) (N := some 34) (v := ?_) (a' := ?_) #[T,T,T,T,T,T,T,T,T,T,T,F,F,F,F,F,F,F,F,F,F,F,F,F,F,F,F,F,F,F,F,F,F] rfl rfl (any_of HT_.out (by kernel_rfl)) (fun _ _ _ h => h) (Or.inl ⟨by rfl, ?_⟩) ?_ ?_
         rotate_left
         ·intro w'
          go_simp
          with_reducible rfl
         rotate_left
         ·simp only [Act.put, Sa, Sb, Sc, i64_w, i32_w]
          rfl
         refine pure_ (i := 11) (N := some 35) (v := ?_) (a' := ?_) #[T,T,T,T,T,T,T,T,T,T,T,T,F,F,F,F,F,F,F,F,F,F,F,F,F,F,F,F,F,F,F,F,F] rfl rfl (any_of HT_.out (by kernel_rfl)) (fun _ _ _ h => h) (Or.inl ⟨by rfl, ?_⟩) ?_ ?_
         rotate_left
         ·intro w'
          go_simp
          with_reducible rfl
         rotate_left
         ·simp only [Act.put, Sa, Sb, Sc, i64_w, i32_w]
          rfl
         refine pure_ (i := 12) (N := some 36) (v := ?_) (a' := ?_) #[T,T,T,T,T,T,T,T,T,T,T,T,T,F,F,F,F,F,F,F,F,F,F,F,F,F,F,F,F,F,F,F,F] rfl rfl (any_of HT_.out (by kernel_rfl)) (fun _ _ _ h => h) (Or.inl ⟨by rfl, ?_⟩) ?_ ?_
         rotate_left
         ·intro w'
          go_simp
          with_reducible rfl
         rotate_left
         ·simp only [Act.put, Sa, Sb, Sc, i64_w, i32_w]
          rfl
         refine pure_ (i := 13) (N := some 37) (v := ?_) (a' := ?_) #[T,T,T,T,T,T,T,T,T,T,T,T,T,T,F,F,F,F,F,F,F,F,F,F,F,F,F,F,F,F,F,F,F] rfl rfl (any_of HT_.out (by kernel_rfl)) (fun _ _ _ h => h) (Or.inl ⟨by rfl, ?_⟩) ?_ ?_
         rotate_left
         ·intro w'
          go_simp
          with_reducible rfl
         rotate_left
         ·simp only [Act.put, Sa, Sb, Sc, i64_w, i32_w]
          rfl
         refine pure_ (i := 14) (N := some 38) (v := ?_) (a' := ?_) #[T,T,T,T,T,T,T,T,T,T,T,T,T,T,T,F,F,F,F,F,F,F,F,F,F,F,F,F,F,F,F,F,F] rfl rfl (any_of HT_.out (by kernel_rfl)) (fun _ _ _ h => h) (Or.inl ⟨by rfl, ?_⟩) ?_ ?_
         rotate_left
         ·intro w'
          go_simp
          with_reducible rfl
         rotate_left
         ·simp only [Act.put, Sa, Sb, Sc, i64_w, i32_w]
          rfl
         refine pure_ (i := 16) (N := some 40) (v := ?_) (a' := ?_) #[T,T,T,T,T,T,T,T,T,T,T,T,T,T,T,F,T,F,F,F,F,F,F,F,F,F,F,F,F,F,F,F,F] rfl rfl (any_of HT_.out (by kernel_rfl)) (fun _ _ _ h => h) (Or.inl ⟨by rfl, ?_⟩) ?_ ?_
         rotate_left
         ·intro w'
          go_simp
          with_reducible rfl
         rotate_left
         ·simp only [Act.put, Sa, Sb, Sc, i64_w, i32_w]
          rfl
         refine take_ (i := 15) (N := some 39) (v := ?_) (a' := ?_) #[T,T,T,T,T,T,T,T,T,T,T,T,T,T,T,T,T,F,F,F,F,F,F,F,F,F,F,F,F,F,F,F,F] rfl rfl (take_ofW HT_.out HW_.out (by kernel_rfl)) (fun _ _ _ h => h) (Or.inl ⟨by rfl, ?_⟩) hHeld ?_ ?_
         rotate_left
         ·rintro w' ⟨s0, s1, s2, s3, s4⟩
          go_simp
          with_reducible rfl
         rotate_left
         ·simp only [Act.put, Sa, Sb, Sc, i64_w, i32_w]
          rfl
         refine take_ (i := 17) (N := some 41) (v := ?_) (a' := ?_) #[T,T,T,T,T,T,T,T,T,T,T,T,T,T,T,T,T,T,F,F,F,F,F,F,F,F,F,F,F,F,F,F,F] rfl rfl (take_ofW HT_.out HW_.out (by kernel_rfl)) (fun _ _ _ h => h) (Or.inl ⟨by rfl, ?_⟩) hHeld ?_ ?_
         rotate_left
         ·rintro w' ⟨s0, s1, s2, s3, s4⟩
          go_simp
          with_reducible rfl
         rotate_left
         ·simp only [Act.put, Sa, Sb, Sc, i64_w, i32_w]
          rfl
         refine pure_ (i := 18) (N := some 42) (v := ?_) (a' := ?_) #[T,T,T,T,T,T,T,T,T,T,T,T,T,T,T,T,T,T,T,F,F,F,F,F,F,F,F,F,F,F,F,F,F] rfl rfl (any_of HT_.out (by kernel_rfl)) (fun _ _ _ h => h) (Or.inl ⟨by rfl, ?_⟩) ?_ ?_
         rotate_left
         ·intro w'
          go_simp
          with_reducible rfl
         rotate_left
         ·simp only [Act.put, Sa, Sb, Sc, i64_w, i32_w]
          rfl
         refine pure_ (i := 19) (N := some 43) (v := ?_) (a' := ?_) #[T,T,T,T,T,T,T,T,T,T,T,T,T,T,T,T,T,T,T,T,F,F,F,F,F,F,F,F,F,F,F,F,F] rfl rfl (any_of HT_.out (by kernel_rfl)) (fun _ _ _ h => h) (Or.inl ⟨by rfl, ?_⟩) ?_ ?_
         rotate_left
         ·intro w'
          go_simp
          with_reducible rfl
         rotate_left
         ·simp only [Act.put, Sa, Sb, Sc, i64_w, i32_w]
          rfl
         refine pure_ (i := 20) (N := some 44) (v := ?_) (a' := ?_) #[T,T,T,T,T,T,T,T,T,T,T,T,T,T,T,T,T,T,T,T,T,F,F,F,F,F,F,F,F,F,F,F,F] rfl rfl (any_of HT_.out (by kernel_rfl)) (fun _ _ _ h => h) (Or.inl ⟨by rfl, ?_⟩) ?_ ?_
         rotate_left
         ·intro w'
          go_simp
          with_reducible rfl
         rotate_left
         ·simp only [Act.put, Sa, Sb, Sc, i64_w, i32_w]
          rfl
         refine pure_ (i := 21) (N := some 45) (v := ?_) (a' := ?_) #[T,T,T,T,T,T,T,T,T,T,T,T,T,T,T,T,T,T,T,T,T,T,F,F,F,F,F,F,F,F,F,F,F] rfl rfl (any_of HT_.out (by kernel_rfl)) (fun _ _ _ h => h) (Or.inl ⟨by rfl, ?_⟩) ?_ ?_
         rotate_left
         ·intro w'
          go_simp
          with_reducible rfl
         rotate_left
         ·simp only [Act.put, Sa, Sb, Sc, i64_w, i32_w]
          rfl
         refine pure_ (i := 23) (N := some 47) (v := ?_) (a' := ?_) #[T,T,T,T,T,T,T,T,T,T,T,T,T,T,T,T,T,T,T,T,T,T,F,T,F,F,F,F,F,F,F,F,F] rfl rfl (any_of HT_.out (by kernel_rfl)) (fun _ _ _ h => h) (Or.inl ⟨by rfl, ?_⟩) ?_ ?_
         rotate_left
         ·intro w'
          go_simp
          with_reducible rfl
         rotate_left
         ·simp only [Act.put, Sa, Sb, Sc, i64_w, i32_w]
          rfl
         refine pure_ (i := 26) (N := some 50) (v := ?_) (a' := ?_) #[T,T,T,T,T,T,T,T,T,T,T,T,T,T,T,T,T,T,T,T,T,T,F,T,F,F,T,F,F,F,F,F,F] rfl rfl (any_of HT_.out (by kernel_rfl)) (fun _ _ _ h => h) (Or.inl ⟨by rfl, ?_⟩) ?_ ?_
         rotate_left
         ·intro w'
          go_simp
          with_reducible rfl
         rotate_left
         ·simp only [Act.put, Sa, Sb, Sc, i64_w, i32_w]
          rfl
         refine pure_ (i := 27) (N := some 51) (v := ?_) (a' := ?_) #[T,T,T,T,T,T,T,T,T,T,T,T,T,T,T,T,T,T,T,T,T,T,F,T,F,F,T,T,F,F,F,F,F] rfl rfl (any_of HT_.out (by kernel_rfl)) (fun _ _ _ h => h) (Or.inl ⟨by rfl, ?_⟩) ?_ ?_
         rotate_left
         ·intro w'
          go_simp
          with_reducible rfl
         rotate_left
         ·simp only [Act.put, Sa, Sb, Sc, i64_w, i32_w]
          rfl
         refine take_ (i := 22) (N := some 46) (v := ?_) (a' := ?_) #[T,T,T,T,T,T,T,T,T,T,T,T,T,T,T,T,T,T,T,T,T,T,T,T,F,F,T,T,F,F,F,F,F] rfl rfl (take_ofW HT_.out HW_.out (by kernel_rfl)) (fun _ _ _ h => h) (Or.inl ⟨by rfl, ?_⟩) hHeld ?_ ?_
         rotate_left
         ·rintro w' ⟨s0, s1, s2, s3, s4⟩
          go_simp
          with_reducible rfl
         rotate_left
         ·simp only [Act.put, Sa, Sb, Sc, i64_w, i32_w]
          rfl
         refine take_ (i := 24) (N := some 48) (v := ?_) (a' := ?_) #[T,T,T,T,T,T,T,T,T,T,T,T,T,T,T,T,T,T,T,T,T,T,T,T,T,F,T,T,F,F,F,F,F] rfl rfl (take_ofW HT_.out HW_.out (by kernel_rfl)) (fun _ _ _ h => h) (Or.inl ⟨by rfl, ?_⟩) hHeld ?_ ?_
         rotate_left
         ·rintro w' ⟨s0, s1, s2, s3, s4⟩
          go_simp
          with_reducible rfl
         rotate_left
         ·simp only [Act.put, Sa, Sb, Sc, i64_w, i32_w]
          rfl
         refine pure_ (i := 25) (N := some 49) (v := ?_) (a' := ?_) #[T,T,T,T,T,T,T,T,T,T,T,T,T,T,T,T,T,T,T,T,T,T,T,T,T,T,T,T,F,F,F,F,F] rfl rfl (any_of HT_.out (by kernel_rfl)) (fun _ _ _ h => h) (Or.inl ⟨by rfl, ?_⟩) ?_ ?_
         rotate_left
         ·intro w'
          go_simp
          with_reducible rfl
         rotate_left
         ·simp only [Act.put, Sa, Sb, Sc, i64_w, i32_w]
          rfl
         refine take_ (i := 28) (N := some 52) (v := ?_) (a' := ?_) #[T,T,T,T,T,T,T,T,T,T,T,T,T,T,T,T,T,T,T,T,T,T,T,T,T,T,T,T,T,F,F,F,F] rfl rfl (take_ofW HT_.out HW_.out (by kernel_rfl)) (fun _ _ _ h => h) (Or.inl ⟨by rfl, ?_⟩) hHeld ?_ ?_
         rotate_left
         ·rintro w' ⟨s0, s1, s2, s3, s4⟩
          go_simp
          with_reducible rfl
         rotate_left
         ·simp only [Act.put, Sa, Sb, Sc, i64_w, i32_w]
          rfl
         refine one_ (i := 29) (N := some 53) #[T,T,T,T,T,T,T,T,T,T,T,T,T,T,T,T,T,T,T,T,T,T,T,T,T,T,T,T,T,T,F,F,F] rfl rfl (one_of HT_.out (by kernel_rfl)) (by decide) (fun K hK => ?_)
         refine goes_ Try.func51 (by kernel_rfl) rfl #[.agg #[.int .u64 base, .int .i64 limit, .int .i64 order]] (by rfl) rfl rfl (by (try simp only [List.map_toArray, List.map_cons, List.map_nil]); first | done | rfl | (simp only [List.length_drop, List.length_take]; rfl)) ?_
         with_reducible refine (oracle_region.calls base limit order t119 _ A19.out).mono ?_
         rintro e w34 ⟨rfl, hb⟩
         refine ⟨_, rfl, ?_⟩
         have n0_ := Aside0.mk (blk_below (g := w.heap.size) (o := .cells #[.int .u64 base, .int .i64 limit, .int .i64 order] 29 (0, 0)) (by (with_reducible repeat (first | refine blk_drewN ?_ _ | refine blk_drew ?_ | refine blk_alloc ?_ _)); exact BK115.out) hb)
         have n1_ := Aside0.mk (blk_below (g := wr.heap.size) (o := .cells #[.int .u64 p, .int .u64 z] 55 (0, 0)) (by (with_reducible repeat (first | refine blk_drewN ?_ _ | refine blk_drew ?_ | refine blk_alloc ?_ _)); exact BK117.out) hb)
         have n2_ := Aside0.mk (below_step (by repeat (first | (with_reducible first | exact HB.out | apply below_alloc | apply pw_below_drewN | apply below_drew1 | refine below_set ?_ GE115.out | refine below_set ?_ GE117.out) | exact HB.out)) hb)
         clear BK115
         clear BK117
         clear HB
         have BK115 := n0_
         have BK117 := n1_
         have HB := n2_
         clear n0_ n1_ n2_
         (try clear hb)
         (try clear hb2)
         (try clear hk)
         (try clear hi)
         refine hK.out _ _ ⟨(blk_cell BK115.out 0).trans rfl, (blk_cell BK115.out 1).trans rfl, (blk_cell BK115.out 2).trans rfl, (blk_cell BK117.out 0).trans rfl, (blk_cell BK117.out 1).trans rfl⟩ (fun hHeld => ?_)
         clear hK K
         refine norm_ (a' := ?_) ?_ ?_
         rotate_left
         ·show Act.put _ (some 53) _ = _
          simp only [Act.put, Sa, Sb, Sc, i64_w, i32_w]
          rfl
         refine pure_ (i := 30) (N := some 54) (v := ?_) (a' := ?_) #[T,T,T,T,T,T,T,T,T,T,T,T,T,T,T,T,T,T,T,T,T,T,T,T,T,T,T,T,T,T,T,F,F] rfl rfl (any_of HT_.out (by kernel_rfl)) (fun _ _ _ h => h) (Or.inl ⟨by rfl, ?_⟩) ?_ ?_
         rotate_left
         ·intro w'
          go_simp
          with_reducible rfl
         rotate_left
         ·simp only [Act.put, Sa, Sb, Sc, i64_w, i32_w]
          rfl
         refine pure_ (i := 31) (N := some 55) (v := ?_) (a' := ?_) #[T,T,T,T,T,T,T,T,T,T,T,T,T,T,T,T,T,T,T,T,T,T,T,T,T,T,T,T,T,T,T,T,F] rfl rfl (any_of HT_.out (by kernel_rfl)) (fun _ _ _ h => h) (Or.inl ⟨by rfl, ?_⟩) ?_ ?_
         rotate_left
         ·intro w'
          go_simp
          with_reducible rfl
         rotate_left
         ·simp only [Act.put, Sa, Sb, Sc, i64_w, i32_w]
          rfl
         refine pure_ (i := 32) (N := some 56) (v := ?_) (a' := ?_) #[T,T,T,T,T,T,T,T,T,T,T,T,T,T,T,T,T,T,T,T,T,T,T,T,T,T,T,T,T,T,T,T,T] rfl rfl (any_of HT_.out (by kernel_rfl)) (fun _ _ _ h => h) (Or.inl ⟨by rfl, ?_⟩) ?_ ?_
         rotate_left
         ·intro w'
          go_simp
          with_reducible rfl
         rotate_left
         ·simp only [Act.put, Sa, Sb, Sc, i64_w, i32_w]
          rfl
         refine done_ (done_of HT_.out (by kernel_rfl)) ?_
         go_wp2_with fail
         go_meet
         first
          | exact ⟨true, rfl, ⟨HRES.out.2 (by omega)⟩, ⟨BK117.out⟩, ⟨HWR.out.trans (HB.out.mono HWR.out.size)⟩⟩
          | exact ⟨false, rfl, ⟨by first | exact HRES.out.1 rfl | exact HRES.out.1 trivial⟩, ⟨BK117.out⟩, ⟨HWR.out.trans (HB.out.mono HWR.out.size)⟩⟩
      ·rw [if_neg c11] at H
       have c11b0 : ((Int.tmod p z) == 0) = false := beq_eq_false_iff_ne.mpr c11
       have c11b1 : ((Int.tmod p z) != 0) = true := bne_iff_ne.mpr c11
       obtain rfl := Option.some.inj H
       have n0_ := Aside0.mk (blk_drew BK115.out)
       have n1_ := Aside0.mk (blk_drew BK117.out)
       have n2_ := Aside0.mk (below_drew1 HB.out)
       clear BK115
       clear BK117
       clear HB
       have BK115 := n0_
       have BK117 := n1_
       have HB := n2_
       clear n0_ n1_ n2_
       refine start_ (n := 33) (S := fun w' => w'.cell? ⟨w.heap.size, 0, none⟩ = some (.int .u64 base) ∧ w'.cell? ⟨w.heap.size, 1, none⟩ = some (.int .i64 limit) ∧ w'.cell? ⟨w.heap.size, 2, none⟩ = some (.int .i64 order) ∧ w'.cell? ⟨wr.heap.size, 0, none⟩ = some (.int .u64 p) ∧ w'.cell? ⟨wr.heap.size, 1, none⟩ = some (.int .u64 z)) (ds := []) #[F,F,F,F,F,F,F,F,F,F,F,F,F,F,F,F,F,F,F,F,F,F,F,F,F,F,F,F,F,F,F,F,F] (by kernel_rfl) rfl rfl ⟨(blk_cell BK115.out 0).trans rfl, (blk_cell BK115.out 1).trans rfl, (blk_cell BK115.out 2).trans rfl, (blk_cell BK117.out 0).trans rfl, (blk_cell BK117.out 1).trans rfl⟩ (fun hHeld => ?_); refine with_tabW tab5 bits5 (fun HT_ HW_ => ?_)
       generalize wq.drew = w39 at BK115 BK117 HB hHeld ⊢
       refine pure_ (i := 1) (N := some 25) (v := ?_) (a' := ?_) #[F,T,F,F,F,F,F,F,F,F,F,F,F,F,F,F,F,F,F,F,F,F,F,F,F,F,F,F,F,F,F,F,F] rfl rfl (any_of HT_.out (by kernel_rfl)) (fun _ _ _ h => h) (Or.inl ⟨by rfl, ?_⟩) ?_ ?_
       rotate_left
       ·intro w'
        go_simp
        with_reducible rfl
       rotate_left
       ·simp only [Act.put, Sa, Sb, Sc, i64_w, i32_w]
        rfl
       refine take_ (i := 0) (N := some 24) (v := ?_) (a' := ?_) #[T,T,F,F,F,F,F,F,F,F,F,F,F,F,F,F,F,F,F,F,F,F,F,F,F,F,F,F,F,F,F,F,F] rfl rfl (take_ofW HT_.out HW_.out (by kernel_rfl)) (fun _ _ _ h => h) (Or.inl ⟨by rfl, ?_⟩) hHeld ?_ ?_
       rotate_left
       ·rintro w' ⟨s0, s1, s2, s3, s4⟩
        go_simp
        with_reducible rfl
       rotate_left
       ·simp only [Act.put, Sa, Sb, Sc, i64_w, i32_w]
        rfl
       refine take_ (i := 2) (N := some 26) (v := ?_) (a' := ?_) #[T,T,T,F,F,F,F,F,F,F,F,F,F,F,F,F,F,F,F,F,F,F,F,F,F,F,F,F,F,F,F,F,F] rfl rfl (take_ofW HT_.out HW_.out (by kernel_rfl)) (fun _ _ _ h => h) (Or.inl ⟨by rfl, ?_⟩) hHeld ?_ ?_
       rotate_left
       ·rintro w' ⟨s0, s1, s2, s3, s4⟩
        go_simp
        with_reducible rfl
       rotate_left
       ·simp only [Act.put, Sa, Sb, Sc, i64_w, i32_w]
        rfl
       refine one_ (i := 3) (N := some 27) #[T,T,T,T,F,F,F,F,F,F,F,F,F,F,F,F,F,F,F,F,F,F,F,F,F,F,F,F,F,F,F,F,F] rfl rfl (one_of HT_.out (by kernel_rfl)) (by decide) (fun K hK => ?_)
       refine goes_ Try.func46 (by kernel_rfl) rfl #[.agg #[.int .u64 base, .int .i64 limit, .int .i64 order], .int .u64 z] (by rfl) rfl rfl (by (try simp only [List.map_toArray, List.map_cons, List.map_nil]); first | done | rfl | (simp only [List.length_drop, List.length_take]; rfl)) ?_
       with_reducible refine (oracle_size.calls base limit order z true _ A8.out).mono ?_
       rintro e w40 ⟨rfl, hb⟩
       refine ⟨_, rfl, ?_⟩
       have n0_ := Aside0.mk (blk_below (g := w.heap.size) (o := .cells #[.int .u64 base, .int .i64 limit, .int .i64 order] 29 (0, 0)) (by (with_reducible repeat (first | refine blk_drewN ?_ _ | refine blk_drew ?_ | refine blk_alloc ?_ _)); exact BK115.out) hb)
       have n1_ := Aside0.mk (blk_below (g := wr.heap.size) (o := .cells #[.int .u64 p, .int .u64 z] 55 (0, 0)) (by (with_reducible repeat (first | refine blk_drewN ?_ _ | refine blk_drew ?_ | refine blk_alloc ?_ _)); exact BK117.out) hb)
       have n2_ := Aside0.mk (below_step (by repeat (first | (with_reducible first | exact HB.out | apply below_alloc | apply pw_below_drewN | apply below_drew1 | refine below_set ?_ GE115.out | refine below_set ?_ GE117.out) | exact HB.out)) hb)
       clear BK115
       clear BK117
       clear HB
       have BK115 := n0_
       have BK117 := n1_
       have HB := n2_
       clear n0_ n1_ n2_
       (try clear hb)
       (try clear hb2)
       (try clear hk)
       (try clear hi)
       refine hK.out _ _ ⟨(blk_cell BK115.out 0).trans rfl, (blk_cell BK115.out 1).trans rfl, (blk_cell BK115.out 2).trans rfl, (blk_cell BK117.out 0).trans rfl, (blk_cell BK117.out 1).trans rfl⟩ (fun hHeld => ?_)
       clear hK K
       refine norm_ (a' := ?_) ?_ ?_
       rotate_left
       ·show Act.put _ (some 27) _ = _
        simp only [Act.put, Sa, Sb, Sc, i64_w, i32_w]
        rfl
       refine pure_ (i := 4) (N := some 28) (v := ?_) (a' := ?_) #[T,T,T,T,T,F,F,F,F,F,F,F,F,F,F,F,F,F,F,F,F,F,F,F,F,F,F,F,F,F,F,F,F] rfl rfl (any_of HT_.out (by kernel_rfl)) (fun _ _ _ h => h) (Or.inl ⟨by rfl, ?_⟩) ?_ ?_
       rotate_left
       ·intro w'
        go_simp
        with_reducible rfl
       rotate_left
       ·simp only [Act.put, Sa, Sb, Sc, i64_w, i32_w]
        rfl
       refine pure_ (i := 5) (N := some 29) (v := ?_) (a' := ?_) #[T,T,T,T,T,T,F,F,F,F,F,F,F,F,F,F,F,F,F,F,F,F,F,F,F,F,F,F,F,F,F,F,F] rfl rfl (any_of HT_.out (by kernel_rfl)) (fun _ _ _ h => h) (Or.inl ⟨by rfl, ?_⟩) ?_ ?_
       rotate_left
       ·intro w'
        go_simp
        with_reducible rfl
       rotate_left
       ·simp only [Act.put, Sa, Sb, Sc, i64_w, i32_w]
        rfl
       refine pure_ (i := 6) (N := some 30) (v := ?_) (a' := ?_) #[T,T,T,T,T,T,T,F,F,F,F,F,F,F,F,F,F,F,F,F,F,F,F,F,F,F,F,F,F,F,F,F,F] rfl rfl (any_of HT_.out (by kernel_rfl)) (fun _ _ _ h => h) (Or.inl ⟨by rfl, ?_⟩) ?_ ?_
       rotate_left
       ·intro w'
        go_simp
        with_reducible rfl
       rotate_left
       ·simp only [Act.put, Sa, Sb, Sc, i64_w, i32_w]
        rfl
       refine pure_ (i := 8) (N := some 32) (v := ?_) (a' := ?_) #[T,T,T,T,T,T,T,F,T,F,F,F,F,F,F,F,F,F,F,F,F,F,F,F,F,F,F,F,F,F,F,F,F] rfl rfl (any_of HT_.out (by kernel_rfl)) (fun _ _ _ h => h) (Or.inl ⟨by rfl, ?_⟩) ?_ ?_
       rotate_left
       ·intro w'
        go_simp
        with_reducible rfl
       rotate_left
       ·simp only [Act.put, Sa, Sb, Sc, i64_w, i32_w]
        rfl
       refine take_ (i := 7) (N := some 31) (v := ?_) (a' := ?_) #[T,T,T,T,T,T,T,T,T,F,F,F,F,F,F,F,F,F,F,F,F,F,F,F,F,F,F,F,F,F,F,F,F] rfl rfl (take_ofW HT_.out HW_.out (by kernel_rfl)) (fun _ _ _ h => h) (Or.inl ⟨by rfl, ?_⟩) hHeld ?_ ?_
       rotate_left
       ·rintro w' ⟨s0, s1, s2, s3, s4⟩
        go_simp
        with_reducible rfl
       rotate_left
       ·simp only [Act.put, Sa, Sb, Sc, i64_w, i32_w]
        rfl
       refine take_ (i := 9) (N := some 33) (v := ?_) (a' := ?_) #[T,T,T,T,T,T,T,T,T,T,F,F,F,F,F,F,F,F,F,F,F,F,F,F,F,F,F,F,F,F,F,F,F] rfl rfl (take_ofW HT_.out HW_.out (by kernel_rfl)) (fun _ _ _ h => h) (Or.inl ⟨by rfl, ?_⟩) hHeld ?_ ?_
       rotate_left
       ·rintro w' ⟨s0, s1, s2, s3, s4⟩
        go_simp
        with_reducible rfl
       rotate_left
       ·simp only [Act.put, Sa, Sb, Sc, i64_w, i32_w]
        rfl
       refine pure_ (i := 10) (N := some 34) (v := ?_) (a' := ?_) #[T,T,T,T,T,T,T,T,T,T,T,F,F,F,F,F,F,F,F,F,F,F,F,F,F,F,F,F,F,F,F,F,F] rfl rfl (any_of HT_.out (by kernel_rfl)) (fun _ _ _ h => h) (Or.inl ⟨by rfl, ?_⟩) ?_ ?_
       rotate_left
       ·intro w'
        go_simp
        with_reducible rfl
       rotate_left
       ·simp only [Act.put, Sa, Sb, Sc, i64_w, i32_w]
        rfl
       refine pure_ (i := 11) (N := some 35) (v := ?_) (a' := ?_) #[T,T,T,T,T,T,T,T,T,T,T,T,F,F,F,F,F,F,F,F,F,F,F,F,F,F,F,F,F,F,F,F,F] rfl rfl (any_of HT_.out (by kernel_rfl)) (fun _ _ _ h => h) (Or.inl ⟨by rfl, ?_⟩) ?_ ?_
       rotate_left
       ·intro w'
        go_simp
        with_reducible rfl
       rotate_left
       ·simp only [Act.put, Sa, Sb, Sc, i64_w, i32_w]
        rfl
       refine pure_ (i := 12) (N := some 36) (v := ?_) (a' := ?_) #[T,T,T,T,T,T,T,T,T,T,T,T,T,F,F,F,F,F,F,F,F,F,F,F,F,F,F,F,F,F,F,F,F] rfl rfl (any_of HT_.out (by kernel_rfl)) (fun _ _ _ h => h) (Or.inl ⟨by rfl, ?_⟩) ?_ ?_
       rotate_left
       ·intro w'
        go_simp
        with_reducible rfl
       rotate_left
       ·simp only [Act.put, Sa, Sb, Sc, i64_w, i32_w]
        rfl
       refine pure_ (i := 13) (N := some 37) (v := ?_) (a' := ?_) #[T,T,T,T,T,T,T,T,T,T,T,T,T,T,F,F,F,F,F,F,F,F,F,F,F,F,F,F,F,F,F,F,F] rfl rfl (any_of HT_.out (by kernel_rfl)) (fun _ _ _ h => h) (Or.inl ⟨by rfl, ?_⟩) ?_ ?_
       rotate_left
       ·intro w'
        go_simp
        with_reducible rfl
       rotate_left
       ·simp only [Act.put, Sa, Sb, Sc, i64_w, i32_w]
        rfl
       refine pure_ (i := 14) (N := some 38) (v := undef) (a' := ?_) #[T,T,T,T,T,T,T,T,T,T,T,T,T,T,T,F,F,F,F,F,F,F,F,F,F,F,F,F,F,F,F,F,F] rfl rfl (any_of HT_.out (by kernel_rfl)) (fun _ _ _ h => h) (Or.inr ⟨by rfl, rfl⟩) ?_ ?_
       rotate_left
       ·simp only [Act.put, Sa, Sb, Sc, i64_w, i32_w]
        rfl
       refine pure_ (i := 15) (N := some 39) (v := undef) (a' := ?_) #[T,T,T,T,T,T,T,T,T,T,T,T,T,T,T,T,F,F,F,F,F,F,F,F,F,F,F,F,F,F,F,F,F] rfl rfl (any_of HT_.out (by kernel_rfl)) (fun _ _ _ h => h) (Or.inr ⟨by rfl, rfl⟩) ?_ ?_
       rotate_left
       ·simp only [Act.put, Sa, Sb, Sc, i64_w, i32_w]
        rfl
       refine pure_ (i := 16) (N := some 40) (v := undef) (a' := ?_) #[T,T,T,T,T,T,T,T,T,T,T,T,T,T,T,T,T,F,F,F,F,F,F,F,F,F,F,F,F,F,F,F,F] rfl rfl (any_of HT_.out (by kernel_rfl)) (fun _ _ _ h => h) (Or.inr ⟨by rfl, rfl⟩) ?_ ?_
       rotate_left
       ·simp only [Act.put, Sa, Sb, Sc, i64_w, i32_w]
        rfl
       refine pure_ (i := 17) (N := some 41) (v := undef) (a' := ?_) #[T,T,T,T,T,T,T,T,T,T,T,T,T,T,T,T,T,T,F,F,F,F,F,F,F,F,F,F,F,F,F,F,F] rfl rfl (any_of HT_.out (by kernel_rfl)) (fun _ _ _ h => h) (Or.inr ⟨by rfl, rfl⟩) ?_ ?_
       rotate_left
       ·simp only [Act.put, Sa, Sb, Sc, i64_w, i32_w]
        rfl
       refine pure_ (i := 18) (N := some 42) (v := undef) (a' := ?_) #[T,T,T,T,T,T,T,T,T,T,T,T,T,T,T,T,T,T,T,F,F,F,F,F,F,F,F,F,F,F,F,F,F] rfl rfl (any_of HT_.out (by kernel_rfl)) (fun _ _ _ h => h) (Or.inr ⟨by rfl, rfl⟩) ?_ ?_
       rotate_left
       ·simp only [Act.put, Sa, Sb, Sc, i64_w, i32_w]
        rfl
       refine pure_ (i := 19) (N := some 43) (v := ?_) (a' := ?_) #[T,T,T,T,T,T,T,T,T,T,T,T,T,T,T,T,T,T,T,T,F,F,F,F,F,F,F,F,F,F,F,F,F] rfl rfl (any_of HT_.out (by kernel_rfl)) (fun _ _ _ h => h) (Or.inl ⟨by rfl, ?_⟩) ?_ ?_
       rotate_left
       ·intro w'
        go_simp
        with_reducible rfl
       rotate_left
       ·simp only [Act.put, Sa, Sb, Sc, i64_w, i32_w]
        rfl
       refine pure_ (i := 20) (N := some 44) (v := ?_) (a' := ?_) #[T,T,T,T,T,T,T,T,T,T,T,T,T,T,T,T,T,T,T,T,T,F,F,F,F,F,F,F,F,F,F,F,F] rfl rfl (any_of HT_.out (by kernel_rfl)) (fun _ _ _ h => h) (Or.inl ⟨by rfl, ?_⟩) ?_ ?_
       rotate_left
       ·intro w'
        go_simp
        with_reducible rfl
       rotate_left
       ·simp only [Act.put, Sa, Sb, Sc, i64_w, i32_w]
        rfl
       refine pure_ (i := 21) (N := some 45) (v := undef) (a' := ?_) #[T,T,T,T,T,T,T,T,T,T,T,T,T,T,T,T,T,T,T,T,T,T,F,F,F,F,F,F,F,F,F,F,F] rfl rfl (any_of HT_.out (by kernel_rfl)) (fun _ _ _ h => h) (Or.inr ⟨by rfl, rfl⟩) ?_ ?_
       rotate_left
       ·simp only [Act.put, Sa, Sb, Sc, i64_w, i32_w]
        rfl
       refine pure_ (i := 22) (N := some 46) (v := undef) (a' := ?_) #[T,T,T,T,T,T,T,T,T,T,T,T,T,T,T,T,T,T,T,T,T,T,T,F,F,F,F,F,F,F,F,F,F] rfl rfl (any_of HT_.out (by kernel_rfl)) (fun _ _ _ h => h) (Or.inr ⟨by rfl, rfl⟩) ?_ ?_
       rotate_left
       ·simp only [Act.put, Sa, Sb, Sc, i64_w, i32_w]
        rfl
       refine pure_ (i := 23) (N := some 47) (v := undef) (a' := ?_) #[T,T,T,T,T,T,T,T,T,T,T,T,T,T,T,T,T,T,T,T,T,T,T,T,F,F,F,F,F,F,F,F,F] rfl rfl (any_of HT_.out (by kernel_rfl)) (fun _ _ _ h => h) (Or.inr ⟨by rfl, rfl⟩) ?_ ?_
       rotate_left
       ·simp only [Act.put, Sa, Sb, Sc, i64_w, i32_w]
        rfl
       refine pure_ (i := 24) (N := some 48) (v := undef) (a' := ?_) #[T,T,T,T,T,T,T,T,T,T,T,T,T,T,T,T,T,T,T,T,T,T,T,T,T,F,F,F,F,F,F,F,F] rfl rfl (any_of HT_.out (by kernel_rfl)) (fun _ _ _ h => h) (Or.inr ⟨by rfl, rfl⟩) ?_ ?_
       rotate_left
       ·simp only [Act.put, Sa, Sb, Sc, i64_w, i32_w]
        rfl
       refine pure_ (i := 25) (N := some 49) (v := undef) (a' := ?_) #[T,T,T,T,T,T,T,T,T,T,T,T,T,T,T,T,T,T,T,T,T,T,T,T,T,T,F,F,F,F,F,F,F] rfl rfl (any_of HT_.out (by kernel_rfl)) (fun _ _ _ h => h) (Or.inr ⟨by rfl, rfl⟩) ?_ ?_
       rotate_left
       ·simp only [Act.put, Sa, Sb, Sc, i64_w, i32_w]
        rfl
       refine pure_ (i := 26) (N := some 50) (v := undef) (a' := ?_) #[T,T,T,T,T,T,T,T,T,T,T,T,T,T,T,T,T,T,T,T,T,T,T,T,T,T,T,F,F,F,F,F,F] rfl rfl (any_of HT_.out (by kernel_rfl)) (fun _ _ _ h => h) (Or.inr ⟨by rfl, rfl⟩) ?_ ?_
       rotate_left
       ·simp only [Act.put, Sa, Sb, Sc, i64_w, i32_w]
        rfl
       refine pure_ (i := 27) (N := some 51) (v := undef) (a' := ?_) #[T,T,T,T,T,T,T,T,T,T,T,T,T,T,T,T,T,T,T,T,T,T,T,T,T,T,T,T,F,F,F,F,F] rfl rfl (any_of HT_.out (by kernel_rfl)) (fun _ _ _ h => h) (Or.inr ⟨by rfl, rfl⟩) ?_ ?_
       rotate_left
       ·simp only [Act.put, Sa, Sb, Sc, i64_w, i32_w]
        rfl
       refine pure_ (i := 28) (N := some 52) (v := undef) (a' := ?_) #[T,T,T,T,T,T,T,T,T,T,T,T,T,T,T,T,T,T,T,T,T,T,T,T,T,T,T,T,T,F,F,F,F] rfl rfl (any_of HT_.out (by kernel_rfl)) (fun _ _ _ h => h) (Or.inr ⟨by rfl, rfl⟩) ?_ ?_
       rotate_left
       ·simp only [Act.put, Sa, Sb, Sc, i64_w, i32_w]
        rfl
       refine pure_ (i := 29) (N := some 53) (v := undef) (a' := ?_) #[T,T,T,T,T,T,T,T,T,T,T,T,T,T,T,T,T,T,T,T,T,T,T,T,T,T,T,T,T,T,F,F,F] rfl rfl (any_of HT_.out (by kernel_rfl)) (fun _ _ _ h => h) (Or.inr ⟨by rfl, rfl⟩) ?_ ?_
       rotate_left
       ·simp only [Act.put, Sa, Sb, Sc, i64_w, i32_w]
        rfl
       refine pure_ (i := 30) (N := some 54) (v := undef) (a' := ?_) #[T,T,T,T,T,T,T,T,T,T,T,T,T,T,T,T,T,T,T,T,T,T,T,T,T,T,T,T,T,T,T,F,F] rfl rfl (any_of HT_.out (by kernel_rfl)) (fun _ _ _ h => h) (Or.inr ⟨by rfl, rfl⟩) ?_ ?_
       rotate_left
       ·simp only [Act.put, Sa, Sb, Sc, i64_w, i32_w]
        rfl
       refine pure_ (i := 31) (N := some 55) (v := undef) (a' := ?_) #[T,T,T,T,T,T,T,T,T,T,T,T,T,T,T,T,T,T,T,T,T,T,T,T,T,T,T,T,T,T,T,T,F] rfl rfl (any_of HT_.out (by kernel_rfl)) (fun _ _ _ h => h) (Or.inr ⟨by rfl, rfl⟩) ?_ ?_
       rotate_left
       ·simp only [Act.put, Sa, Sb, Sc, i64_w, i32_w]
        rfl
       refine pure_ (i := 32) (N := some 56) (v := ?_) (a' := ?_) #[T,T,T,T,T,T,T,T,T,T,T,T,T,T,T,T,T,T,T,T,T,T,T,T,T,T,T,T,T,T,T,T,T] rfl rfl (any_of HT_.out (by kernel_rfl)) (fun _ _ _ h => h) (Or.inl ⟨by rfl, ?_⟩) ?_ ?_
       rotate_left
       ·intro w'
        go_simp
        with_reducible rfl
       rotate_left
       ·simp only [Act.put, Sa, Sb, Sc, i64_w, i32_w]
        rfl
       refine done_ (done_of HT_.out (by kernel_rfl)) ?_
       go_wp2_with fail
       go_meet
       first
        | exact ⟨true, rfl, ⟨HRES.out.2 (by omega)⟩, ⟨BK117.out⟩, ⟨HWR.out.trans (HB.out.mono HWR.out.size)⟩⟩
        | exact ⟨false, rfl, ⟨by first | exact HRES.out.1 rfl | exact HRES.out.1 trivial⟩, ⟨BK117.out⟩, ⟨HWR.out.trans (HB.out.mono HWR.out.size)⟩⟩
    ·replace c9 := Bool.eq_false_iff.mpr c9
     subst c9
     have H1 : (some (i : Int)) = some r := by rw [if_neg (show ¬ (false = true) by decide)] at H; exact H
     clear H
     have H := H1
     clear H1
     obtain rfl := Option.some.inj H
     have n0_ := Aside0.mk (blk_drew BK115.out)
     have n1_ := Aside0.mk (blk_drew BK117.out)
     have n2_ := Aside0.mk (below_drew1 HB.out)
     clear BK115
     clear BK117
     clear HB
     have BK115 := n0_
     have BK117 := n1_
     have HB := n2_
     clear n0_ n1_ n2_
     refine start_ (n := 33) (S := fun w' => w'.cell? ⟨w.heap.size, 0, none⟩ = some (.int .u64 base) ∧ w'.cell? ⟨w.heap.size, 1, none⟩ = some (.int .i64 limit) ∧ w'.cell? ⟨w.heap.size, 2, none⟩ = some (.int .i64 order) ∧ w'.cell? ⟨wr.heap.size, 0, none⟩ = some (.int .u64 p) ∧ w'.cell? ⟨wr.heap.size, 1, none⟩ = some (.int .u64 z)) (ds := []) #[F,F,F,F,F,F,F,F,F,F,F,F,F,F,F,F,F,F,F,F,F,F,F,F,F,F,F,F,F,F,F,F,F] (by kernel_rfl) rfl rfl ⟨(blk_cell BK115.out 0).trans rfl, (blk_cell BK115.out 1).trans rfl, (blk_cell BK115.out 2).trans rfl, (blk_cell BK117.out 0).trans rfl, (blk_cell BK117.out 1).trans rfl⟩ (fun hHeld => ?_); refine with_tabW tab5 bits5 (fun HT_ HW_ => ?_)
     generalize wq.drew = w45 at BK115 BK117 HB hHeld ⊢
     refine pure_ (i := 1) (N := some 25) (v := ?_) (a' := ?_) #[F,T,F,F,F,F,F,F,F,F,F,F,F,F,F,F,F,F,F,F,F,F,F,F,F,F,F,F,F,F,F,F,F] rfl rfl (any_of HT_.out (by kernel_rfl)) (fun _ _ _ h => h) (Or.inl ⟨by rfl, ?_⟩) ?_ ?_
     rotate_left
     ·intro w'
      go_simp
      with_reducible rfl
     rotate_left
     ·simp only [Act.put, Sa, Sb, Sc, i64_w, i32_w]
      rfl
     refine take_ (i := 0) (N := some 24) (v := ?_) (a' := ?_) #[T,T,F,F,F,F,F,F,F,F,F,F,F,F,F,F,F,F,F,F,F,F,F,F,F,F,F,F,F,F,F,F,F] rfl rfl (take_ofW HT_.out HW_.out (by kernel_rfl)) (fun _ _ _ h => h) (Or.inl ⟨by rfl, ?_⟩) hHeld ?_ ?_
     rotate_left
     ·rintro w' ⟨s0, s1, s2, s3, s4⟩
      go_simp
      with_reducible rfl
     rotate_left
     ·simp only [Act.put, Sa, Sb, Sc, i64_w, i32_w]
      rfl
     refine take_ (i := 2) (N := some 26) (v := ?_) (a' := ?_) #[T,T,T,F,F,F,F,F,F,F,F,F,F,F,F,F,F,F,F,F,F,F,F,F,F,F,F,F,F,F,F,F,F] rfl rfl (take_ofW HT_.out HW_.out (by kernel_rfl)) (fun _ _ _ h => h) (Or.inl ⟨by rfl, ?_⟩) hHeld ?_ ?_
     rotate_left
     ·rintro w' ⟨s0, s1, s2, s3, s4⟩
      go_simp
      with_reducible rfl
     rotate_left
     ·simp only [Act.put, Sa, Sb, Sc, i64_w, i32_w]
      rfl
     refine one_ (i := 3) (N := some 27) #[T,T,T,T,F,F,F,F,F,F,F,F,F,F,F,F,F,F,F,F,F,F,F,F,F,F,F,F,F,F,F,F,F] rfl rfl (one_of HT_.out (by kernel_rfl)) (by decide) (fun K hK => ?_)
     refine goes_ Try.func46 (by kernel_rfl) rfl #[.agg #[.int .u64 base, .int .i64 limit, .int .i64 order], .int .u64 z] (by rfl) rfl rfl (by (try simp only [List.map_toArray, List.map_cons, List.map_nil]); first | done | rfl | (simp only [List.length_drop, List.length_take]; rfl)) ?_
     with_reducible refine (oracle_size.calls base limit order z false _ A8.out).mono ?_
     rintro e w46 ⟨rfl, hb⟩
     refine ⟨_, rfl, ?_⟩
     have n0_ := Aside0.mk (blk_below (g := w.heap.size) (o := .cells #[.int .u64 base, .int .i64 limit, .int .i64 order] 29 (0, 0)) (by (with_reducible repeat (first | refine blk_drewN ?_ _ | refine blk_drew ?_ | refine blk_alloc ?_ _)); exact BK115.out) hb)
     have n1_ := Aside0.mk (blk_below (g := wr.heap.size) (o := .cells #[.int .u64 p, .int .u64 z] 55 (0, 0)) (by (with_reducible repeat (first | refine blk_drewN ?_ _ | refine blk_drew ?_ | refine blk_alloc ?_ _)); exact BK117.out) hb)
     have n2_ := Aside0.mk (below_step (by repeat (first | (with_reducible first | exact HB.out | apply below_alloc | apply pw_below_drewN | apply below_drew1 | refine below_set ?_ GE115.out | refine below_set ?_ GE117.out) | exact HB.out)) hb)
     clear BK115
     clear BK117
     clear HB
     have BK115 := n0_
     have BK117 := n1_
     have HB := n2_
     clear n0_ n1_ n2_
     (try clear hb)
     (try clear hb2)
     (try clear hk)
     (try clear hi)
     refine hK.out _ _ ⟨(blk_cell BK115.out 0).trans rfl, (blk_cell BK115.out 1).trans rfl, (blk_cell BK115.out 2).trans rfl, (blk_cell BK117.out 0).trans rfl, (blk_cell BK117.out 1).trans rfl⟩ (fun hHeld => ?_)
     clear hK K
     refine norm_ (a' := ?_) ?_ ?_
     rotate_left
     ·show Act.put _ (some 27) _ = _
      simp only [Act.put, Sa, Sb, Sc, i64_w, i32_w]
      rfl
     refine pure_ (i := 4) (N := some 28) (v := ?_) (a' := ?_) #[T,T,T,T,T,F,F,F,F,F,F,F,F,F,F,F,F,F,F,F,F,F,F,F,F,F,F,F,F,F,F,F,F] rfl rfl (any_of HT_.out (by kernel_rfl)) (fun _ _ _ h => h) (Or.inl ⟨by rfl, ?_⟩) ?_ ?_
     rotate_left
     ·intro w'
      go_simp
      with_reducible rfl
     rotate_left
     ·simp only [Act.put, Sa, Sb, Sc, i64_w, i32_w]
      rfl
     refine pure_ (i := 5) (N := some 29) (v := ?_) (a' := ?_) #[T,T,T,T,T,T,F,F,F,F,F,F,F,F,F,F,F,F,F,F,F,F,F,F,F,F,F,F,F,F,F,F,F] rfl rfl (any_of HT_.out (by kernel_rfl)) (fun _ _ _ h => h) (Or.inl ⟨by rfl, ?_⟩) ?_ ?_
     rotate_left
     ·intro w'
      go_simp
      with_reducible rfl
     rotate_left
     ·simp only [Act.put, Sa, Sb, Sc, i64_w, i32_w]
      rfl
     refine pure_ (i := 6) (N := some 30) (v := undef) (a' := ?_) #[T,T,T,T,T,T,T,F,F,F,F,F,F,F,F,F,F,F,F,F,F,F,F,F,F,F,F,F,F,F,F,F,F] rfl rfl (any_of HT_.out (by kernel_rfl)) (fun _ _ _ h => h) (Or.inr ⟨by rfl, rfl⟩) ?_ ?_
     rotate_left
     ·simp only [Act.put, Sa, Sb, Sc, i64_w, i32_w]
      rfl
     refine pure_ (i := 7) (N := some 31) (v := undef) (a' := ?_) #[T,T,T,T,T,T,T,T,F,F,F,F,F,F,F,F,F,F,F,F,F,F,F,F,F,F,F,F,F,F,F,F,F] rfl rfl (any_of HT_.out (by kernel_rfl)) (fun _ _ _ h => h) (Or.inr ⟨by rfl, rfl⟩) ?_ ?_
     rotate_left
     ·simp only [Act.put, Sa, Sb, Sc, i64_w, i32_w]
      rfl
     refine pure_ (i := 8) (N := some 32) (v := undef) (a' := ?_) #[T,T,T,T,T,T,T,T,T,F,F,F,F,F,F,F,F,F,F,F,F,F,F,F,F,F,F,F,F,F,F,F,F] rfl rfl (any_of HT_.out (by kernel_rfl)) (fun _ _ _ h => h) (Or.inr ⟨by rfl, rfl⟩) ?_ ?_
     rotate_left
     ·simp only [Act.put, Sa, Sb, Sc, i64_w, i32_w]
      rfl
     refine pure_ (i := 9) (N := some 33) (v := undef) (a' := ?_) #[T,T,T,T,T,T,T,T,T,T,F,F,F,F,F,F,F,F,F,F,F,F,F,F,F,F,F,F,F,F,F,F,F] rfl rfl (any_of HT_.out (by kernel_rfl)) (fun _ _ _ h => h) (Or.inr ⟨by rfl, rfl⟩) ?_ ?_
     rotate_left
     ·simp only [Act.put, Sa, Sb, Sc, i64_w, i32_w]
      rfl
     refine pure_ (i := 10) (N := some 34) (v := undef) (a' := ?_) #[T,T,T,T,T,T,T,T,T,T,T,F,F,F,F,F,F,F,F,F,F,F,F,F,F,F,F,F,F,F,F,F,F] rfl rfl (any_of HT_.out (by kernel_rfl)) (fun _ _ _ h => h) (Or.inr ⟨by rfl, rfl⟩) ?_ ?_
     rotate_left
     ·simp only [Act.put, Sa, Sb, Sc, i64_w, i32_w]
      rfl
     refine pure_ (i := 11) (N := some 35) (v := undef) (a' := ?_) #[T,T,T,T,T,T,T,T,T,T,T,T,F,F,F,F,F,F,F,F,F,F,F,F,F,F,F,F,F,F,F,F,F] rfl rfl (any_of HT_.out (by kernel_rfl)) (fun _ _ _ h => h) (Or.inr ⟨by rfl, rfl⟩) ?_ ?_
     rotate_left
     ·simp only [Act.put, Sa, Sb, Sc, i64_w, i32_w]
      rfl
     refine pure_ (i := 12) (N := some 36) (v := ?_) (a' := ?_) #[T,T,T,T,T,T,T,T,T,T,T,T,T,F,F,F,F,F,F,F,F,F,F,F,F,F,F,F,F,F,F,F,F] rfl rfl (any_of HT_.out (by kernel_rfl)) (fun _ _ _ h => h) (Or.inl ⟨by rfl, ?_⟩) ?_ ?_
     rotate_left
     ·intro w'
      go_simp
      with_reducible rfl
     rotate_left
     ·simp only [Act.put, Sa, Sb, Sc, i64_w, i32_w]
      rfl
     refine pure_ (i := 13) (N := some 37) (v := ?_) (a' := ?_) #[T,T,T,T,T,T,T,T,T,T,T,T,T,T,F,F,F,F,F,F,F,F,F,F,F,F,F,F,F,F,F,F,F] rfl rfl (any_of HT_.out (by kernel_rfl)) (fun _ _ _ h => h) (Or.inl ⟨by rfl, ?_⟩) ?_ ?_
     rotate_left
     ·intro w'
      go_simp
      with_reducible rfl
     rotate_left
     ·simp only [Act.put, Sa, Sb, Sc, i64_w, i32_w]
      rfl
     refine pure_ (i := 14) (N := some 38) (v := undef) (a' := ?_) #[T,T,T,T,T,T,T,T,T,T,T,T,T,T,T,F,F,F,F,F,F,F,F,F,F,F,F,F,F,F,F,F,F] rfl rfl (any_of HT_.out (by kernel_rfl)) (fun _ _ _ h => h) (Or.inr ⟨by rfl, rfl⟩) ?_ ?_
     rotate_left
     ·simp only [Act.put, Sa, Sb, Sc, i64_w, i32_w]
      rfl
     refine pure_ (i := 15) (N := some 39) (v := undef) (a' := ?_) #[T,T,T,T,T,T,T,T,T,T,T,T,T,T,T,T,F,F,F,F,F,F,F,F,F,F,F,F,F,F,F,F,F] rfl rfl (any_of HT_.out (by kernel_rfl)) (fun _ _ _ h => h) (Or.inr ⟨by rfl, rfl⟩) ?_ ?_
     rotate_left
     ·simp only [Act.put, Sa, Sb, Sc, i64_w, i32_w]
      rfl
     refine pure_ (i := 16) (N := some 40) (v := undef) (a' := ?_) #[T,T,T,T,T,T,T,T,T,T,T,T,T,T,T,T,T,F,F,F,F,F,F,F,F,F,F,F,F,F,F,F,F] rfl rfl (any_of HT_.out (by kernel_rfl)) (fun _ _ _ h => h) (Or.inr ⟨by rfl, rfl⟩) ?_ ?_
     rotate_left
     ·simp only [Act.put, Sa, Sb, Sc, i64_w, i32_w]
      rfl
     refine pure_ (i := 17) (N := some 41) (v := undef) (a' := ?_) #[T,T,T,T,T,T,T,T,T,T,T,T,T,T,T,T,T,T,F,F,F,F,F,F,F,F,F,F,F,F,F,F,F] rfl rfl (any_of HT_.out (by kernel_rfl)) (fun _ _ _ h => h) (Or.inr ⟨by rfl, rfl⟩) ?_ ?_
     rotate_left
     ·simp only [Act.put, Sa, Sb, Sc, i64_w, i32_w]
      rfl
     refine pure_ (i := 18) (N := some 42) (v := undef) (a' := ?_) #[T,T,T,T,T,T,T,T,T,T,T,T,T,T,T,T,T,T,T,F,F,F,F,F,F,F,F,F,F,F,F,F,F] rfl rfl (any_of HT_.out (by kernel_rfl)) (fun _ _ _ h => h) (Or.inr ⟨by rfl, rfl⟩) ?_ ?_
     rotate_left
     ·simp only [Act.put, Sa, Sb, Sc, i64_w, i32_w]
      rfl
     refine pure_ (i := 19) (N := some 43) (v := ?_) (a' := ?_) #[T,T,T,T,T,T,T,T,T,T,T,T,T,T,T,T,T,T,T,T,F,F,F,F,F,F,F,F,F,F,F,F,F] rfl rfl (any_of HT_.out (by kernel_rfl)) (fun _ _ _ h => h) (Or.inl ⟨by rfl, ?_⟩) ?_ ?_
     rotate_left
     ·intro w'
      go_simp
      with_reducible rfl
     rotate_left
     ·simp only [Act.put, Sa, Sb, Sc, i64_w, i32_w]
      rfl
     refine pure_ (i := 20) (N := some 44) (v := ?_) (a' := ?_) #[T,T,T,T,T,T,T,T,T,T,T,T,T,T,T,T,T,T,T,T,T,F,F,F,F,F,F,F,F,F,F,F,F] rfl rfl (any_of HT_.out (by kernel_rfl)) (fun _ _ _ h => h) (Or.inl ⟨by rfl, ?_⟩) ?_ ?_
     rotate_left
     ·intro w'
      go_simp
      with_reducible rfl
     rotate_left
     ·simp only [Act.put, Sa, Sb, Sc, i64_w, i32_w]
      rfl
     refine pure_ (i := 21) (N := some 45) (v := undef) (a' := ?_) #[T,T,T,T,T,T,T,T,T,T,T,T,T,T,T,T,T,T,T,T,T,T,F,F,F,F,F,F,F,F,F,F,F] rfl rfl (any_of HT_.out (by kernel_rfl)) (fun _ _ _ h => h) (Or.inr ⟨by rfl, rfl⟩) ?_ ?_
     rotate_left
     ·simp only [Act.put, Sa, Sb, Sc, i64_w, i32_w]
      rfl
     refine pure_ (i := 22) (N := some 46) (v := undef) (a' := ?_) #[T,T,T,T,T,T,T,T,T,T,T,T,T,T,T,T,T,T,T,T,T,T,T,F,F,F,F,F,F,F,F,F,F] rfl rfl (any_of HT_.out (by kernel_rfl)) (fun _ _ _ h => h) (Or.inr ⟨by rfl, rfl⟩) ?_ ?_
     rotate_left
     ·simp only [Act.put, Sa, Sb, Sc, i64_w, i32_w]
      rfl
     refine pure_ (i := 23) (N := some 47) (v := undef) (a' := ?_) #[T,T,T,T,T,T,T,T,T,T,T,T,T,T,T,T,T,T,T,T,T,T,T,T,F,F,F,F,F,F,F,F,F] rfl rfl (any_of HT_.out (by kernel_rfl)) (fun _ _ _ h => h) (Or.inr ⟨by rfl, rfl⟩) ?_ ?_
     rotate_left
     ·simp only [Act.put, Sa, Sb, Sc, i64_w, i32_w]
      rfl
     refine pure_ (i := 24) (N := some 48) (v := undef) (a' := ?_) #[T,T,T,T,T,T,T,T,T,T,T,T,T,T,T,T,T,T,T,T,T,T,T,T,T,F,F,F,F,F,F,F,F] rfl rfl (any_of HT_.out (by kernel_rfl)) (fun _ _ _ h => h) (Or.inr ⟨by rfl, rfl⟩) ?_ ?_
     rotate_left
     ·simp only [Act.put, Sa, Sb, Sc, i64_w, i32_w]
      rfl
     refine pure_ (i := 25) (N := some 49) (v := undef) (a' := ?_) #[T,T,T,T,T,T,T,T,T,T,T,T,T,T,T,T,T,T,T,T,T,T,T,T,T,T,F,F,F,F,F,F,F] rfl rfl (any_of HT_.out (by kernel_rfl)) (fun _ _ _ h => h) (Or.inr ⟨by rfl, rfl⟩) ?_ ?_
     rotate_left
     ·simp only [Act.put, Sa, Sb, Sc, i64_w, i32_w]
      rfl
     refine pure_ (i := 26) (N := some 50) (v := undef) (a' := ?_) #[T,T,T,T,T,T,T,T,T,T,T,T,T,T,T,T,T,T,T,T,T,T,T,T,T,T,T,F,F,F,F,F,F] rfl rfl (any_of HT_.out (by kernel_rfl)) (fun _ _ _ h => h) (Or.inr ⟨by rfl, rfl⟩) ?_ ?_
     rotate_left
     ·simp only [Act.put, Sa, Sb, Sc, i64_w, i32_w]
      rfl
     refine pure_ (i := 27) (N := some 51) (v := undef) (a' := ?_) #[T,T,T,T,T,T,T,T,T,T,T,T,T,T,T,T,T,T,T,T,T,T,T,T,T,T,T,T,F,F,F,F,F] rfl rfl (any_of HT_.out (by kernel_rfl)) (fun _ _ _ h => h) (Or.inr ⟨by rfl, rfl⟩) ?_ ?_
     rotate_left
     ·simp only [Act.put, Sa, Sb, Sc, i64_w, i32_w]
      rfl
     refine pure_ (i := 28) (N := some 52) (v := undef) (a' := ?_) #[T,T,T,T,T,T,T,T,T,T,T,T,T,T,T,T,T,T,T,T,T,T,T,T,T,T,T,T,T,F,F,F,F] rfl rfl (any_of HT_.out (by kernel_rfl)) (fun _ _ _ h => h) (Or.inr ⟨by rfl, rfl⟩) ?_ ?_
     rotate_left
     ·simp only [Act.put, Sa, Sb, Sc, i64_w, i32_w]
      rfl
     refine pure_ (i := 29) (N := some 53) (v := undef) (a' := ?_) #[T,T,T,T,T,T,T,T,T,T,T,T,T,T,T,T,T,T,T,T,T,T,T,T,T,T,T,T,T,T,F,F,F] rfl rfl (any_of HT_.out (by kernel_rfl)) (fun _ _ _ h => h) (Or.inr ⟨by rfl, rfl⟩) ?_ ?_
     rotate_left
     ·simp only [Act.put, Sa, Sb, Sc, i64_w, i32_w]
      rfl
     refine pure_ (i := 30) (N := some 54) (v := undef) (a' := ?_) #[T,T,T,T,T,T,T,T,T,T,T,T,T,T,T,T,T,T,T,T,T,T,T,T,T,T,T,T,T,T,T,F,F] rfl rfl (any_of HT_.out (by kernel_rfl)) (fun _ _ _ h => h) (Or.inr ⟨by rfl, rfl⟩) ?_ ?_
     rotate_left
     ·simp only [Act.put, Sa, Sb, Sc, i64_w, i32_w]
      rfl
     refine pure_ (i := 31) (N := some 55) (v := undef) (a' := ?_) #[T,T,T,T,T,T,T,T,T,T,T,T,T,T,T,T,T,T,T,T,T,T,T,T,T,T,T,T,T,T,T,T,F] rfl rfl (any_of HT_.out (by kernel_rfl)) (fun _ _ _ h => h) (Or.inr ⟨by rfl, rfl⟩) ?_ ?_
     rotate_left
     ·simp only [Act.put, Sa, Sb, Sc, i64_w, i32_w]
      rfl
     refine pure_ (i := 32) (N := some 56) (v := ?_) (a' := ?_) #[T,T,T,T,T,T,T,T,T,T,T,T,T,T,T,T,T,T,T,T,T,T,T,T,T,T,T,T,T,T,T,T,T] rfl rfl (any_of HT_.out (by kernel_rfl)) (fun _ _ _ h => h) (Or.inl ⟨by rfl, ?_⟩) ?_ ?_
     rotate_left
     ·intro w'
      go_simp
      with_reducible rfl
     rotate_left
     ·simp only [Act.put, Sa, Sb, Sc, i64_w, i32_w]
      rfl
     refine done_ (done_of HT_.out (by kernel_rfl)) ?_
     go_wp2_with fail
     go_meet
     first
      | exact ⟨true, rfl, ⟨HRES.out.2 (by omega)⟩, ⟨BK117.out⟩, ⟨HWR.out.trans (HB.out.mono HWR.out.size)⟩⟩
      | exact ⟨false, rfl, ⟨by first | exact HRES.out.1 rfl | exact HRES.out.1 trivial⟩, ⟨BK117.out⟩, ⟨HWR.out.trans (HB.out.mono HWR.out.size)⟩⟩
   case rest =>
    obtain ⟨r, rfl, hok, hbk, hbl⟩ := hcut
    have HBR := Aside0.mk (hbr.out.trans (hbl.out.mono hbr.out.size))
    have HREP := Aside0.mk (hrep.out.below hbl.out)
    have HBX := Aside0.mk ((hbl.out.block _ (blk_lt hbx.out)).trans hbx.out)
    have HBK := Aside0.mk hbk.out
    have HOK := Lib.hid hok.out
    have HSC := Lib.hid (show scan base order n m (⟨p, z⟩ :: l.drop (i + 1)) i = scan base order n PM.none l 0 from HDR.out ▸ hsc.out)
    have hwb : wr.heap.size < wc.heap.size := blk_lt hbk.out
    have HMBL := Lib.hid hrep.out.1.lt
    clear hbr hrep hbx hbk hok hsc hbl hx0 hx1
    cases r with
    | true =>
     go_wp2
     go_ret2
     refine ⟨HBR.out, .inr ⟨(i : Int), ?_, rfl⟩⟩
     rw [← HSC.out]
     exact scan_cons_none (step_bad HOK.out)
    | false =>
     have hpb := page_bd HMAY.out HN0.out HN.out HOK.out
     obtain ⟨qn, hqn⟩ : ∃ qn : Nat, pageOf base ⟨p, z⟩ = (qn : Int) := ⟨(pageOf base ⟨p, z⟩).toNat, by omega⟩
     obtain ⟨dn, hdn⟩ : ∃ dn : Nat, p - base = (dn : Int) := ⟨(p - base).toNat, by have := hpb.2.2.1; simp at this; omega⟩
     have hsub : IntKind.u64.wrap (p - base) = (dn : Int) := by rw [hdn]; exact u64_in (by omega) (by have := hpb.2.2.2.1; simp at this; omega)
     have hdiv : (dn : Int) / 4096 = (qn : Int) := by rw [← hqn, ← hdn]; rfl
     have hz16 : 16 ≤ z := hpb.2.2.2.2.1
     have hzle : z ≤ 1048576 := hpb.2.2.2.2.2
     have hq1 : qn < 1024 := by have := hpb.2.1; omega
     have HQN := Lib.hid hqn
     have HPB := Lib.hid hpb
     have k0 : wc.cell? ⟨w.heap.size, 0, none⟩ = some (.int .u64 base) := blk_cell HBX.out 0
     have k3 : wc.cell? ⟨wr.heap.size, 0, none⟩ = some (.int .u64 p) := blk_cell HBK.out 0
     have k4 : wc.cell? ⟨wr.heap.size, 1, none⟩ = some (.int .u64 z) := blk_cell HBK.out 1
     clear hqn hpb hdn
     by_cases hz : z < 4096
     ·have hzd : decide (z < 4096) = true := decide_eq_true hz
      have HZ := Lib.hid hz
      clear hz
      cases hmq : m (qn : Int) with
      | none =>
       have HPT := Lib.hid (HREP.out.at_none hmq)
       have HRM := Lib.hid HREP.out.1
       have HST := Lib.hid (show OP.step base order n m ⟨p, z⟩ = put1 (qn : Int) ⟨p, z⟩ (pmSet m (qn : Int) (.small z noCells 0)) (.small z noCells 0) from (by have h := step_new HOK.out HZ.out (HQN.out ▸ hmq); rw [h, HQN.out]))
       have HMN := Lib.hid hmq
       have HPW := Lib.hid (show (Lit.int .u64 p).wf = true from wfU (HWD.out _ HBM.out).1.1 (HWD.out _ HBM.out).1.2)
       have HSL := Lib.hid (show s < maxLen from by have h1 := hs.out; have h2 := HL.out; have h3 := HLT.out; unfold maxLen; omega)
       have HREPW := Lib.hid HREP.out
       have HWB := Lib.hid (show w.heap.size + 1 ≤ wc.heap.size from blk_lt HBX.out)
       have HMB := Lib.hid HMBL.out
       clear hmq
       go_upto_region 12 with (first
        | (at_lookup; refine wpList_lookI (by rfl) _ _ 74 (by rfl) El.ptr 3 87 .i64 KI Try.underlying3 Try.underlying74 (-1) (by show (-1 : Int) ≤ -1; omega) (zero_lot _) (w.heap.size + 1) s ptr (by rfl) HRM.out (qn : Int) (by rfl) (wfI (by omega) (by omega)) (.pointer none) (by rw [HPT.out]; rfl) ?_))
       have HBK2 := Aside0.mk (show ((wc.alloc (.map #[] 0)).alloc (.cells #[.bool false, .int .u64 z, .map (some wc.heap.size)] 90)).heap[wr.heap.size]? = some (.cells #[.int .u64 p, .int .u64 z] 55 (0, 0)) from (Below.heap_alloc _ _ _ (by simp; omega)).trans ((Below.heap_alloc _ _ _ hwb).trans HBK.out))
       go_upto_region 13 with (at_mapUpdate; refine wpList_putI (by rfl) _ _ _ 74 (by rfl) El.ptr 3 87 .i64 KI Try.underlying3 Try.underlying74 (w.heap.size + 1) s ptr (by rfl) ((HRM.out.alloc _).alloc _) HSL.out (qn : Int) ((wc.heap.size + 1 : Nat) : Int) (by rfl) (by exact (ptrV_nat _).symm) (wfI (by omega) (by omega)) (by show (-1 : Int) ≤ _; omega) ?_; intro w5 hm5 hg5; have HM5 := Lib.hid hm5; have HG5 := Lib.hid hg5; clear hm5 hg5; have HNOW : True := trivial)
       have hm5 := HM5.out
       rw [HPT.out] at hm5
       have hrep5 := new_small (s' := s + 1) HREPW.out HWB.out HMN.out hm5 HG5.out
       have HREP5 := Lib.hid hrep5
       have hw5 : Below wc.heap.size wc ((wc.alloc (.map #[] 0)).alloc (.cells #[.bool false, .int .u64 z, .map (some wc.heap.size)] 90)) := ((Below.refl wc.heap.size wc).alloc (Nat.le_refl _) _).alloc (by simp) _
       have HBR5 := Aside0.mk (below_grown (HBR.out.trans (hw5.mono HBR.out.size)) HG5.out (by omega))
       have HBX5 := Aside0.mk ((HG5.out.block _ (by simp; have := blk_lt HBX.out; omega) (by intro e; injection e with e; omega)).trans ((hw5.block _ (blk_lt HBX.out)).trans HBX.out))
       have HBK5 := Aside0.mk ((HG5.out.block _ (by simp; omega) (by intro e; injection e with e; have := HMB.out; omega)).trans HBK2.out)
       have k3 : w5.cell? ⟨wr.heap.size, 0, none⟩ = some (.int .u64 p) := blk_cell HBK5.out 0
       have k4 : w5.cell? ⟨wr.heap.size, 1, none⟩ = some (.int .u64 z) := blk_cell HBK5.out 1
       clear hrep5 hm5 hw5
       obtain ⟨g9, c9, hp9, hl9, hB9, hBc9, hnew⟩ := HREP5.out.new_cell (pmSet_same m (qn : Int) (.small z noCells 0))
       have eg : g9 = wc.heap.size + 1 := by simp only [upd, if_pos] at hp9; injection hp9 with h; omega
       subst eg
       have HLOT := Lib.hid hl9
       have HNEW := Lib.hid hnew
       have HBC := Lib.hid hBc9
       clear hp9 hl9 hB9 hnew hBc9 HBR HBX
       have HBR := HBR5
       have HBX := HBX5
       clear HBR5 HBX5
       have q0 : w5.cell? ⟨wc.heap.size + 1, 0, none⟩ = some (.bool false) := blk_cell HLOT.out.1 0
       have q1 : w5.cell? ⟨wc.heap.size + 1, 1, none⟩ = some (.int .u64 z) := blk_cell HLOT.out.1 1
       have q2 : w5.cell? ⟨wc.heap.size + 1, 2, none⟩ = some (.map (some c9)) := blk_cell HLOT.out.1 2
       have hlk : ∀ qq, (Instr.lookup 88 (.map (some c9)) (.int .u64 p) true).run Try.prog (w5.drewN qq) = .ok (.tuple #[.int .u64 0, .bool false]) (w5.drewN qq) := fun qq => (HLOT.out.2.of_block (w' := w5.drewN qq) rfl).look_ok KU Try.underlying22 Try.underlying88 trivial (zero_u64 _) HPW.out
       have HD2 := Lib.hid (show (noCells p).isSome = false from rfl)
       have hszd : (z != z) = false := by simp
       have HSZ := Lib.hid (show z = z from rfl)
       have HCI := Lib.hid (Nat.zero_le i)
       have HSS := Lib.hid (show s + 1 ≤ 256 * i + 1 from Nat.succ_le_succ hs.out)
       have HQ := Lib.hid (q_new (q0 := (qn : Int)) (sz := z) hq.out)
       go_quiet (fail)
       obtain ⟨wd, hwd⟩ : ∃ wd, w5.drewN nq = wd := ⟨_, rfl⟩
       have d0 : wd.cell? ⟨wc.heap.size + 1, 0, none⟩ = some (.bool false) := hwd ▸ q0
       have d1 : wd.cell? ⟨wc.heap.size + 1, 1, none⟩ = some (.int .u64 z) := hwd ▸ q1
       have d2 : wd.cell? ⟨wc.heap.size + 1, 2, none⟩ = some (.map (some c9)) := hwd ▸ q2
       have d3 : wd.cell? ⟨wr.heap.size, 0, none⟩ = some (.int .u64 p) := hwd ▸ k3
       have d4 : wd.cell? ⟨wr.heap.size, 1, none⟩ = some (.int .u64 z) := hwd ▸ k4
       have HD1 := Lib.hid hwd
       rw [hwd]
       clear hwd hlk
       go_upto_region 14 with fail
       go_quiet (fail)
       obtain ⟨we, hwe⟩ : ∃ we, wd.drewN nq = we := ⟨_, rfl⟩
       have e2 : we.cell? ⟨wc.heap.size + 1, 2, none⟩ = some (.map (some c9)) := hwe ▸ d2
       have e3 : we.cell? ⟨wr.heap.size, 0, none⟩ = some (.int .u64 p) := hwe ▸ d3
       have e4 : we.cell? ⟨wr.heap.size, 1, none⟩ = some (.int .u64 z) := hwe ▸ d4
       have HE1 := Lib.hid hwe
       rw [hwe]
       clear hwe d0 d1 d2 d3 d4
       go_upto_region 16 with fail
       go_still_tail 8, (by kernel_rfl)
       have HM16 := Lib.hid (show ∀ qq, MapI Try.prog (El.int .u64) 22 .u64 (we.drewN qq) c9 0 noCells from fun qq => HLOT.out.2.of_block (by rw [← HE1.out, ← HD1.out]; rfl))
       have HCN0 := Lib.hid (show 0 ≤ i from HCI.out)
       have HCN := Lib.hid (show 0 < maxLen from by have h1 := HCN0.out; have h2 := HL.out; have h3 := HLT.out; unfold maxLen; omega)
       have HSI := Lib.hid (succ_i i (by have h2 := HL.out; have h3 := HLT.out; omega))
       go_wp2_with (at_mapUpdate; refine wpList_putI (by rfl) _ _ _ 88 (by rfl) (El.int .u64) 22 22 .u64 KU Try.underlying22 Try.underlying88 c9 0 noCells (by rfl) (HM16.out 1) HCN.out p z (by rfl) (by rfl) HPW.out trivial ?_; intro w3 hm3 hg3; have HM3 := Lib.hid hm3; have HG3 := Lib.hid hg3; clear hm3 hg3)
       go_roundg g1
       case measure => omega
       case rel =>
        have hg3 : w5.grownBy w3 (some c9) := grown_drewN (n := _) (HD1.out ▸ grown_drewN (n := _) (HE1.out ▸ grown_drewN (n := 1) HG3.out))
        have hm3 := HM3.out
        rw [HD2.out] at hm3
        have hbc := HBC.out
        refine ⟨i + 1, (s + 1), pmSet _ (qn : Int) (.small z (upd noCells p z) (0 + 1)), _, congrArg (Value.int .i64) HSI.out, ⟨by have := hg.out; omega⟩, ⟨?_⟩, ⟨HNEW.out _ _ _ hm3 hg3⟩, ⟨by have := HSS.out; omega⟩, ⟨q_put HQ.out HCN0.out⟩, ⟨below_grown HBR.out hg3 (by omega)⟩, ⟨(hg3.block _ (blk_lt HBX.out) (by intro e; injection e with e; omega)).trans HBX.out⟩⟩
        rw [← HSC.out]
        rw [show ((i + 1 : Nat) : Int) = (i : Int) + 1 from by omega]
        exact (scan_cons_some (HST.out.trans (put1_ok HD2.out (by first | exact HSZ.out | rfl)))).symm
      | some lt =>
       obtain ⟨g, c', hpt, hlot, hBg⟩ := HREP.out.at_some hmq
       have HST := Lib.hid (show OP.step base order n m ⟨p, z⟩ = put1 (qn : Int) ⟨p, z⟩ m lt from (by have h := step_old HOK.out HZ.out (HQN.out ▸ hmq); rw [h, HQN.out]))
       have HPT := Lib.hid hpt
       have HMQ := Lib.hid hmq
       have HRM := Lib.hid HREP.out.1
       clear hpt hmq
       cases lt with
       | great sz =>
        have HLOT := Lib.hid hlot
        have q0 : wc.cell? ⟨g, 0, none⟩ = some (.bool true) := blk_cell HLOT.out 0
        have q1 : wc.cell? ⟨g, 1, none⟩ = some (.int .u64 sz) := blk_cell HLOT.out 1
        have q2 : wc.cell? ⟨g, 2, none⟩ = some (.map none) := blk_cell HLOT.out 2
        clear hlot
        have hlk := look_nil_u64
        go_upto_region 13 with (first
         | (at_lookup; refine wpList_lookI (by rfl) _ _ 74 (by rfl) El.ptr 3 87 .i64 KI Try.underlying3 Try.underlying74 (-1) (by show (-1 : Int) ≤ -1; omega) (zero_lot _) (w.heap.size + 1) s ptr (by rfl) HRM.out (qn : Int) (by rfl) (wfI (by omega) (by omega)) (.pointer (some ⟨g, 0, none⟩)) (by rw [HPT.out]; exact ptrV_nat g) ?_))
        go_quiet (fail)
        go_upto_region 14 with fail
        go_quiet (fail)
        go_wp2
        go_ret2
        refine ⟨below_drewN HBR.out _, .inr ⟨(i : Int), ?_, rfl⟩⟩
        rw [← HSC.out]
        exact scan_cons_none (HST.out.trans rfl)
       | small sz cs cn =>
        have HLOT := Lib.hid hlot
        have q0 : wc.cell? ⟨g, 0, none⟩ = some (.bool false) := blk_cell HLOT.out.1 0
        have q1 : wc.cell? ⟨g, 1, none⟩ = some (.int .u64 sz) := blk_cell HLOT.out.1 1
        have q2 : wc.cell? ⟨g, 2, none⟩ = some (.map (some c')) := blk_cell HLOT.out.1 2
        clear hlot
        have hpw : (Lit.int .u64 p).wf = true := wfU (HWD.out _ HBM.out).1.1 (HWD.out _ HBM.out).1.2
        have HPW := Lib.hid hpw
        clear hpw
        have HLK := Lib.hid (fun qq => (HLOT.out.2.of_block (w' := wc.drewN qq) rfl).look_ok KU Try.underlying22 Try.underlying88 trivial (zero_u64 _) HPW.out)
        by_cases hdup : (cs p).isSome = true
        ·have hlk : ∀ qq, (Instr.lookup 88 (.map (some c')) (.int .u64 p) true).run Try.prog (wc.drewN qq) = .ok (.tuple #[.int .u64 ((cs p).getD 0), .bool true]) (wc.drewN qq) := fun qq => by have h := HLK.out qq; rw [hdup] at h; exact h
         have HD2 := Lib.hid hdup
         clear hdup
         go_upto_region 13 with (first
          | (at_lookup; refine wpList_lookI (by rfl) _ _ 74 (by rfl) El.ptr 3 87 .i64 KI Try.underlying3 Try.underlying74 (-1) (by show (-1 : Int) ≤ -1; omega) (zero_lot _) (w.heap.size + 1) s ptr (by rfl) HRM.out (qn : Int) (by rfl) (wfI (by omega) (by omega)) (.pointer (some ⟨g, 0, none⟩)) (by rw [HPT.out]; exact ptrV_nat g) ?_))
         go_quiet (fail)
         go_upto_region 14 with fail
         go_quiet (fail)
         go_wp2
         go_ret2
         refine ⟨below_drewN HBR.out _, .inr ⟨(i : Int), ?_, rfl⟩⟩
         rw [← HSC.out]
         exact scan_cons_none (HST.out.trans (by simp only [put1]; rw [if_pos (Or.inl HD2.out)]))
        have hdf : (cs p).isSome = false := by simpa using hdup
        have hlk : ∀ qq, (Instr.lookup 88 (.map (some c')) (.int .u64 p) true).run Try.prog (wc.drewN qq) = .ok (.tuple #[.int .u64 ((cs p).getD 0), .bool false]) (wc.drewN qq) := fun qq => by have h := HLK.out qq; rw [hdf] at h; exact h
        have HD2 := Lib.hid hdf
        clear hdup hdf
        by_cases hsz : sz = z
        ·have hszd : (sz != z) = false := by simpa using hsz
         have HSZ := Lib.hid hsz
         clear hsz
         obtain ⟨g9, c9, hp9, hl9, hB9, hBc9, hnew⟩ := HREP.out.new_cell HMQ.out
         have eg : g9 = g := by rw [HPT.out] at hp9; injection hp9 with h; omega
         subst eg
         have ec : c9 = c' := by have h := hl9.1; rw [HLOT.out.1] at h; injection h with h; injection h with h; simp at h; exact h.symm
         subst ec
         have HNEW := Lib.hid hnew
         have HBC := Lib.hid hBc9
         clear hp9 hl9 hB9 hnew hBc9
         go_upto_region 13 with (first
          | (at_lookup; refine wpList_lookI (by rfl) _ _ 74 (by rfl) El.ptr 3 87 .i64 KI Try.underlying3 Try.underlying74 (-1) (by show (-1 : Int) ≤ -1; omega) (zero_lot _) (w.heap.size + 1) s ptr (by rfl) HRM.out (qn : Int) (by rfl) (wfI (by omega) (by omega)) (.pointer (some ⟨g9, 0, none⟩)) (by rw [HPT.out]; exact ptrV_nat g9) ?_))
         have HCI := Lib.hid (hq.out _ _ _ _ HMQ.out)
         have HSS := Lib.hid (show s ≤ 256 * i + 1 from Nat.le_succ_of_le hs.out)
         have HQ := Lib.hid hq.out
         go_quiet (fail)
         obtain ⟨wd, hwd⟩ : ∃ wd, wc.drewN nq = wd := ⟨_, rfl⟩
         have d0 : wd.cell? ⟨g9, 0, none⟩ = some (.bool false) := hwd ▸ q0
         have d1 : wd.cell? ⟨g9, 1, none⟩ = some (.int .u64 sz) := hwd ▸ q1
         have d2 : wd.cell? ⟨g9, 2, none⟩ = some (.map (some c9)) := hwd ▸ q2
         have d3 : wd.cell? ⟨wr.heap.size, 0, none⟩ = some (.int .u64 p) := hwd ▸ k3
         have d4 : wd.cell? ⟨wr.heap.size, 1, none⟩ = some (.int .u64 z) := hwd ▸ k4
         have HD1 := Lib.hid hwd
         rw [hwd]
         clear hwd hlk
         go_upto_region 14 with fail
         go_quiet (fail)
         obtain ⟨we, hwe⟩ : ∃ we, wd.drewN nq = we := ⟨_, rfl⟩
         have e2 : we.cell? ⟨g9, 2, none⟩ = some (.map (some c9)) := hwe ▸ d2
         have e3 : we.cell? ⟨wr.heap.size, 0, none⟩ = some (.int .u64 p) := hwe ▸ d3
         have e4 : we.cell? ⟨wr.heap.size, 1, none⟩ = some (.int .u64 z) := hwe ▸ d4
         have HE1 := Lib.hid hwe
         rw [hwe]
         clear hwe d0 d1 d2 d3 d4
         go_upto_region 16 with fail
         go_still_tail 8, (by kernel_rfl)
         have HM16 := Lib.hid (show ∀ qq, MapI Try.prog (El.int .u64) 22 .u64 (we.drewN qq) c9 cn cs from fun qq => HLOT.out.2.of_block (by rw [← HE1.out, ← HD1.out]; rfl))
         have HCN0 := Lib.hid (show cn ≤ i from HCI.out)
         have HCN := Lib.hid (show cn < maxLen from by have h1 := HCN0.out; have h2 := HL.out; have h3 := HLT.out; unfold maxLen; omega)
         have HSI := Lib.hid (succ_i i (by have h2 := HL.out; have h3 := HLT.out; omega))
         go_wp2_with (at_mapUpdate; refine wpList_putI (by rfl) _ _ _ 88 (by rfl) (El.int .u64) 22 22 .u64 KU Try.underlying22 Try.underlying88 c9 cn cs (by rfl) (HM16.out 1) HCN.out p z (by rfl) (by rfl) HPW.out trivial ?_; intro w3 hm3 hg3; have HM3 := Lib.hid hm3; have HG3 := Lib.hid hg3; clear hm3 hg3)
         go_roundg g1
         case measure => omega
         case rel =>
          have hg3 : wc.grownBy w3 (some c9) := grown_drewN (n := _) (HD1.out ▸ grown_drewN (n := _) (HE1.out ▸ grown_drewN (n := 1) HG3.out))
          have hm3 := HM3.out
          rw [HD2.out] at hm3
          have hbc := HBC.out
          refine ⟨i + 1, s, pmSet _ (qn : Int) (.small sz (upd cs p z) (cn + 1)), ptr, congrArg (Value.int .i64) HSI.out, ⟨by have := hg.out; omega⟩, ⟨?_⟩, ⟨HNEW.out _ _ _ hm3 hg3⟩, ⟨by have := HSS.out; omega⟩, ⟨q_put HQ.out HCN0.out⟩, ⟨below_grown HBR.out hg3 (by omega)⟩, ⟨(hg3.block _ (blk_lt HBX.out) (by intro e; injection e with e; omega)).trans HBX.out⟩⟩
          rw [← HSC.out]
          rw [show ((i + 1 : Nat) : Int) = (i : Int) + 1 from by omega]
          exact (scan_cons_some (HST.out.trans (put1_ok HD2.out (by first | exact HSZ.out | rfl)))).symm
        ·have hszd : (sz != z) = true := by simpa using hsz
         have HSZ := Lib.hid hsz
         clear hsz
         go_upto_region 13 with (first
          | (at_lookup; refine wpList_lookI (by rfl) _ _ 74 (by rfl) El.ptr 3 87 .i64 KI Try.underlying3 Try.underlying74 (-1) (by show (-1 : Int) ≤ -1; omega) (zero_lot _) (w.heap.size + 1) s ptr (by rfl) HRM.out (qn : Int) (by rfl) (wfI (by omega) (by omega)) (.pointer (some ⟨g, 0, none⟩)) (by rw [HPT.out]; exact ptrV_nat g) ?_))
         go_quiet (fail)
         go_upto_region 14 with fail
         go_quiet (fail)
         go_wp2
         go_ret2
         refine ⟨below_drewN HBR.out _, .inr ⟨(i : Int), ?_, rfl⟩⟩
         rw [← HSC.out]
         exact scan_cons_none (HST.out.trans (by simp only [put1]; rw [if_pos (Or.inr HSZ.out)]))
     ·have hzd : decide (z < 4096) = false := decide_eq_false hz
      have hz4 : 4096 ≤ z := by omega
      have HST := Lib.hid (show OP.step base order n m ⟨p, z⟩ = fill z (z / 4096).toNat (qn : Int) m from (by have h := step_big (b := ⟨p, z⟩) (m := m) HOK.out hz; rw [h, HQN.out]))
      obtain ⟨kn, hkn⟩ : ∃ kn : Nat, z / 4096 = (kn : Int) := ⟨(z / 4096).toNat, by omega⟩
      have hkn2 : kn ≤ 256 := by omega
      have HKN := Lib.hid hkn
      have HST2 := Lib.hid (show OP.step base order n m ⟨p, z⟩ = fill z kn (qn : Int) m from by have h := HST.out; rw [HKN.out] at h; simpa using h)
      have HWB := Lib.hid (show w.heap.size + 1 ≤ wc.heap.size from blk_lt HBX.out)
      have hslot : wrap64 (IntKind.u64.wrap (Int.tdiv (IntKind.u64.wrap (p - base)) 4096)) = (qn : Int) := by rw [hsub, Int.tdiv_eq_ediv_of_nonneg (by omega), hdiv, u64_in (by omega) (by omega)]; unfold wrap64; omega
      have HSLOT := Lib.hid hslot
      clear hz HST hslot
      obtain ⟨wo, rfl⟩ : ∃ wo : World, wo = wr := ⟨_, rfl⟩
      go_wp2
      clear hsub hdiv
      go_loopg [120] kn (fun g v wx => ∃ (j s2 : Nat) (m2 : PM) (ptr2 : Int → Option Int), v = .int .i64 (j : Int) ∧ Aside0 (j + g = kn) ∧ Aside0 (fill z (kn - j) ((qn : Int) + (j : Int)) m2 = fill z kn (qn : Int) m) ∧ Aside0 (Rep (w.heap.size + 1) wx (w.heap.size + 1) s2 m2 ptr2) ∧ Aside0 (s2 ≤ s + j) ∧
       Aside0 (∀ x z cs q, m2 x = some (.small z cs q) → q ≤ i) ∧ Aside0 (Below w.heap.size w wx) ∧ Aside0 (wx.heap[w.heap.size]? = some (cfgCells base limit order)) ∧ Aside0 (wx.heap[wo.heap.size]? = some (.cells #[.int .u64 p, .int .u64 z] 55 (0, 0))))
      case atStart => exact ⟨0, s, m, ptr, rfl, ⟨Nat.zero_add _⟩, ⟨by simp⟩, ⟨HREP.out⟩, ⟨Nat.le_refl _⟩, ⟨hq.out⟩, ⟨HBR.out⟩, ⟨HBX.out⟩, ⟨HBK.out⟩⟩
      case round =>
       obtain ⟨j, s2, m2, ptr2, rfl, hjg, hfl, hrep2, hs2, hq2, hbr2, hbx2, hbk2⟩ := hrel
       clear k0 k3 k4
       have k4 : wr.cell? ⟨wo.heap.size, 1, none⟩ = some (.int .u64 z) := blk_cell hbk2.out 1
       by_cases hj : j < kn
       ·have hjd : decide (j < kn) = true := decide_eq_true hj
        have hjb : j ≤ 256 := by omega
        obtain ⟨g2, rfl⟩ : ∃ g2, gk = g2 + 1 := ⟨gk - 1, by have := hjg.out; omega⟩
        have HKJ := Lib.hid (show kn - j = (kn - (j + 1)) + 1 from by omega)
        have HJ := Lib.hid hj
        clear hj
        have hkw : 0 ≤ (qn : Int) + (j : Int) ∧ (qn : Int) + (j : Int) < 9223372036854775808 := by omega
        have HKE := Lib.hid (show wrap64 ((qn : Int) + (j : Int)) = (qn : Int) + (j : Int) from by unfold wrap64; omega)
        have HKW := Lib.hid (wfI hkw.1 hkw.2)
        clear hkw
        have HRM := Lib.hid hrep2.out.1
        have HREPW := Lib.hid hrep2.out
        cases hm2 : m2 ((qn : Int) + (j : Int)) with
        | some lt =>
         obtain ⟨g, c', hpt, hlot, hBg⟩ := hrep2.out.at_some hm2
         have HPT := Lib.hid hpt
         have HM2 := Lib.hid hm2
         clear hpt hlot hm2
         go_wp2_with (first
          | (at_lookup; refine wpList_lookI (by rfl) _ _ 74 (by rfl) El.ptr 3 87 .i64 KI Try.underlying3 Try.underlying74 (-1) (by show (-1 : Int) ≤ -1; omega) (zero_lot _) (w.heap.size + 1) s2 ptr2 (by rfl) HRM.out ((qn : Int) + (j : Int)) (by rfl) HKW.out (.pointer (some ⟨g, 0, none⟩)) (by rw [HPT.out]; exact ptrV_nat g) ?_))
         go_ret2
         refine ⟨hbr2.out, .inr ⟨(i : Int), ?_, rfl⟩⟩
         rw [← HSC.out]
         refine scan_cons_none (HST2.out.trans (hfl.out.symm.trans ?_))
         rw [HKJ.out]
         exact fill_bad HM2.out
        | none =>
         have HPT := Lib.hid (hrep2.out.at_none hm2)
         have HM2 := Lib.hid hm2
         have HSL := Lib.hid (show s2 < maxLen from by have h0 := hs2.out; have h1 := hs.out; have h2 := HL.out; have h3 := HLT.out; unfold maxLen; omega)
         have HSJ := Lib.hid (succ_i j (by omega))
         clear hm2
         go_wp2_with (first
          | (at_lookup; refine wpList_lookI (by rfl) _ _ 74 (by rfl) El.ptr 3 87 .i64 KI Try.underlying3 Try.underlying74 (-1) (by show (-1 : Int) ≤ -1; omega) (zero_lot _) (w.heap.size + 1) s2 ptr2 (by rfl) HRM.out ((qn : Int) + (j : Int)) (by rfl) HKW.out (.pointer none) (by rw [HPT.out]; rfl) ?_)
          | (at_mapUpdate; refine wpList_putI (by rfl) _ _ _ 74 (by rfl) El.ptr 3 87 .i64 KI Try.underlying3 Try.underlying74 (w.heap.size + 1) s2 ptr2 (by rfl) (HRM.out.alloc _) HSL.out ((qn : Int) + (j : Int)) ((wr.heap.size : Nat) : Int) (by rfl) (by exact (ptrV_nat _).symm) HKW.out (by show (-1 : Int) ≤ _; omega) ?_; intro w5 hm5 hg5; have HM5 := Lib.hid hm5; have HG5 := Lib.hid hg5; clear hm5 hg5))
         go_roundg g2
         case measure => omega
         case rel =>
          have hm5 := HM5.out
          rw [HPT.out] at hm5
          have hg5 := HG5.out
          have hwb2 := blk_lt hbk2.out
          have hmb := HMBL.out
          have ha : Below wr.heap.size wr (wr.alloc (.cells #[.bool true, .int .u64 z, .map none] 90)) := (Below.refl wr.heap.size wr).alloc (Nat.le_refl _) _
          refine ⟨j + 1, s2 + 1, _, _, congrArg (Value.int .i64) (show (j : Int) + 1 = ((j + 1 : Nat) : Int) from by omega), ⟨by have := hjg.out; omega⟩, ⟨?_⟩, ⟨new_great (s' := s2 + 1) HREPW.out (by have := blk_lt hbx2.out; omega) HM2.out hm5 hg5⟩, ⟨by have := hs2.out; omega⟩, ⟨q_great hq2.out⟩, ⟨below_grown (hbr2.out.trans (ha.mono hbr2.out.size)) hg5 (by omega)⟩, ⟨(hg5.block _ (by simp; have := blk_lt hbx2.out; omega) (by intro e; injection e with e; omega)).trans ((ha.block _ (blk_lt hbx2.out)).trans hbx2.out)⟩,
           ⟨(hg5.block _ (by simp; omega) (by intro e; injection e with e; omega)).trans ((ha.block _ hwb2).trans hbk2.out)⟩⟩
          rw [← hfl.out, HKJ.out, fill_ok HM2.out]
          first | rfl | (congr 1; done) | (congr 1; omega)
       ·have hjd : decide (j < kn) = false := decide_eq_false hj
        have HSI := Lib.hid (succ_i i (by have h2 := HL.out; have h3 := HLT.out; omega))
        have HJ := Lib.hid hj
        clear hj
        go_wp2
        go_roundg g1
        case measure => omega
        case rel =>
         have hj := HJ.out
         have hjg := hjg.out
         refine ⟨i + 1, s2, m2, ptr2, congrArg (Value.int .i64) HSI.out, ⟨by have := hg.out; omega⟩, ⟨?_⟩, ⟨hrep2.out⟩, ⟨by have h1 := hs2.out; have h2 := hs.out; omega⟩, ⟨fun x z cs q h => Nat.le_succ_of_le (hq2.out x z cs q h)⟩, ⟨hbr2.out⟩, ⟨hbx2.out⟩⟩
         rw [← HSC.out]
         rw [show ((i + 1 : Nat) : Int) = (i : Int) + 1 from by omega]
         refine (scan_cons_some (HST2.out.trans (hfl.out.symm.trans ?_))).symm
         rw [show kn - j = 0 from by omega]
         rfl
  ·have hd : decide (i < l.length) = false := decide_eq_false hlt
   have HLT := Lib.hid hlt
   clear hlt
   go_wp2
   go_ret2
   refine ⟨hbr.out, .inl ⟨m, _, s, ?_, rfl, hrep.out.read, Nat.le_trans hs.out (Nat.mul_le_mul_left _ (by have := hg.out; omega))⟩⟩
   rw [← hsc.out, List.drop_eq_nil_of_le (by have := HLT.out; omega)]
   rfl
end Go.Proofs.Ytihfblnjgaalcaa.OG
