/- Part 1 of what the rows of this seat rest on: words of the print that they need; how images, spaces, sets lie in memory; the functions walked. -/
import Derived.Test.YtkgedpcipaogjaaProg
import Derived.WalkKit
import Derived.WalkLawsBesides
import Derived.Below
import Derived.Defers
import Derived.Recover
import Derived.Lib.Hide
import Derived.Deep.Draws
import Derived.Deep.AppendLies
import Derived.Maps.AppendAt
import Derived.OwnWalk
import Derived.Laws.BytesArg
import Derived.Laws.MakeOwn
import Derived.Laws.OwnMore
import Derived.Deep.OwnRows
import Derived.Tactics
import Derived.Lib.ConvBytes
import Derived.Laws.Slices
import Derived.KernelRfl
import Derived.RowKit3
import Derived.Deep.LoopGhost
import Derived.Deep.QuietTactic
import Derived.BigQuiet
import Derived.WideLaws
import Derived.Deep.DeepCutAuto
import Derived.Deep.CutBlock
import Derived.Deep.RegionHeld3
import Derived.Laws.Rows
import Derived.Lib.AppendStr
import Derived.ArgAppend
import Derived.Laws.IdiomCopy
import Derived.RowKit
import Derived.OrdersHeld
import Derived.Laws.BitsLemmas
import Derived.Laws.EntriesVeiled
import Derived.StillTailTactics
import Derived.Laws.StructEq
import Derived.Deep.RegionLaw
import Derived.Deep.Quiet
import Derived.ProofKit
import Derived.OpenShut
import Derived.SizedLaws
import Derived.Lib.SmallJoins
import Derived.Deep.Slices
import Derived.ChangeSlices
import Derived.WalkSpells
import Derived.Laws.CopyOwn
import Derived.BigRegion
import Derived.Laws.Bits64
import Derived.Laws.Bits64b
import Derived.Lib.ItoaNum
import Derived.RegionTactic
import Derived.StillTail
import Derived.Test.YtkgedpcipaogjaaZ1
import Derived.Test.YtkgedpcipaogjaaZ2
import Derived.Test.YtkgedpcipaogjaaZ3
import Derived.Test.YtkgedpcipaogjaaZ4
import Derived.Test.YtkgedpcipaogjaaZ5
import Derived.Test.YtkgedpcipaogjaaZ6
import Derived.Test.YtkgedpcipaogjaaZ7
import Derived.Test.YtkgedpcipaogjaaZ8
import Derived.Test.YtkgedpcipaogjaaZ9
import Derived.Test.YtkgedpcipaogjaaZ10
import Derived.Test.YtkgedpcipaogjaaZ11
import Derived.Test.YtkgedpcipaogjaaZ12
section
namespace Go.Proofs.Ytkgedpcipaogjaa.WB
open Go Go.RowKit Go.Proofs.YtkgedpcipaogjaaW.PrintWords Go.Proofs.YtkgedpcipaogjaaW.PrintLast Go.Proofs.YtkgedpcipaogjaaW.PrintMore
set_option linter.unusedVariables false
set_option linter.unusedSimpArgs false
set_option maxRecDepth 100000 in
set_option maxHeartbeats 1000000 in
theorem Same_t {F : Nat → Prop} {w : World} {A B : Option Addr} {ca cb : Nat} {bs : List (Int × Int)} (ha : RowB F w A bs) (hb : RowB F w B bs) (hl : bs.length ≤ 140737488355328) :
    Calls Try.prog 14 #[.slice A bs.length ca, .slice B bs.length cb] w fun e w' => e = .returned (.bool true) ∧ ∃ n, w' = w.drewN n := by
  have HA := Lib.hid ha
  have HB := Lib.hid hb
  have HL := Lib.hid hl
  have t3 : ((bs.length : Int) != (bs.length : Int)) = false := by simp
  have hl9 : bs.length ≤ 9223372036854775807 := by omega
  clear ha hb hl
  go_enter Try.func14, Try.ntmps14
  go_wp2
  go_loopg [5, 11, 12, 13, 14, 15, 16, 17, 18, 19, 20, 21, 22, 23, 24, 25] bs.length (fun g v5 _ _ _ _ _ _ _ _ _ _ _ _ _ _ _ wi => ∃ (k : Nat), v5 = .int .i64 (k : Int) ∧ Aside0 (k + g = bs.length) ∧ Aside0 (∃ n, wi = w.drewN n))
  case atStart => exact ⟨0, rfl, ⟨by omega⟩, ⟨0, rfl⟩⟩
  case round =>
    obtain ⟨k, rfl, hkg, hn⟩ := hrel
    obtain ⟨n, rfl⟩ := hn.out
    by_cases hk : k < bs.length
    case neg =>
      obtain ⟨t1, t2⟩ := nlt_dec hk
      clear hk hkg
      go_wp2
      go_ret
      exact ⟨rfl, _, rfl⟩
    obtain ⟨t1, t2⟩ := lt_dec hk
    have hkI : (k : Int) < (bs.length : Int) := by omega
    obtain ⟨g1, rfl⟩ := lp_pos hkg.out hk
    have HG := Lib.hid (lp_step hkg.out)
    obtain ⟨aa, eA, -, hxa⟩ := HA.out (by omega)
    obtain ⟨ab, eB, -, hxb⟩ := HB.out (by omega)
    subst eA eB
    obtain ⟨a0, a1⟩ := hxa k hk
    obtain ⟨b0, b1⟩ := hxb k hk
    have n1 : wrap64 ((k : Int) + 1) = (k : Int) + 1 := up1 (by have := HL.out; omega)
    clear hxa hxb hk hkg
    generalize bs.getD k (0, 0) = b at *
    go_wp2
    go_quiet (fail)
    go_wp2
    go_roundg g1
    case measure => omega
    case rel => exact ⟨k + 1, by simp; try exact n1, ⟨HG.out⟩, ⟨_, rfl⟩⟩
end Go.Proofs.Ytkgedpcipaogjaa.WB
end
section
namespace Go.Proofs.Ytkgedpcipaogjaa.WB
open Go Go.RowKit Go.Proofs.YtkgedpcipaogjaaW.PrintWords Go.Proofs.YtkgedpcipaogjaaW.PrintLast Go.Proofs.YtkgedpcipaogjaaW.PrintMore
set_option linter.unusedVariables false
set_option linter.unusedSimpArgs false
def rowO (kd : IntKind) (t : TypeId) (L : List Int) : Obj := .cells (L.map (Value.int kd ·)).toArray t (0, 0)
def part (xs : List Int) (k : Nat) : List Int := xs.take k ++ List.replicate (xs.length - k) 0
theorem made_row (kd : IntKind) (t : TypeId) (n : Nat) : Obj.cells (madeCells #[.int kd 0] n) t (0, 0) = rowO kd t (List.replicate n 0) := by
  unfold rowO
  congr 1
  apply Array.toList_inj.1
  rw [toList_madeCells_one]
  simp
theorem rowO_cell {w : World} {m : Nat} {kd : IntKind} {t : TypeId} {L : List Int} (h : w.heap[m]? = some (rowO kd t L)) (k : Nat) (hk : k < L.length) : w.cell? ⟨m, k, none⟩ = some (.int kd (L.getD k 0)) ∧ w.frozen? ⟨m, k, none⟩ = false := by
  unfold rowO at h
  refine ⟨?_, blk_frozen h _⟩
  rw [blk_cell h]
  simp [List.getD_eq_getElem?_getD, List.getElem?_eq_getElem hk]
theorem rowO_row {w : World} {m : Nat} {kd : IntKind} {t : TypeId} {L : List Int} (h : w.heap[m]? = some (rowO kd t L)) : RowI (fun b => b = m) w (some ⟨m, 0, none⟩) kd L := by
  refine fun _ => ⟨_, rfl, rfl, fun i hi => ?_⟩
  have e5 : (⟨m, 0, none⟩ : Addr).add i = ⟨m, i, none⟩ := by unfold Addr.add; split <;> simp_all
  rw [e5]
  exact (rowO_cell h i hi).1
def prV (x : Nat × List Int) : Value := .slice (some ⟨x.1, 0, none⟩) x.2.length x.2.length
structure PrI (W : World) (rs : List (List Int)) (v : Value) (k : Nat) (L : List (Nat × List Int)) (wi : World) : Prop where
  rows : L.map (·.2) = rs.take k
  len : L.length = k
  below : Below W.heap.size W wi
  own : wi.ownsRow W.heap.size 28 1 v k (L.map prV)
  at_ : ∀ x ∈ L, W.heap.size ≤ x.1 ∧ x.1 < wi.heap.size ∧ v.ownBlock ≠ some x.1 ∧ wi.heap[x.1]? = some (rowO .u64 22 x.2)
theorem PrI.nil (W : World) (rs : List (List Int)) : PrI W rs (.slice none 0 0) 0 [] W := ⟨by simp, rfl, Below.refl _ _, World.ownsRow_nil _ _ _ _, fun x hx => by cases hx⟩
theorem PrI.later {W w w' : World} {rs : List (List Int)} {v : Value} {k : Nat} {L : List (Nat × List Int)} (h : PrI W rs v k L w) (hb : Below w.heap.size w w') : PrI W rs v k L w' :=
  ⟨h.rows, h.len, h.below.trans (hb.mono h.below.size), own_below h.own hb, fun x hx => by obtain ⟨a, b, c, d⟩ := h.at_ x hx; exact ⟨a, Nat.lt_of_lt_of_le b hb.size, c, (hb.block _ b).trans d⟩⟩
theorem PrI.step {W w1 w3 : World} {rs : List (List Int)} {v : Value} {k : Nat} {L : List (Nat × List Int)} {p g cap : Nat} {row : List Int} {o3 : Obj} (h : PrI W rs v k L w1) (hk : k < rs.length) (hrow : rs.getD k [] = row) (hpW : W.heap.size ≤ p) (hp : p < w1.heap.size) (hnp : v.ownBlock ≠ some p) (hx : w1.heap[p]? = some (rowO .u64 22 row))
    (hown : w3.ownsRow W.heap.size 28 1 (.slice (some ⟨g, 0, none⟩) (k + 1) cap) (k + 1) (L.map prV ++ [prV (p, row)])) (hgrow : (w1.alloc o3).grownBy w3 v.ownBlock) (hat : v.ownBlock = some g ∨ g = w1.heap.size + 1) :
    PrI W rs (.slice (some ⟨g, 0, none⟩) (k + 1) cap) (k + 1) (L ++ [(p, row)]) w3 := by
  have hs1 : (w1.alloc o3).heap.size = w1.heap.size + 1 := by simp
  have hs3 := hgrow.size
  have keep : ∀ b, b < w1.heap.size → v.ownBlock ≠ some b → w3.heap[b]? = w1.heap[b]? := fun b hb hne => by
    rw [hgrow.block b (by omega) (fun e => hne e.symm), Below.heap_alloc _ _ _ hb]
  refine ⟨?_, by rw [List.length_append, h.len]; rfl, below_grown (h.below.alloc h.below.size _) hgrow (fun g hg => (own_lt h.own hg).1), ?_, fun x hxm => ?_⟩
  · rw [List.map_append, h.rows, List.take_add_one, List.getElem?_eq_getElem hk]
    rw [List.getD_eq_getElem?_getD, List.getElem?_eq_getElem hk] at hrow
    rw [← hrow]
    rfl
  · rw [List.map_append]
    exact hown
  · have hg : (Value.slice (some ⟨g, 0, none⟩) (k + 1) cap).ownBlock = some g := rfl
    rw [hg]
    rcases List.mem_append.1 hxm with hxl | hxl
    · obtain ⟨a, b, c, d⟩ := h.at_ x hxl
      refine ⟨a, by omega, fun e => ?_, (keep _ b c).trans d⟩
      injection e with e
      rcases hat with hat | hat
      · exact c (by rw [hat, e])
      · omega
    · rw [List.mem_singleton.1 hxl]
      refine ⟨hpW, by omega, fun e => ?_, (keep _ hp hnp).trans hx⟩
      injection e with e
      rcases hat with hat | hat
      · exact hnp (by rw [hat, e])
      · omega
theorem PrI.slice {W wi : World} {rs : List (List Int)} {v : Value} {L : List (Nat × List Int)} (h : PrI W rs v rs.length L wi) :
    ∃ A cap, v = .slice A rs.length cap ∧ rs.length ≤ cap ∧ RowR (fun b => W.heap.size ≤ b ∧ b < wi.heap.size) wi A rs := by
  have hL : L.map (·.2) = rs := by rw [h.rows, List.take_length]
  have hlen := h.len
  rcases h.own.2 with ⟨hv, h0⟩ | ⟨g, cap, cur, hv, hb, hg, hc1, hc2, hc3, hc4⟩
  · exact ⟨none, 0, by rw [hv, h0], by omega, fun hp => by omega⟩
  · refine ⟨some ⟨g, 0, none⟩, cap, hv, hc1, fun _ => ⟨⟨g, 0, none⟩, rfl, ⟨hb, blk_lt hg⟩, fun i hi => ?_⟩⟩
    have hx : (L.map prV)[i]? = some (prV (L[i]'(by omega))) := by rw [List.getElem?_map, List.getElem?_eq_getElem (by omega)]; rfl
    rw [← hc4, List.getElem?_take, if_pos (by omega)] at hx
    have e : (⟨g, 0, none⟩ : Addr).add i = ⟨g, i, none⟩ := by unfold Addr.add; split <;> simp_all
    have hr : (L.map (·.2)).getD i [] = (L[i]'(by omega)).2 := by
      rw [List.getD_eq_getElem?_getD, List.getElem?_map, List.getElem?_eq_getElem (by omega)]
      rfl
    rw [hL] at hr
    obtain ⟨q1, q2, q3, q4⟩ := h.at_ _ (List.getElem_mem (show i < L.length by omega))
    rw [e, hr]
    exact ⟨_, _, Nat.le_refl _, (blk_cell hg _).trans (by simpa [prV] using hx), (rowO_row q4).mono (fun b hb => by rw [hb]; exact ⟨q1, q2⟩)⟩
structure Cpy (w w' : World) (im : Im) (s' : Sl) (m1 m4 : Nat) : Prop where
  A : s'.A = some ⟨m1, 0, none⟩
  D : s'.D = some ⟨m4, 0, none⟩
  ne : m1 ≠ m4
  n1 : w.heap.size ≤ m1 ∧ m1 < w'.heap.size
  n4 : w.heap.size ≤ m4 ∧ m4 < w'.heap.size
  mem : w'.heap[m1]? = some (rowO .u8 5 im.mem)
  heads : w'.heap[m4]? = some (rowO .u64 22 im.heads)
  pages : RowP (fun b => w.heap.size ≤ b ∧ b < w'.heap.size ∧ b ≠ m1 ∧ b ≠ m4) w' s'.B im.pages
  pairs : RowR (fun b => w.heap.size ≤ b ∧ b < w'.heap.size ∧ b ≠ m1 ∧ b ≠ m4) w' s'.C im.pairs
  parts : RowI (fun b => w.heap.size ≤ b ∧ b < w'.heap.size ∧ b ≠ m1 ∧ b ≠ m4) w' s'.E .i64 im.parts
  cmem : im.mem.length ≤ s'.a
  cpages : im.pages.length ≤ s'.b
  cpairs : im.pairs.length ≤ s'.c
  cheads : im.heads.length ≤ s'.d
  cparts : im.parts.length ≤ s'.e
  below : Below w.heap.size w w'
theorem Cpy.at_ {w w' : World} {im : Im} {s' : Sl} {m1 m4 : Nat} (h : Cpy w w' im s' m1 m4) (hw : im.Wf) : ImAt (fun b => w.heap.size ≤ b ∧ b < w'.heap.size) w' im s' :=
  ⟨by rw [h.A]; exact (rowO_row h.mem).mono (fun b hb => hb ▸ h.n1), h.pages.mono (fun b hb => ⟨hb.1, hb.2.1⟩), h.pairs.mono (fun b hb => ⟨hb.1, hb.2.1⟩), by rw [h.D]; exact (rowO_row h.heads).mono (fun b hb => hb ▸ h.n4), h.parts.mono (fun b hb => ⟨hb.1, hb.2.1⟩), h.cmem, h.cpages, h.cpairs, h.cheads, h.cparts, hw⟩
end Go.Proofs.Ytkgedpcipaogjaa.WB
end
section
namespace Go.Proofs.Ytkgedpcipaogjaa.WB
open Go Go.RowKit Go.Proofs.YtkgedpcipaogjaaW.PrintWords Go.Proofs.YtkgedpcipaogjaaW.PrintLast Go.Proofs.YtkgedpcipaogjaaW.PrintMore
set_option linter.unusedVariables false
set_option linter.unusedSimpArgs false
theorem rowO_set {w : World} {m : Nat} {kd : IntKind} {t : TypeId} {L : List Int} (h : w.heap[m]? = some (rowO kd t L)) (k : Nat) (x : Int) : (w.setCell ⟨m, k, none⟩ (.int kd x)).heap[m]? = some (rowO kd t (L.set k x)) := by
  unfold rowO at h ⊢
  refine blk_put h k _ ?_
  simp [List.map_set]
end Go.Proofs.Ytkgedpcipaogjaa.WB
end
section
namespace Go.Proofs.Ytkgedpcipaogjaa.WB
open Go Go.RowKit Go.Proofs.YtkgedpcipaogjaaW.PrintWords Go.Proofs.YtkgedpcipaogjaaW.PrintLast Go.Proofs.YtkgedpcipaogjaaW.PrintMore Go.Proofs.Ytkgedpcipaogjaa.PWalkChecks Go.Proofs.Ytkgedpcipaogjaa.Mem
set_option linter.unusedVariables false
set_option linter.unusedSimpArgs false
def knIm (lim : Int) (mem : List Int) (p q : Pg) (x : Int) (hs ts : List Int) : Im := { base := 65536, limit := lim, order := 1, regions := 1, mem := mem, pages := [p, q], pairs := [[x]], heads := hs, parts := ts }
structure Kn (n : Nat) (w : World) (s : Sl) (g1 gp g5 g6 gh g8 : Nat) (mem : List Int) (p q : Pg) (x : Int) (hs ts : List Int) : Prop where
  eA : s.A = some ⟨g1, 0, none⟩
  eB : s.B = some ⟨gp, 0, none⟩
  eC : s.C = some ⟨g6, 0, none⟩
  eD : s.D = some ⟨gh, 0, none⟩
  eE : s.E = some ⟨g8, 0, none⟩
  a : s.a = 8192
  b : s.b = 2
  c : s.c = 1
  d : s.d = hs.length
  e : s.e = 8
  n1 : Nw n w g1
  np : Nw n w gp
  n5 : Nw n w g5
  n6 : Nw n w g6
  nh : Nw n w gh
  n8 : Nw n w g8
  lm : mem.length = 8192
  lt : ts.length = 8
  h1 : w.heap[g1]? = some (rowO .u8 5 mem)
  hp : w.heap[gp]? = some (.cells (p.cells ++ q.cells).toArray 39 (0, 0))
  h5 : w.heap[g5]? = some (.cells #[.int .u64 x] 22 (0, 0))
  h6 : w.heap[g6]? = some (.cells #[.slice (some ⟨g5, 0, none⟩) 1 1] 28 (0, 0))
  hh : w.heap[gh]? = some (rowO .u64 22 hs)
  h8 : w.heap[g8]? = some (rowO .i64 3 ts)
theorem Kn.step {n : Nat} {w w' : World} {s : Sl} {g1 gp g5 g6 gh g8 : Nat} {mem : List Int} {p q : Pg} {x : Int} {hs ts : List Int} (h : Kn n w s g1 gp g5 g6 gh g8 mem p q x hs ts) (hz : w.heap.size ≤ w'.heap.size) (hk : ∀ b, Nw n w b → w'.heap[b]? = w.heap[b]?) : Kn n w' s g1 gp g5 g6 gh g8 mem p q x hs ts :=
  ⟨h.eA, h.eB, h.eC, h.eD, h.eE, h.a, h.b, h.c, h.d, h.e, Nw.mono hz _ h.n1, Nw.mono hz _ h.np, Nw.mono hz _ h.n5, Nw.mono hz _ h.n6, Nw.mono hz _ h.nh, Nw.mono hz _ h.n8, h.lm, h.lt, (hk _ h.n1).trans h.h1, (hk _ h.np).trans h.hp, (hk _ h.n5).trans h.h5, (hk _ h.n6).trans h.h6, (hk _ h.nh).trans h.hh, (hk _ h.n8).trans h.h8⟩
theorem Kn.low {n m : Nat} {w : World} {s : Sl} {g1 gp g5 g6 gh g8 : Nat} {mem : List Int} {p q : Pg} {x : Int} {hs ts : List Int} (h : Kn n w s g1 gp g5 g6 gh g8 mem p q x hs ts) (hm : m ≤ n) : Kn m w s g1 gp g5 g6 gh g8 mem p q x hs ts :=
  have lo : ∀ {b}, Nw n w b → Nw m w b := fun hb => ⟨Nat.le_trans hm hb.1, hb.2⟩
  ⟨h.eA, h.eB, h.eC, h.eD, h.eE, h.a, h.b, h.c, h.d, h.e, lo h.n1, lo h.np, lo h.n5, lo h.n6, lo h.nh, lo h.n8, h.lm, h.lt, h.h1, h.hp, h.h5, h.h6, h.hh, h.h8⟩
theorem Kn.at_ {n : Nat} {w : World} {s : Sl} {g1 gp g5 g6 gh g8 : Nat} {mem : List Int} {p q : Pg} {x : Int} {hs ts : List Int} (h : Kn n w s g1 gp g5 g6 gh g8 mem p q x hs ts) {lim : Int} (hw : (knIm lim mem p q x hs ts).Wf) : ImAt (Nw n w) w (knIm lim mem p q x hs ts) s := by
  refine ⟨?_, ?_, ?_, ?_, ?_, ?_, ?_, ?_, ?_, ?_, hw⟩
  · rw [h.eA]; exact (rowO_row h.h1).mono (fun b hb => hb ▸ h.n1)
  · rw [h.eB]; exact rowP_at h.hp rfl h.np
  · rw [h.eC]; exact rowR_at (l := [x]) (c := 1) h.h6 (Nat.le_refl 1) h.n6 (rowI_at (xs := [x]) h.h5 rfl h.n5)
  · rw [h.eD]; exact (rowO_row h.hh).mono (fun b hb => hb ▸ h.nh)
  · rw [h.eE]; exact (rowO_row h.h8).mono (fun b hb => hb ▸ h.n8)
  · rw [h.a]; exact Nat.le_of_eq h.lm
  · rw [h.b]; exact Nat.le_refl _
  · rw [h.c]; exact Nat.le_refl _
  · rw [h.d]; exact Nat.le_refl _
  · rw [h.e]; exact Nat.le_of_eq h.lt
theorem Kn.cells {n : Nat} {w : World} {s : Sl} {g1 gp g5 g6 gh g8 : Nat} {mem : List Int} {p q : Pg} {x : Int} {hs ts : List Int} (h : Kn n w s g1 gp g5 g6 gh g8 mem p q x hs ts) (lim : Int) : (knIm lim mem p q x hs ts).cells s = #[.int .u64 65536, .int .i64 lim, .int .i64 1, .int .i64 1, .slice (some ⟨g1, 0, none⟩) 8192 8192, .slice (some ⟨gp, 0, none⟩) 2 2, .slice (some ⟨g6, 0, none⟩) 1 1, .slice (some ⟨gh, 0, none⟩) hs.length hs.length, .slice (some ⟨g8, 0, none⟩) 8 8] := by
  show (#[.int .u64 65536, .int .i64 lim, .int .i64 1, .int .i64 1, .slice s.A mem.length s.a, .slice s.B 2 s.b, .slice s.C 1 s.c, .slice s.D hs.length s.d, .slice s.E ts.length s.e] : Array Value) = _
  rw [h.eA, h.eB, h.eC, h.eD, h.eE, h.a, h.b, h.c, h.d, h.e, h.lm, h.lt]
theorem zero_row : zeroO 8192 = rowO .u8 5 vMem := made_row .u8 _ 8192
def vyP (r0 : Nat) (k : Nat) (v : Value) (w : World) : Prop := match k with
  | 0 => v = .agg #[.int .u64 65536, .int .i64 2, .int .i64 1]
  | 1 => ∃ g, v = .slice (some ⟨g, 0, none⟩) 8192 8192 ∧ Nw (r0 + 3) w g ∧ w.heap[g]? = some (zeroO 8192)
  | 2 => v = .agg #[.int .i64 0, .int .i64 1, .int .i64 0, .int .i64 0, .int .i64 (-1), .int .i64 (-1), .int .i64 (-1), .int .u64 0, .int .u64 0, .int .u64 0, .int .u64 0]
  | 3 => v = .agg #[.int .i64 1, .int .i64 1, .int .i64 0, .int .i64 0, .int .i64 (-1), .int .i64 (-1), .int .i64 (-1), .int .u64 0, .int .u64 0, .int .u64 0, .int .u64 0]
  | 4 => ∃ g, v = .slice (some ⟨g, 0, none⟩) 2 2 ∧ Nw (r0 + 3) w g ∧ w.heap[g]? = some (.cells (vPg0.cells ++ vPg1.cells).toArray 39 (0, 0))
  | 5 => ∃ g, v = .slice (some ⟨g, 0, none⟩) 1 1 ∧ Nw (r0 + 3) w g ∧ w.heap[g]? = some (.cells #[.int .u64 0] 22 (0, 0))
  | 6 => ∃ g5 g, v = .slice (some ⟨g, 0, none⟩) 1 1 ∧ Nw (r0 + 3) w g5 ∧ Nw (r0 + 3) w g ∧ w.heap[g5]? = some (.cells #[.int .u64 0] 22 (0, 0)) ∧ w.heap[g]? = some (.cells #[.slice (some ⟨g5, 0, none⟩) 1 1] 28 (0, 0))
  | 7 => ∃ g, v = .slice (some ⟨g, 0, none⟩) 2 2 ∧ Nw (r0 + 3) w g ∧ w.heap[g]? = some (.cells #[.int .u64 0, .int .u64 65536] 22 (0, 0))
  | 8 => ∃ g, v = .slice (some ⟨g, 0, none⟩) 8 8 ∧ Nw (r0 + 3) w g ∧ w.heap[g]? = some (.cells #[.int .i64 (-1), .int .i64 (-1), .int .i64 (-1), .int .i64 (-1), .int .i64 (-1), .int .i64 (-1), .int .i64 (-1), .int .i64 (-1)] 3 (0, 0))
  | 9 => ∃ s : Sl, v = .agg (voidIm.cells s) ∧ ∃ g1 gp g5 g6 gh g8, Kn (r0 + 3) w s g1 gp g5 g6 gh g8 vMem vPg0 vPg1 0 [0, 65536] [-1, -1, -1, -1, -1, -1, -1, -1]
  | 10 => ∃ s : Sl, r0 + 3 ≤ w.heap.size ∧ w.heap[r0]? = some (.cells (voidIm.cells s) 31 (0, 0)) ∧ ∃ g1 gp g5 g6 gh g8, Kn (r0 + 3) w s g1 gp g5 g6 gh g8 vMem vPg0 vPg1 0 [0, 65536] [-1, -1, -1, -1, -1, -1, -1, -1]
  | _ => True
theorem vyP_step {r0 k : Nat} {v : Value} {w w' : World} (h : vyP r0 k v w) (hs : w.heap.size ≤ w'.heap.size) (hk : ∀ b, Nw (r0 + 3) w b → w'.heap[b]? = w.heap[b]?) (hr : k = 10 → w'.heap[r0]? = w.heap[r0]?) : vyP r0 k v w' := by
  match k with
  | 0 => exact h
  | 1 => obtain ⟨g, e, hn, hx⟩ := h; exact ⟨g, e, Nw.mono hs _ hn, (hk _ hn).trans hx⟩
  | 2 => exact h
  | 3 => exact h
  | 4 => obtain ⟨g, e, hn, hx⟩ := h; exact ⟨g, e, Nw.mono hs _ hn, (hk _ hn).trans hx⟩
  | 5 => obtain ⟨g, e, hn, hx⟩ := h; exact ⟨g, e, Nw.mono hs _ hn, (hk _ hn).trans hx⟩
  | 6 => obtain ⟨g5, g, e, hn5, hn, hx5, hx⟩ := h; exact ⟨g5, g, e, Nw.mono hs _ hn5, Nw.mono hs _ hn, (hk _ hn5).trans hx5, (hk _ hn).trans hx⟩
  | 7 => obtain ⟨g, e, hn, hx⟩ := h; exact ⟨g, e, Nw.mono hs _ hn, (hk _ hn).trans hx⟩
  | 8 => obtain ⟨g, e, hn, hx⟩ := h; exact ⟨g, e, Nw.mono hs _ hn, (hk _ hn).trans hx⟩
  | 9 => obtain ⟨s, e, g1, gp, g5, g6, gh, g8, hg⟩ := h; exact ⟨s, e, g1, gp, g5, g6, gh, g8, hg.step hs hk⟩
  | 10 => obtain ⟨s, e0, e, g1, gp, g5, g6, gh, g8, hg⟩ := h; exact ⟨s, by omega, (hr rfl).trans e, g1, gp, g5, g6, gh, g8, hg.step hs hk⟩
  | k + 11 => exact trivial
theorem vyP_alloc {r0 k : Nat} {v : Value} {w : World} (o : Obj) (h : vyP r0 k v w) : vyP r0 k v (w.alloc o) := by
  refine vyP_step h (by simp) (fun b hb => Below.heap_alloc w o b hb.2) (fun e => ?_)
  subst e
  obtain ⟨s, h1, h2, -⟩ := h
  exact Below.heap_alloc w o r0 (by omega)
set_option maxRecDepth 100000 in
set_option maxHeartbeats 1000000 in
theorem void_y (w : World) : Calls Try.prog 10 #[] w fun e w' => ∃ (s : Sl) (g1 gp g5 g6 gh g8 : Nat), e = .returned (.agg (voidIm.cells s)) ∧ Below w.heap.size w w' ∧ Kn w.heap.size w' s g1 gp g5 g6 gh g8 vMem vPg0 vPg1 0 [0, 65536] [-1, -1, -1, -1, -1, -1, -1, -1] := by
  have HMK : ∀ wx : World, (Instr.makeSlice 25 (.int .i64 8192) (.int .i64 8192)).run Try.prog wx = .ok (.slice (some ⟨wx.heap.size, 0, none⟩) 8192 8192) (wx.alloc (zeroO 8192)) := fun wx => makeB (n := 8192) (by decide) .i64 wx
  go_enter Try.func10, Try.ntmps10
  go_wp2
  refine grow_region (vdC w.heap.size w) (vyP w.heap.size) (by kernel_rfl) (by kernel_rfl) ?hC ?hstep ?hfin
  case hC =>
    refine ⟨rfl, ?_, ?_, ?_, by simp, _, blk_drew (blk_alloc (blk_alloc (blk_new w _) _) _), rfl⟩
    · have := blk_alloc (blk_new (w.alloc (.cells #[.int .u64 0, .int .i64 0, .int .i64 0, .int .i64 0, .slice none 0 0, .slice none 0 0, .slice none 0 0, .slice none 0 0, .slice none 0 0] 31 (0, 0))) (pageO vPg0)) (pageO vPg1)
      simp only [World.size_alloc] at this
      exact blk_drew this
    · have := blk_new ((w.alloc (.cells #[.int .u64 0, .int .i64 0, .int .i64 0, .int .i64 0, .slice none 0 0, .slice none 0 0, .slice none 0 0, .slice none 0 0, .slice none 0 0] 31 (0, 0))).alloc (pageO vPg0)) (pageO vPg1)
      simp only [World.size_alloc] at this
      exact blk_drew this
    · exact ((((Below.refl _ _).alloc (Nat.le_refl _) _).alloc (by simp) _).alloc (by simp; omega) _).drew
  case hfin =>
    intro a wx hag hcls hall
    have h0 := hag.rest 0 (no_slot (by kernel_rfl))
    have hdf := hag.defers
    obtain ⟨tm, df⟩ := a
    obtain ⟨x0, x1, x2, x3, x4, x5, x6, x7, x8, x9, x10, x11, x12, x13, x14, rfl⟩ := arr15 tm hag.size
    simp at h0 hdf
    subst h0 hdf
    obtain ⟨s, hsz, hr, g1, gp, g5, g6, gh, g8, hg⟩ : vyP w.heap.size 10 _ wx := hall 10 (by simp)
    have HG := Lib.hid hg
    clear hg
    have HB := Lib.hid hcls.below
    have HR := Lib.hid hr
    clear hag hall hcls
    unfold Im.cells at hr
    have z0 := blk_cell hr 0
    have z1 := blk_cell hr 1
    have z2 := blk_cell hr 2
    have z3 := blk_cell hr 3
    have z4 := blk_cell hr 4
    have z5 := blk_cell hr 5
    have z6 := blk_cell hr 6
    have z7 := blk_cell hr 7
    have z8 := blk_cell hr 8
    clear hr
    go_wp2
    refine bodyPost_ret (v := .agg (voidIm.cells s)) (by unfold Im.cells; simp [results, Try.results10, go_sem, z0, z1, z2, z3, z4, z5, z6, z7, z8]) rfl ⟨s, g1, gp, g5, g6, gh, g8, rfl, HB.out, HG.out.low (by omega)⟩
  case hstep =>
    intro i o ho a wx hag hcls hdeps
    have h0 := hag.rest 0 (no_slot (by kernel_rfl))
    have h1 := hag.rest 1 (no_slot (by kernel_rfl))
    have h2 := hag.rest 2 (no_slot (by kernel_rfl))
    obtain ⟨tm, df⟩ := a
    obtain ⟨x0, x1, x2, x3, x4, x5, x6, x7, x8, x9, x10, x11, x12, x13, x14, rfl⟩ := arr15 tm hag.size
    simp at h0 h1 h2
    subst h0 h1 h2
    clear hag
    generalize w.heap.size = r0 at *
    have HC := Lib.hid hcls
    obtain ⟨p0, p1, p2, p3, p4, p5, p6, p7, p8, p9, p10⟩ := page_var hcls.p0
    obtain ⟨q0, q1, q2, q3, q4, q5, q6, q7, q8, q9, q10⟩ := page_var hcls.p1
    clear hcls
    rcases i with _ | _ | _ | _ | _ | _ | _ | _ | _ | _ | _ | i
    · injection ho with ho
      subst ho
      refine ⟨by kernel_rfl, fun K hK => ?_⟩
      go_simp
      exact hK _ wx (fun h => nomatch h) rfl (fun k u hk h => h) HC.out
    · injection ho with ho
      subst ho
      refine ⟨by kernel_rfl, fun K hK => ?_⟩
      go_simp
      exact hK _ _ (fun h => nomatch h) ⟨_, rfl, ⟨HC.out.size, by simp⟩, blk_new _ _⟩ (fun k u hk h => vyP_alloc _ h) (HC.out.alloc _)
    · injection ho with ho
      subst ho
      refine ⟨by kernel_rfl, fun K hK => ?_⟩
      go_simp
      exact hK _ wx (fun h => nomatch h) rfl (fun k u hk h => h) HC.out
    · injection ho with ho
      subst ho
      refine ⟨by kernel_rfl, fun K hK => ?_⟩
      go_simp
      exact hK _ wx (fun h => nomatch h) rfl (fun k u hk h => h) HC.out
    · injection ho with ho
      subst ho
      have e7 : x7 = _ := hdeps ⟨2, .data⟩ (by simp) rfl
      subst e7
      have e8 : x8 = _ := hdeps ⟨3, .data⟩ (by simp) rfl
      subst e8
      refine ⟨by kernel_rfl, fun K hK => ?_⟩
      go_simp
      exact hK _ _ (fun h => nomatch h) ⟨_, rfl, ⟨HC.out.size, by simp⟩, blk_new _ _⟩ (fun k u hk h => vyP_alloc _ h) (HC.out.alloc _)
    · injection ho with ho
      subst ho
      refine ⟨by kernel_rfl, fun K hK => ?_⟩
      go_simp
      exact hK _ _ (fun h => nomatch h) ⟨_, rfl, ⟨HC.out.size, by simp⟩, blk_new _ _⟩ (fun k u hk h => vyP_alloc _ h) (HC.out.alloc _)
    · injection ho with ho
      subst ho
      obtain ⟨g5, e10, hn5, hx5⟩ : vyP r0 5 x10 wx := hdeps ⟨5, .data⟩ (by simp) rfl
      subst e10
      refine ⟨by kernel_rfl, fun K hK => ?_⟩
      go_simp
      exact hK _ _ (fun h => nomatch h) ⟨g5, _, rfl, ⟨hn5.1, by have := hn5.2; simp; omega⟩, ⟨HC.out.size, by simp⟩, blk_alloc hx5 _, blk_new _ _⟩ (fun k u hk h => vyP_alloc _ h) (HC.out.alloc _)
    · injection ho with ho
      subst ho
      refine ⟨by kernel_rfl, fun K hK => ?_⟩
      go_simp
      exact hK _ _ (fun h => nomatch h) ⟨_, rfl, ⟨HC.out.size, by simp⟩, blk_new _ _⟩ (fun k u hk h => vyP_alloc _ h) (HC.out.alloc _)
    · injection ho with ho
      subst ho
      refine ⟨by kernel_rfl, fun K hK => ?_⟩
      go_simp
      exact hK _ _ (fun h => nomatch h) ⟨_, rfl, ⟨HC.out.size, by simp⟩, blk_new _ _⟩ (fun k u hk h => vyP_alloc _ h) (HC.out.alloc _)
    · injection ho with ho
      subst ho
      have e5 : x5 = _ := hdeps ⟨0, .data⟩ (by simp) rfl
      subst e5
      obtain ⟨g1, e6, hn1, hx1⟩ : vyP r0 1 x6 wx := hdeps ⟨1, .data⟩ (by simp) rfl
      obtain ⟨gp, e9, hnp, hxp⟩ : vyP r0 4 x9 wx := hdeps ⟨4, .data⟩ (by simp) rfl
      obtain ⟨g5, g6, e11, hn5, hn6, hx5, hx6⟩ : vyP r0 6 x11 wx := hdeps ⟨6, .data⟩ (by simp) rfl
      obtain ⟨gh, e12, hnh, hxh⟩ : vyP r0 7 x12 wx := hdeps ⟨7, .data⟩ (by simp) rfl
      obtain ⟨g8, e13, hn8, hx8⟩ : vyP r0 8 x13 wx := hdeps ⟨8, .data⟩ (by simp) rfl
      subst e6 e9 e11 e12 e13
      refine ⟨by kernel_rfl, fun K hK => ?_⟩
      go_simp
      refine hK _ wx (fun h => nomatch h) ⟨⟨some ⟨g1, 0, none⟩, 8192, some ⟨gp, 0, none⟩, 2, some ⟨g6, 0, none⟩, 1, some ⟨gh, 0, none⟩, 2, some ⟨g8, 0, none⟩, 8⟩, ?_, g1, gp, g5, g6, gh, g8, rfl, rfl, rfl, rfl, rfl, rfl, rfl, rfl, rfl, rfl, hn1, hnp, hn5, hn6, hnh, hn8, vMem_len, rfl, by rw [← zero_row]; exact hx1, hxp, hx5, hx6, hxh, hx8⟩ (fun k u hk h => h) HC.out
      unfold Im.cells
      show _ = Value.agg #[.int .u64 65536, .int .i64 2, .int .i64 1, .int .i64 1, .slice (some ⟨g1, 0, none⟩) vMem.length 8192, .slice (some ⟨gp, 0, none⟩) 2 2, .slice (some ⟨g6, 0, none⟩) 1 1, .slice (some ⟨gh, 0, none⟩) 2 2, .slice (some ⟨g8, 0, none⟩) 8 8]
      rw [vMem_len]
    · injection ho with ho
      subst ho
      obtain ⟨s, e14, g1, gp, g5, g6, gh, g8, hg⟩ : vyP r0 9 x14 wx := hdeps ⟨9, .data⟩ (by simp) rfl
      have HG := Lib.hid hg
      clear hg
      subst e14
      obtain ⟨cs, hr1, hr2⟩ := HC.out.res
      obtain ⟨y0, y1, y2, y3, y4, y5, y6, y7, y8, rfl⟩ := arr9 cs hr2
      have HR := Lib.hid hr1
      have z0 := blk_cell hr1 0
      have z1 := blk_cell hr1 1
      have z2 := blk_cell hr1 2
      have z3 := blk_cell hr1 3
      have z4 := blk_cell hr1 4
      have z5 := blk_cell hr1 5
      have z6 := blk_cell hr1 6
      have z7 := blk_cell hr1 7
      have z8 := blk_cell hr1 8
      have f0 := blk_frozen hr1 0
      have f1 := blk_frozen hr1 1
      have f2 := blk_frozen hr1 2
      have f3 := blk_frozen hr1 3
      have f4 := blk_frozen hr1 4
      have f5 := blk_frozen hr1 5
      have f6 := blk_frozen hr1 6
      have f7 := blk_frozen hr1 7
      have f8 := blk_frozen hr1 8
      clear hr1 hr2
      unfold Im.cells
      refine ⟨by kernel_rfl, fun K hK => ?_⟩
      go_simp
      obtain ⟨k1, k2, k3, k4⟩ := set9 HR.out (Value.int IntKind.u64 voidIm.base) (Value.int IntKind.i64 voidIm.limit) (Value.int IntKind.i64 voidIm.order) (Value.int IntKind.i64 voidIm.regions) (Value.slice s.A voidIm.mem.length s.a) (Value.slice s.B voidIm.pages.length s.b) (Value.slice s.C voidIm.pairs.length s.c) (Value.slice s.D voidIm.heads.length s.d) (Value.slice s.E voidIm.parts.length s.e)
      have hsz := HC.out.size
      have hw0 := HC.out.r
      refine hK undef _ (fun _ => rfl) ⟨s, by rw [k3]; exact hsz, k1, g1, gp, g5, g6, gh, g8, HG.out.step (by rw [k3]; exact Nat.le_refl _) (fun b hb => k2 b (by have := hb.1; omega))⟩ (fun k u hk h => vyP_step h (by rw [k3]; exact Nat.le_refl _) (fun b hb => k2 b (by have := hb.1; omega)) (fun e => absurd e hk)) ?_
      exact ⟨hw0, (k2 _ (by omega)).trans HC.out.p0, (k2 _ (by omega)).trans HC.out.p1, k4 _ _ (by omega) HC.out.below, by rw [k3]; exact hsz, _, k1, rfl⟩
    · cases ho
set_option maxRecDepth 100000 in
set_option maxHeartbeats 1000000 in
theorem slabbed_y (w : World) : Calls Try.prog 15 #[] w fun e w' => ∃ (s : Sl) (g1 gp g5 g6 gh g8 : Nat), e = .returned (.agg (slabIm.cells s)) ∧ Below w.heap.size w w' ∧ Kn w.heap.size w' s g1 gp g5 g6 gh g8 vMem sPg0 sPg1 0 [0, 0] [-1, -1, -1, -1, -1, -1, -1, 0] := by
  have HVO := Lib.hid (fun wx => (void_c wx))
  go_enter Try.func15, Try.ntmps15
  go_upto_region 3 with (go_at_call 10; refine (HVO.out _).mono ?_; rintro e w1 ⟨s, rfl, him, hb, g1, g5, g6, g8, hg⟩; rw [void_cells, hg.eA, hg.eC, hg.eE, hg.a, hg.c, hg.e]; have HG := Lib.hid hg; have HB := Lib.hid hb; have HIM := Lib.hid him; clear hg hb him)
  have hq1 : g8 < w1.heap.size := HG.out.n8.2
  obtain ⟨q, hq⟩ : ∃ q, w1.heap.size = q := ⟨_, rfl⟩
  rw [hq] at hq1
  obtain ⟨W2, hW2⟩ : ∃ W, (w1.alloc (.cells #[.int .u64 65536, .int .i64 2, .int .i64 1, .int .i64 1, .slice (some ⟨g1, 0, none⟩) 8192 8192, .slice s.B 2 s.b, .slice (some ⟨g6, 0, none⟩) 1 1, .slice s.D 2 s.d, .slice (some ⟨g8, 0, none⟩) 8 8] 31)).alloc (.cells #[.int .i64 4, .int .i64 0, .int .i64 7, .int .i64 1, .int .i64 (-1), .int .i64 (-1), .int .i64 0, .int .u64 0, .int .u64 0, .int .u64 0, .int .u64 0] 39) = W := ⟨_, rfl⟩
  have v2 : W2.heap[q]? = some (.cells #[.int .u64 65536, .int .i64 2, .int .i64 1, .int .i64 1, .slice (some ⟨g1, 0, none⟩) 8192 8192, .slice s.B 2 s.b, .slice (some ⟨g6, 0, none⟩) 1 1, .slice s.D 2 s.d, .slice (some ⟨g8, 0, none⟩) 8 8] 31 (0, 0)) := by rw [← hW2, ← hq]; exact blk_alloc (blk_new _ _) _
  have p2 : W2.heap[q + 1]? = some (.cells #[.int .i64 4, .int .i64 0, .int .i64 7, .int .i64 1, .int .i64 (-1), .int .i64 (-1), .int .i64 0, .int .u64 0, .int .u64 0, .int .u64 0, .int .u64 0] 39 (0, 0)) := by
    have := blk_new (w1.alloc (.cells #[.int .u64 65536, .int .i64 2, .int .i64 1, .int .i64 1, .slice (some ⟨g1, 0, none⟩) 8192 8192, .slice s.B 2 s.b, .slice (some ⟨g6, 0, none⟩) 1 1, .slice s.D 2 s.d, .slice (some ⟨g8, 0, none⟩) 8 8] 31)) (.cells #[.int .i64 4, .int .i64 0, .int .i64 7, .int .i64 1, .int .i64 (-1), .int .i64 (-1), .int .i64 0, .int .u64 0, .int .u64 0, .int .u64 0, .int .u64 0] 39 (0, 0))
    simp only [World.size_alloc] at this
    rw [← hW2, ← hq]; exact this
  have s2 : W2.heap.size = q + 2 := by rw [← hW2]; simp; omega
  have k2 : ∀ b, b < q → W2.heap[b]? = w1.heap[b]? := fun b hb => by rw [← hW2, Below.heap_alloc _ _ _ (by simp; omega), Below.heap_alloc _ _ _ (by omega)]
  have b2 : Below w1.heap.size w1 W2 := by rw [← hW2]; exact ((Below.refl _ _).alloc (Nat.le_refl _) _).alloc (by simp) _
  obtain ⟨W3, hW3⟩ : ∃ W, W2.setCell ⟨q + 1, 7, none⟩ (.int .u64 2) = W := ⟨_, rfl⟩
  have v3 : W3.heap[q]? = some (.cells #[.int .u64 65536, .int .i64 2, .int .i64 1, .int .i64 1, .slice (some ⟨g1, 0, none⟩) 8192 8192, .slice s.B 2 s.b, .slice (some ⟨g6, 0, none⟩) 1 1, .slice s.D 2 s.d, .slice (some ⟨g8, 0, none⟩) 8 8] 31 (0, 0)) := by rw [← hW3, Below.heap_setCell _ _ _ _ (show q ≠ q + 1 by omega)]; exact v2
  have p3 : W3.heap[q + 1]? = some (.cells #[.int .i64 4, .int .i64 0, .int .i64 7, .int .i64 1, .int .i64 (-1), .int .i64 (-1), .int .i64 0, .int .u64 2, .int .u64 0, .int .u64 0, .int .u64 0] 39 (0, 0)) := by rw [← hW3]; exact blk_put p2 7 _ rfl
  have s3 : W3.heap.size = q + 2 := by rw [← hW3, ← s2]; simp [World.setCell]
  have k3 : ∀ b, b < q → W3.heap[b]? = w1.heap[b]? := fun b hb => by rw [← hW3, Below.heap_setCell _ _ _ _ (show b ≠ q + 1 by omega)]; exact k2 b hb
  have b3 : Below w1.heap.size w1 W3 := by rw [← hW3]; exact b2.setCell (by show w1.heap.size ≤ q + 1; omega) _
  obtain ⟨W4, hW4⟩ : ∃ W, W3.alloc (.cells #[.int .i64 4, .int .i64 0, .int .i64 7, .int .i64 1, .int .i64 (-1), .int .i64 (-1), .int .i64 0, .int .u64 2, .int .u64 0, .int .u64 0, .int .u64 0, .int .i64 2, .int .i64 0, .int .i64 0, .int .i64 0, .int .i64 (-1), .int .i64 (-1), .int .i64 (-1), .int .u64 0, .int .u64 0, .int .u64 0, .int .u64 0] 39) = W := ⟨_, rfl⟩
  have v4 : W4.heap[q]? = some (.cells #[.int .u64 65536, .int .i64 2, .int .i64 1, .int .i64 1, .slice (some ⟨g1, 0, none⟩) 8192 8192, .slice s.B 2 s.b, .slice (some ⟨g6, 0, none⟩) 1 1, .slice s.D 2 s.d, .slice (some ⟨g8, 0, none⟩) 8 8] 31 (0, 0)) := by rw [← hW4]; exact blk_alloc v3 _
  have l4 : W4.heap[W3.heap.size]? = some (.cells #[.int .i64 4, .int .i64 0, .int .i64 7, .int .i64 1, .int .i64 (-1), .int .i64 (-1), .int .i64 0, .int .u64 2, .int .u64 0, .int .u64 0, .int .u64 0, .int .i64 2, .int .i64 0, .int .i64 0, .int .i64 0, .int .i64 (-1), .int .i64 (-1), .int .i64 (-1), .int .u64 0, .int .u64 0, .int .u64 0, .int .u64 0] 39 (0, 0)) := by rw [← hW4]; exact blk_new _ _
  have s4 : W4.heap.size = q + 3 := by rw [← hW4]; simp [s3]
  have k4 : ∀ b, b < q → W4.heap[b]? = w1.heap[b]? := fun b hb => by rw [← hW4, Below.heap_alloc _ _ _ (by omega)]; exact k3 b hb
  have b4 : Below w1.heap.size w1 W4 := by rw [← hW4]; exact b3.alloc b3.size _
  obtain ⟨W5, hW5⟩ : ∃ W, W4.setCell ⟨q, 5, none⟩ (.slice (some ⟨W3.heap.size, 0, none⟩) 2 2) = W := ⟨_, rfl⟩
  have v5 : W5.heap[q]? = some (.cells #[.int .u64 65536, .int .i64 2, .int .i64 1, .int .i64 1, .slice (some ⟨g1, 0, none⟩) 8192 8192, .slice (some ⟨W3.heap.size, 0, none⟩) 2 2, .slice (some ⟨g6, 0, none⟩) 1 1, .slice s.D 2 s.d, .slice (some ⟨g8, 0, none⟩) 8 8] 31 (0, 0)) := by rw [← hW5]; exact blk_put v4 5 _ rfl
  have l5 : W5.heap[W3.heap.size]? = some (.cells #[.int .i64 4, .int .i64 0, .int .i64 7, .int .i64 1, .int .i64 (-1), .int .i64 (-1), .int .i64 0, .int .u64 2, .int .u64 0, .int .u64 0, .int .u64 0, .int .i64 2, .int .i64 0, .int .i64 0, .int .i64 0, .int .i64 (-1), .int .i64 (-1), .int .i64 (-1), .int .u64 0, .int .u64 0, .int .u64 0, .int .u64 0] 39 (0, 0)) := by rw [← hW5, Below.heap_setCell _ _ _ _ (show W3.heap.size ≠ q by omega)]; exact l4
  have s5 : W5.heap.size = q + 3 := by rw [← hW5, ← s4]; simp [World.setCell]
  have k5 : ∀ b, b < q → W5.heap[b]? = w1.heap[b]? := fun b hb => by rw [← hW5, Below.heap_setCell _ _ _ _ (show b ≠ q by omega)]; exact k4 b hb
  have b5 : Below w1.heap.size w1 W5 := by rw [← hW5]; exact b4.setCell (by show w1.heap.size ≤ q; omega) _
  obtain ⟨W6, hW6⟩ : ∃ W, W5.alloc (.cells #[.int .u64 0, .int .u64 0] 22) = W := ⟨_, rfl⟩
  have v6 : W6.heap[q]? = some (.cells #[.int .u64 65536, .int .i64 2, .int .i64 1, .int .i64 1, .slice (some ⟨g1, 0, none⟩) 8192 8192, .slice (some ⟨W3.heap.size, 0, none⟩) 2 2, .slice (some ⟨g6, 0, none⟩) 1 1, .slice s.D 2 s.d, .slice (some ⟨g8, 0, none⟩) 8 8] 31 (0, 0)) := by rw [← hW6]; exact blk_alloc v5 _
  have l6 : W6.heap[W3.heap.size]? = some (.cells #[.int .i64 4, .int .i64 0, .int .i64 7, .int .i64 1, .int .i64 (-1), .int .i64 (-1), .int .i64 0, .int .u64 2, .int .u64 0, .int .u64 0, .int .u64 0, .int .i64 2, .int .i64 0, .int .i64 0, .int .i64 0, .int .i64 (-1), .int .i64 (-1), .int .i64 (-1), .int .u64 0, .int .u64 0, .int .u64 0, .int .u64 0] 39 (0, 0)) := by rw [← hW6]; exact blk_alloc l5 _
  have m6 : W6.heap[W5.heap.size]? = some (.cells #[.int .u64 0, .int .u64 0] 22 (0, 0)) := by rw [← hW6]; exact blk_new _ _
  have s6 : W6.heap.size = q + 4 := by rw [← hW6]; simp [s5]
  have k6 : ∀ b, b < q → W6.heap[b]? = w1.heap[b]? := fun b hb => by rw [← hW6, Below.heap_alloc _ _ _ (by omega)]; exact k5 b hb
  have b6 : Below w1.heap.size w1 W6 := by rw [← hW6]; exact b5.alloc b5.size _
  obtain ⟨W7, hW7⟩ : ∃ W, W6.setCell ⟨q, 7, none⟩ (.slice (some ⟨W5.heap.size, 0, none⟩) 2 2) = W := ⟨_, rfl⟩
  have v7 : W7.heap[q]? = some (.cells #[.int .u64 65536, .int .i64 2, .int .i64 1, .int .i64 1, .slice (some ⟨g1, 0, none⟩) 8192 8192, .slice (some ⟨W3.heap.size, 0, none⟩) 2 2, .slice (some ⟨g6, 0, none⟩) 1 1, .slice (some ⟨W5.heap.size, 0, none⟩) 2 2, .slice (some ⟨g8, 0, none⟩) 8 8] 31 (0, 0)) := by rw [← hW7]; exact blk_put v6 7 _ rfl
  have l7 : W7.heap[W3.heap.size]? = some (.cells #[.int .i64 4, .int .i64 0, .int .i64 7, .int .i64 1, .int .i64 (-1), .int .i64 (-1), .int .i64 0, .int .u64 2, .int .u64 0, .int .u64 0, .int .u64 0, .int .i64 2, .int .i64 0, .int .i64 0, .int .i64 0, .int .i64 (-1), .int .i64 (-1), .int .i64 (-1), .int .u64 0, .int .u64 0, .int .u64 0, .int .u64 0] 39 (0, 0)) := by rw [← hW7, Below.heap_setCell _ _ _ _ (show W3.heap.size ≠ q by omega)]; exact l6
  have m7 : W7.heap[W5.heap.size]? = some (.cells #[.int .u64 0, .int .u64 0] 22 (0, 0)) := by rw [← hW7, Below.heap_setCell _ _ _ _ (show W5.heap.size ≠ q by omega)]; exact m6
  have s7 : W7.heap.size = q + 4 := by rw [← hW7, ← s6]; simp [World.setCell]
  have k7 : ∀ b, b < q → W7.heap[b]? = w1.heap[b]? := fun b hb => by rw [← hW7, Below.heap_setCell _ _ _ _ (show b ≠ q by omega)]; exact k6 b hb
  have b7 : Below w1.heap.size w1 W7 := by rw [← hW7]; exact b6.setCell (by show w1.heap.size ≤ q; omega) _
  have e7 : W7.heap[g8]? = some (.cells #[.int .i64 (-1), .int .i64 (-1), .int .i64 (-1), .int .i64 (-1), .int .i64 (-1), .int .i64 (-1), .int .i64 (-1), .int .i64 (-1)] 3 (0, 0)) := (k7 g8 hq1).trans HG.out.h8
  obtain ⟨W8, hW8⟩ : ∃ W, W7.setCell ⟨g8, 7, none⟩ (.int .i64 0) = W := ⟨_, rfl⟩
  have v8 : W8.heap[q]? = some (.cells #[.int .u64 65536, .int .i64 2, .int .i64 1, .int .i64 1, .slice (some ⟨g1, 0, none⟩) 8192 8192, .slice (some ⟨W3.heap.size, 0, none⟩) 2 2, .slice (some ⟨g6, 0, none⟩) 1 1, .slice (some ⟨W5.heap.size, 0, none⟩) 2 2, .slice (some ⟨g8, 0, none⟩) 8 8] 31 (0, 0)) := by rw [← hW8, Below.heap_setCell _ _ _ _ (show q ≠ g8 by omega)]; exact v7
  have l8 : W8.heap[W3.heap.size]? = some (.cells #[.int .i64 4, .int .i64 0, .int .i64 7, .int .i64 1, .int .i64 (-1), .int .i64 (-1), .int .i64 0, .int .u64 2, .int .u64 0, .int .u64 0, .int .u64 0, .int .i64 2, .int .i64 0, .int .i64 0, .int .i64 0, .int .i64 (-1), .int .i64 (-1), .int .i64 (-1), .int .u64 0, .int .u64 0, .int .u64 0, .int .u64 0] 39 (0, 0)) := by rw [← hW8, Below.heap_setCell _ _ _ _ (show W3.heap.size ≠ g8 by omega)]; exact l7
  have m8 : W8.heap[W5.heap.size]? = some (.cells #[.int .u64 0, .int .u64 0] 22 (0, 0)) := by rw [← hW8, Below.heap_setCell _ _ _ _ (show W5.heap.size ≠ g8 by omega)]; exact m7
  have e8 : W8.heap[g8]? = some (.cells #[.int .i64 (-1), .int .i64 (-1), .int .i64 (-1), .int .i64 (-1), .int .i64 (-1), .int .i64 (-1), .int .i64 (-1), .int .i64 0] 3 (0, 0)) := by rw [← hW8]; exact blk_put e7 7 _ rfl
  have s8 : W8.heap.size = q + 4 := by rw [← hW8, ← s7]; simp [World.setCell]
  have k8 : ∀ b, b < q → b ≠ g8 → W8.heap[b]? = w1.heap[b]? := fun b hb hne => by rw [← hW8, Below.heap_setCell _ _ _ _ hne]; exact k7 b hb
  have b8 : Below w.heap.size w1 W8 := by
    rw [← hW8]
    exact (b7.mono (by have := HB.out.size; simp at this; omega)).setCell (by show w.heap.size ≤ g8; have := HG.out.n8.1; simp at this; omega) _
  have HH := Lib.hid (And.intro v8 (And.intro l8 (And.intro m8 (And.intro e8 (And.intro s8 (And.intro k8 (And.intro b8 (And.intro s3 (And.intro s5 hq1)))))))))
  have V7 := Lib.hid v7
  have V6 := Lib.hid v6
  have V4 := Lib.hid v4
  have P3 := Lib.hid p3
  have E7 := Lib.hid e7
  have c2 := blk_cell p2 7
  have f2 := blk_frozen p2 7
  clear v2 p2 s2 k2 b2 v3 p3 s3 k3 b3 v4 l4 s4 k4 b4 v5 l5 s5 k5 b5 v6 l6 m6 s6 k6 b6 v7 l7 m7 s7 k7 b7 e7 v8 l8 m8 e8 s8 k8 b8
  go_upto_region 4 with (fail)
  clear c2 f2 hW2
  have p0 := blk_cell P3.out 0
  have p1 := blk_cell P3.out 1
  have p2 := blk_cell P3.out 2
  have p3 := blk_cell P3.out 3
  have p4 := blk_cell P3.out 4
  have p5 := blk_cell P3.out 5
  have p6 := blk_cell P3.out 6
  have p7 := blk_cell P3.out 7
  have p8 := blk_cell P3.out 8
  have p9 := blk_cell P3.out 9
  have p10 := blk_cell P3.out 10
  have c4 := blk_cell V4.out 5
  have f4 := blk_frozen V4.out 5
  go_upto_region 5 with (fail)
  clear p0 p1 p2 p3 p4 p5 p6 p7 p8 p9 p10 c4 f4 hW3 hW4
  have c6 := blk_cell V6.out 7
  have f6 := blk_frozen V6.out 7
  go_upto_region 6 with (fail)
  clear c6 f6 hW5 hW6
  have c7 := blk_cell V7.out 8
  have d7 := blk_cell E7.out 7
  have f7 := blk_frozen E7.out 7
  go_upto_region 7 with (fail)
  clear c7 d7 f7 hW7
  have HR := Lib.hid (show W8.heap[w.heap.size]? = some (.cells #[.int .u64 0, .int .i64 0, .int .i64 0, .int .i64 0, .slice none 0 0, .slice none 0 0, .slice none 0 0, .slice none 0 0, .slice none 0 0] 31 (0, 0)) from by
    obtain ⟨-, -, -, -, -, k8, -, -, -, hq1⟩ := HH.out
    have h1 : w1.heap[w.heap.size]? = some (.cells #[.int .u64 0, .int .i64 0, .int .i64 0, .int .i64 0, .slice none 0 0, .slice none 0 0, .slice none 0 0, .slice none 0 0, .slice none 0 0] 31 (0, 0)) := (HB.out.block w.heap.size (by simp)).trans (blk_new w _)
    have h2 := HG.out.n8.1
    simp at h2
    have h3 := blk_lt h1
    exact (k8 _ (by omega) (by omega)).trans h1)
  have v8 := HH.out.1
  have c0 := blk_cell v8 0
  have c1 := blk_cell v8 1
  have c2 := blk_cell v8 2
  have c3 := blk_cell v8 3
  have c4 := blk_cell v8 4
  have c5 := blk_cell v8 5
  have c6 := blk_cell v8 6
  have c7 := blk_cell v8 7
  have c8 := blk_cell v8 8
  have z0 := blk_cell HR.out 0
  have z1 := blk_cell HR.out 1
  have z2 := blk_cell HR.out 2
  have z3 := blk_cell HR.out 3
  have z4 := blk_cell HR.out 4
  have z5 := blk_cell HR.out 5
  have z6 := blk_cell HR.out 6
  have z7 := blk_cell HR.out 7
  have z8 := blk_cell HR.out 8
  have f0 := blk_frozen HR.out 0
  have f1 := blk_frozen HR.out 1
  have f2 := blk_frozen HR.out 2
  have f3 := blk_frozen HR.out 3
  have f4 := blk_frozen HR.out 4
  have f5 := blk_frozen HR.out 5
  have f6 := blk_frozen HR.out 6
  have f7 := blk_frozen HR.out 7
  have f8 := blk_frozen HR.out 8
  clear v8
  go_wp2
  obtain ⟨j1, j2, j3, j4⟩ := set9 HR.out (.int .u64 65536) (.int .i64 2) (.int .i64 1) (.int .i64 1) (.slice (some ⟨g1, 0, none⟩) 8192 8192) (.slice (some ⟨W3.heap.size, 0, none⟩) 2 2) (.slice (some ⟨g6, 0, none⟩) 1 1) (.slice (some ⟨W5.heap.size, 0, none⟩) 2 2) (.slice (some ⟨g8, 0, none⟩) 8 8)
  obtain ⟨-, l8, m8, e8, s8, k8, b8, s3, s5, hq1⟩ := HH.out
  have J2 := Lib.hid j2
  have J3 := Lib.hid j3
  have J4 := Lib.hid j4
  have L8 := Lib.hid l8
  have M8 := Lib.hid m8
  have E8 := Lib.hid e8
  have S8 := Lib.hid s8
  have K8 := Lib.hid k8
  have B8 := Lib.hid b8
  have S3 := Lib.hid s3
  have S5 := Lib.hid s5
  clear j2 j3 j4 l8 m8 e8 s8 k8 b8 s3 s5
  have y0 := blk_cell j1 0
  have y1 := blk_cell j1 1
  have y2 := blk_cell j1 2
  have y3 := blk_cell j1 3
  have y4 := blk_cell j1 4
  have y5 := blk_cell j1 5
  have y6 := blk_cell j1 6
  have y7 := blk_cell j1 7
  have y8 := blk_cell j1 8
  clear j1
  refine bodyPost_ret (v := .agg (slabIm.cells ⟨some ⟨g1, 0, none⟩, 8192, some ⟨W3.heap.size, 0, none⟩, 2, some ⟨g6, 0, none⟩, 1, some ⟨W5.heap.size, 0, none⟩, 2, some ⟨g8, 0, none⟩, 8⟩)) (by rw [slab_cells]; simp [results, Try.results15, go_sem, y0, y1, y2, y3, y4, y5, y6, y7, y8]) rfl ?_
  have hb1 := HG.out.n1
  have hb5 := HG.out.n5
  have hb6 := HG.out.n6
  have hb8 := HG.out.n8
  have hz : (w.alloc (.cells #[.int .u64 0, .int .i64 0, .int .i64 0, .int .i64 0, .slice none 0 0, .slice none 0 0, .slice none 0 0, .slice none 0 0, .slice none 0 0] 31 (0, 0))).heap.size = w.heap.size + 1 := by simp
  unfold Nw at hb1 hb5 hb6 hb8
  rw [hz] at hb1 hb5 hb6 hb8
  have ne1 : g1 ≠ g8 := blk_ne HG.out.h1 HG.out.h8 (by decide)
  have ne5 : g5 ≠ g8 := blk_ne HG.out.h5 HG.out.h8 (by decide)
  have ne6 : g6 ≠ g8 := blk_ne HG.out.h6 HG.out.h8 (by decide)
  have s3 := S3.out
  have s5 := S5.out
  have s8 := S8.out
  have hq := hq
  refine ⟨⟨some ⟨g1, 0, none⟩, 8192, some ⟨W3.heap.size, 0, none⟩, 2, some ⟨g6, 0, none⟩, 1, some ⟨W5.heap.size, 0, none⟩, 2, some ⟨g8, 0, none⟩, 8⟩, g1, W3.heap.size, g5, g6, W5.heap.size, g8, rfl, ?_, rfl, rfl, rfl, rfl, rfl, rfl, rfl, rfl, rfl, rfl, ⟨by omega, by rw [J3.out]; omega⟩, ⟨by omega, by rw [J3.out]; omega⟩, ⟨by omega, by rw [J3.out]; omega⟩, ⟨by omega, by rw [J3.out]; omega⟩, ⟨by omega, by rw [J3.out]; omega⟩, ⟨by omega, by rw [J3.out]; omega⟩, vMem_len, rfl, ?_, (J2.out _ (by omega)).trans L8.out, (J2.out g5 (by omega)).trans ((K8.out g5 (by omega) ne5).trans HG.out.h5), (J2.out g6 (by omega)).trans ((K8.out g6 (by omega) ne6).trans HG.out.h6), (J2.out _ (by omega)).trans M8.out, (J2.out g8 (by omega)).trans E8.out⟩
  · exact J4.out _ _ (Nat.le_refl _) ((((Below.refl _ w).alloc (Nat.le_refl _) _).trans (HB.out.mono (by simp))).trans B8.out)
  · rw [← zero_row]
    exact (J2.out g1 (by omega)).trans ((K8.out g1 (by omega) ne1).trans HG.out.h1)
end Go.Proofs.Ytkgedpcipaogjaa.WB
end
section
namespace Go.Proofs.Ytkgedpcipaogjaa.WB
open Go Go.RowKit Go.Proofs.YtkgedpcipaogjaaW.PrintWords Go.Proofs.YtkgedpcipaogjaaW.PrintLast Go.Proofs.YtkgedpcipaogjaaW.PrintMore Go.Proofs.Ytkgedpcipaogjaa.Mem
set_option linter.unusedVariables false
set_option linter.unusedSimpArgs false
set_option maxRecDepth 100000 in
theorem fld_cfg (w : World) (c0 c1 c2 c3 c4 c5 c6 c7 c8 : Value) : (Instr.field 31 (.agg #[c0, c1, c2, c3, c4, c5, c6, c7, c8]) 0).run Try.prog w = .ok (.agg #[c0, c1, c2]) w := by
  have hu := Try.underlying24
  have hz : (sizeOf 24).run Try.prog w = .ok 3 w := by kernel_rfl
  simp [Instr.field, run_underlying Try.underlying31, Go.part, run_underlying hu, hz, asAgg]
set_option maxRecDepth 100000 in
theorem fld_par (w : World) (c0 c1 c2 c3 c4 c5 c6 c7 c8 : Value) : (Instr.field 31 (.agg #[c0, c1, c2, c3, c4, c5, c6, c7, c8]) 6).run Try.prog w = .ok c8 w := by
  have hu := Try.underlying29
  have hz : (sizeOf 29).run Try.prog w = .ok 1 w := by kernel_rfl
  simp [Instr.field, run_underlying Try.underlying31, Go.part, run_underlying hu, hz, asAgg]
theorem void_z (w : World) : Calls Try.prog 10 #[] w fun e w' => ∃ (s : Sl) (g1 gp g5 g6 gh g8 : Nat), e = .returned (.agg #[.int .u64 65536, .int .i64 2, .int .i64 1, .int .i64 1, .slice (some ⟨g1, 0, none⟩) 8192 8192, .slice (some ⟨gp, 0, none⟩) 2 2, .slice (some ⟨g6, 0, none⟩) 1 1, .slice (some ⟨gh, 0, none⟩) 2 2, .slice (some ⟨g8, 0, none⟩) 8 8]) ∧ Below w.heap.size w w' ∧ Kn w.heap.size w' s g1 gp g5 g6 gh g8 vMem vPg0 vPg1 0 [0, 65536] [-1, -1, -1, -1, -1, -1, -1, -1] :=
  (void_y w).mono fun e w' ⟨s, g1, gp, g5, g6, gh, g8, he, hb, hk⟩ => ⟨s, g1, gp, g5, g6, gh, g8, by rw [he]; exact congrArg (fun c => Ending.returned (.agg c)) (hk.cells 2), hb, hk⟩
theorem slab_z (w : World) : Calls Try.prog 15 #[] w fun e w' => ∃ (s : Sl) (g1 gp g5 g6 gh g8 : Nat), e = .returned (.agg #[.int .u64 65536, .int .i64 2, .int .i64 1, .int .i64 1, .slice (some ⟨g1, 0, none⟩) 8192 8192, .slice (some ⟨gp, 0, none⟩) 2 2, .slice (some ⟨g6, 0, none⟩) 1 1, .slice (some ⟨gh, 0, none⟩) 2 2, .slice (some ⟨g8, 0, none⟩) 8 8]) ∧ Below w.heap.size w w' ∧ Kn w.heap.size w' s g1 gp g5 g6 gh g8 vMem sPg0 sPg1 0 [0, 0] [-1, -1, -1, -1, -1, -1, -1, 0] :=
  (slabbed_y w).mono fun e w' ⟨s, g1, gp, g5, g6, gh, g8, he, hb, hk⟩ => ⟨s, g1, gp, g5, g6, gh, g8, by rw [he]; exact congrArg (fun c => Ending.returned (.agg c)) (hk.cells 2), hb, hk⟩
theorem kn_is {n : Nat} {w : World} {s : Sl} {g1 gp g5 g6 gh g8 : Nat} {mem : List Int} {p q : Pg} {x : Int} {hs ts : List Int} {lim r pl : Int} (h : Kn n w s g1 gp g5 g6 gh g8 mem p q x hs ts) (hw : (knIm lim mem p q x hs ts).Wf) (hc : (knIm lim mem p q x hs ts).check = (r, pl)) : Calls Try.prog 13 #[.agg #[.int .u64 65536, .int .i64 lim, .int .i64 1, .int .i64 1, .slice (some ⟨g1, 0, none⟩) 8192 8192, .slice (some ⟨gp, 0, none⟩) 2 2, .slice (some ⟨g6, 0, none⟩) 1 1, .slice (some ⟨gh, 0, none⟩) hs.length hs.length, .slice (some ⟨g8, 0, none⟩) 8 8], .int .i64 r, .int .i64 pl] w (DocP w (.bool true)) := by
  have := is_t (h.at_ hw) (fun b hb => hb.2) hc
  rwa [h.cells] at this
theorem kn_blocks {n : Nat} {w : World} {s : Sl} {g1 gp g5 g6 gh g8 : Nat} {mem : List Int} {p q : Pg} {x : Int} {hs ts : List Int} {lim : Int} {bs : List (Int × Int)} (h : Kn n w s g1 gp g5 g6 gh g8 mem p q x hs ts) (hw : (knIm lim mem p q x hs ts).Wf) (ht : (knIm lim mem p q x hs ts).told = bs) : Calls Try.prog 12 #[.agg #[.int .u64 65536, .int .i64 lim, .int .i64 1, .int .i64 1, .slice (some ⟨g1, 0, none⟩) 8192 8192, .slice (some ⟨gp, 0, none⟩) 2 2, .slice (some ⟨g6, 0, none⟩) 1 1, .slice (some ⟨gh, 0, none⟩) hs.length hs.length, .slice (some ⟨g8, 0, none⟩) 8 8]] w (fun e w' => ∃ A cap, e = .returned (.slice A bs.length cap) ∧ RowB (fun b => w.heap.size ≤ b ∧ b < w'.heap.size) w' A bs ∧ Below w.heap.size w w') := by
  have := Blocks_c (h.at_ hw) (fun b hb => hb.2)
  rw [h.cells] at this
  unfold BlocksP at this
  rw [ht] at this
  exact this.mono (fun e w' ⟨A, cap, h1, _, h2, h3⟩ => ⟨A, cap, h1, h2, h3⟩)
theorem kn_wf {lim : Int} {mem : List Int} {p q : Pg} {x : Int} {hs ts : List Int} (hl : I64 lim) (hm : ∀ y ∈ mem, 0 ≤ y ∧ y < 256) (hml : mem.length = 8192) (hp : p.Wf) (hq : q.Wf) (hx : U64 x) (hh : ∀ y ∈ hs, U64 y) (hhl : hs.length ≤ 3) (ht : ∀ y ∈ ts, I64 y) (htl : ts.length = 8) : (knIm lim mem p q x hs ts).Wf := by
  refine ⟨by show U64 65536; unfold U64; decide, hl, by show I64 1; unfold I64; decide, by show I64 1; unfold I64; decide, hm, fun y hy => ?_, fun l hy => ?_, hh, ht, by show mem.length ≤ _; omega, by show 2 ≤ _; decide, by show 1 ≤ _; decide, fun l hy => ?_, by show hs.length ≤ _; omega, by show ts.length ≤ _; omega⟩
  · change y ∈ [p, q] at hy
    simp at hy
    rcases hy with rfl | rfl
    · exact hp
    · exact hq
  · change l ∈ [[x]] at hy
    simp at hy
    subst hy
    intro y hy
    simp at hy
    subst hy
    exact hx
  · change l ∈ [[x]] at hy
    simp at hy
    subst hy
    simp
theorem set_byte {mem : List Int} (hm : ∀ y ∈ mem, 0 ≤ y ∧ y < 256) (k : Nat) {v : Int} (hv : 0 ≤ v ∧ v < 256) : ∀ y ∈ mem.set k v, 0 ≤ y ∧ y < 256 := fun y hy => (List.mem_or_eq_of_mem_set hy).elim (hm y) (fun e => e ▸ hv)
theorem Kn.put_p {n : Nat} {w : World} {s : Sl} {g1 gp g5 g6 gh g8 : Nat} {mem : List Int} {p q : Pg} {x : Int} {hs ts : List Int} {w' : World} {p' q' : Pg} (h : Kn n w s g1 gp g5 g6 gh g8 mem p q x hs ts) (hg : PutG w w' gp (p'.cells ++ q'.cells).toArray 39) : Kn n w' s g1 gp g5 g6 gh g8 mem p' q' x hs ts :=
  have st : ∀ {b}, Nw n w b → Nw n w' b := fun hb => ⟨hb.1, by rw [hg.size]; exact hb.2⟩
  ⟨h.eA, h.eB, h.eC, h.eD, h.eE, h.a, h.b, h.c, h.d, h.e, st h.n1, st h.np, st h.n5, st h.n6, st h.nh, st h.n8, h.lm, h.lt, (hg.far _ (blk_ne h.h1 h.hp (by decide))).trans h.h1, hg.at_, (hg.far _ (blk_ne h.h5 h.hp (by decide))).trans h.h5, (hg.far _ (blk_ne h.h6 h.hp (by decide))).trans h.h6, (hg.far _ (blk_ne h.hh h.hp (by decide))).trans h.hh, (hg.far _ (blk_ne h.h8 h.hp (by decide))).trans h.h8⟩
theorem Kn.put_1 {n : Nat} {w : World} {s : Sl} {g1 gp g5 g6 gh g8 : Nat} {mem : List Int} {p q : Pg} {x : Int} {hs ts : List Int} (h : Kn n w s g1 gp g5 g6 gh g8 mem p q x hs ts) (k : Nat) (v : Int) : Kn n (w.setCell ⟨g1, k, none⟩ (.int .u8 v)) s g1 gp g5 g6 gh g8 (mem.set k v) p q x hs ts :=
  have hz : (w.setCell ⟨g1, k, none⟩ (.int .u8 v)).heap.size = w.heap.size := by simp [World.setCell]
  have st : ∀ {b}, Nw n w b → Nw n (w.setCell ⟨g1, k, none⟩ (.int .u8 v)) b := fun hb => ⟨hb.1, by rw [hz]; exact hb.2⟩
  have far : ∀ b, b ≠ g1 → (w.setCell ⟨g1, k, none⟩ (.int .u8 v)).heap[b]? = w.heap[b]? := fun b hb => Below.heap_setCell w _ _ _ hb
  ⟨h.eA, h.eB, h.eC, h.eD, h.eE, h.a, h.b, h.c, h.d, h.e, st h.n1, st h.np, st h.n5, st h.n6, st h.nh, st h.n8, by rw [List.length_set]; exact h.lm, h.lt, rowO_set h.h1 k v, (far _ (blk_ne h.hp h.h1 (by decide))).trans h.hp, (far _ (blk_ne h.h5 h.h1 (by decide))).trans h.h5, (far _ (blk_ne h.h6 h.h1 (by decide))).trans h.h6, (far _ (blk_ne h.hh h.h1 (by decide))).trans h.hh, (far _ (blk_ne h.h8 h.h1 (by decide))).trans h.h8⟩
theorem Kn.put_8 {n : Nat} {w : World} {s : Sl} {g1 gp g5 g6 gh g8 : Nat} {mem : List Int} {p q : Pg} {x : Int} {hs ts : List Int} (h : Kn n w s g1 gp g5 g6 gh g8 mem p q x hs ts) (k : Nat) (v : Int) : Kn n (w.setCell ⟨g8, k, none⟩ (.int .i64 v)) s g1 gp g5 g6 gh g8 mem p q x hs (ts.set k v) :=
  have hz : (w.setCell ⟨g8, k, none⟩ (.int .i64 v)).heap.size = w.heap.size := by simp [World.setCell]
  have st : ∀ {b}, Nw n w b → Nw n (w.setCell ⟨g8, k, none⟩ (.int .i64 v)) b := fun hb => ⟨hb.1, by rw [hz]; exact hb.2⟩
  have far : ∀ b, b ≠ g8 → (w.setCell ⟨g8, k, none⟩ (.int .i64 v)).heap[b]? = w.heap[b]? := fun b hb => Below.heap_setCell w _ _ _ hb
  ⟨h.eA, h.eB, h.eC, h.eD, h.eE, h.a, h.b, h.c, h.d, h.e, st h.n1, st h.np, st h.n5, st h.n6, st h.nh, st h.n8, h.lm, by rw [List.length_set]; exact h.lt, (far _ (blk_ne h.h1 h.h8 (by decide))).trans h.h1, (far _ (blk_ne h.hp h.h8 (by decide))).trans h.hp, (far _ (blk_ne h.h5 h.h8 (by decide))).trans h.h5, (far _ (blk_ne h.h6 h.h8 (by decide))).trans h.h6, (far _ (blk_ne h.hh h.h8 (by decide))).trans h.hh, rowO_set h.h8 k v⟩
theorem Kn.put_5 {n : Nat} {w : World} {s : Sl} {g1 gp g5 g6 gh g8 : Nat} {mem : List Int} {p q : Pg} {x : Int} {hs ts : List Int} (h : Kn n w s g1 gp g5 g6 gh g8 mem p q x hs ts) (hl : hs.length = 2) (v : Int) : Kn n (w.setCell ⟨g5, 0, none⟩ (.int .u64 v)) s g1 gp g5 g6 gh g8 mem p q v hs ts :=
  have hz : (w.setCell ⟨g5, 0, none⟩ (.int .u64 v)).heap.size = w.heap.size := by simp [World.setCell]
  have st : ∀ {b}, Nw n w b → Nw n (w.setCell ⟨g5, 0, none⟩ (.int .u64 v)) b := fun hb => ⟨hb.1, by rw [hz]; exact hb.2⟩
  have far : ∀ b, b ≠ g5 → (w.setCell ⟨g5, 0, none⟩ (.int .u64 v)).heap[b]? = w.heap[b]? := fun b hb => Below.heap_setCell w _ _ _ hb
  have hne : gh ≠ g5 := fun e => by
    have h1 := h.hh
    rw [e, h.h5] at h1
    injection h1 with h1
    unfold rowO at h1
    injection h1 with h1
    have h2 := congrArg Array.size h1
    simp [hl] at h2
  ⟨h.eA, h.eB, h.eC, h.eD, h.eE, h.a, h.b, h.c, h.d, h.e, st h.n1, st h.np, st h.n5, st h.n6, st h.nh, st h.n8, h.lm, h.lt, (far _ (blk_ne h.h1 h.h5 (by decide))).trans h.h1, (far _ (blk_ne h.hp h.h5 (by decide))).trans h.hp, blk_put h.h5 0 _ rfl, (far _ (blk_ne h.h6 h.h5 (by decide))).trans h.h6, (far _ hne).trans h.hh, (far _ (blk_ne h.h8 h.h5 (by decide))).trans h.h8⟩
theorem Kn.put_q {n : Nat} {w : World} {s : Sl} {g1 gp g5 g6 gh g8 : Nat} {mem : List Int} {p q : Pg} {x : Int} {hs ts : List Int} {w' : World} {a : Nat} {cs : Array Value} (h : Kn n w s g1 gp g5 g6 gh g8 mem p q x hs ts) (hq : w.heap[a]? = some (.cells cs 31 (0, 0))) (hz : w'.heap.size = w.heap.size) (far : ∀ b, b ≠ a → w'.heap[b]? = w.heap[b]?) : Kn n w' s g1 gp g5 g6 gh g8 mem p q x hs ts :=
  have st : ∀ {b}, Nw n w b → Nw n w' b := fun hb => ⟨hb.1, by rw [hz]; exact hb.2⟩
  ⟨h.eA, h.eB, h.eC, h.eD, h.eE, h.a, h.b, h.c, h.d, h.e, st h.n1, st h.np, st h.n5, st h.n6, st h.nh, st h.n8, h.lm, h.lt, (far _ (blk_ne h.h1 hq (by decide))).trans h.h1, (far _ (blk_ne h.hp hq (by decide))).trans h.hp, (far _ (blk_ne h.h5 hq (by decide))).trans h.h5, (far _ (blk_ne h.h6 hq (by decide))).trans h.h6, (far _ (blk_ne h.hh hq (by decide))).trans h.hh, (far _ (blk_ne h.h8 hq (by decide))).trans h.h8⟩
theorem Kn.put_h {n : Nat} {w : World} {s : Sl} {g1 gp g5 g6 gh g8 : Nat} {mem : List Int} {p q : Pg} {x : Int} {hs ts : List Int} {w' : World} {g : Nat} {ks : List Int} (h : Kn n w s g1 gp g5 g6 gh g8 mem p q x hs ts) (hz : w.heap.size ≤ w'.heap.size) (hk : ∀ b, Nw n w b → w'.heap[b]? = w.heap[b]?) (hg : w'.heap[g]? = some (rowO .u64 22 ks)) (hn : Nw n w' g) : Kn n w' { s with D := some ⟨g, 0, none⟩, d := ks.length } g1 gp g5 g6 g g8 mem p q x ks ts :=
  have h' := h.step hz hk
  ⟨h.eA, h.eB, h.eC, rfl, h.eE, h.a, h.b, h.c, rfl, h.e, h'.n1, h'.np, h'.n5, h'.n6, hn, h'.n8, h.lm, h.lt, h'.h1, h'.hp, h'.h5, h'.h6, hg, h'.h8⟩
theorem rowB_one {w : World} {g : Nat} {a b : Int} (h : w.heap[g]? = some (.cells #[.int .u64 a, .int .u64 b] 42 (0, 0))) {F : Nat → Prop} (hF : F g) : RowB F w (some ⟨g, 0, none⟩) [(a, b)] := fun _ => ⟨_, rfl, hF, fun i hi => by
  obtain rfl : i = 0 := by simpa using hi
  rw [add0]
  exact ⟨blk_cell h 0, blk_cell h 1⟩⟩
theorem rowB_two {w : World} {g : Nat} {a b c d : Int} (h : w.heap[g]? = some (.cells #[.int .u64 a, .int .u64 b, .int .u64 c, .int .u64 d] 42 (0, 0))) {F : Nat → Prop} (hF : F g) : RowB F w (some ⟨g, 0, none⟩) [(a, b), (c, d)] := fun _ => ⟨_, rfl, hF, fun i hi => by
  match i, hi with
  | 0, _ => rw [add0]; exact ⟨blk_cell h 0, blk_cell h 1⟩
  | 1, _ => rw [add0]; exact ⟨blk_cell h 2, blk_cell h 3⟩⟩
theorem vMem_by : ∀ y ∈ vMem, 0 ≤ y ∧ y < 256 := voidIm_wf.mem
def noneIm : Im := { base := 65536, limit := 2, order := 1, regions := 0, mem := [], pages := [], pairs := [[]], heads := [0, 0], parts := [-1, -1, -1, -1, -1, -1, -1, -1] }
theorem none_ok : noneIm.check = (0, 0) := by kernel_rfl
theorem none_told : noneIm.told = [] := by kernel_rfl
theorem void_told : (knIm 2 vMem vPg0 vPg1 0 [0, 65536] [-1, -1, -1, -1, -1, -1, -1, -1]).told = [] := by kernel_rfl
theorem none_wf : noneIm.Wf := by
  refine ⟨by show U64 65536; unfold U64; decide, by show I64 2; unfold I64; decide, by show I64 1; unfold I64; decide, by show I64 0; unfold I64; decide, fun x hx => (by cases hx), fun x hx => (by cases hx), fun l hl => ?_, fun x hx => ?_, fun x hx => ?_, by decide, by decide, by decide, fun l hl => ?_, by decide, by decide⟩
  · change l ∈ [([] : List Int)] at hl
    simp at hl
    subst hl
    intro x hx
    cases hx
  · change x ∈ [(0 : Int), 0] at hx
    simp at hx
    subst hx
    unfold U64; decide
  · change x ∈ [(-1 : Int), -1, -1, -1, -1, -1, -1, -1] at hx
    simp at hx
    subst hx
    unfold I64; decide
  · change l ∈ [([] : List Int)] at hl
    simp at hl
    subst hl
    decide
theorem ck1 : (knIm 65 vMem vPg0 vPg1 0 [0, 65536] [-1, -1, -1, -1, -1, -1, -1, -1]).check = (1, 0) := by kernel_rfl
theorem wf1 : (knIm 65 vMem vPg0 vPg1 0 [0, 65536] [-1, -1, -1, -1, -1, -1, -1, -1]).Wf := kn_wf (by unfold I64; decide) vMem_by vMem_len ⟨by unfold I64; decide, by unfold I64; decide, by unfold I64; decide, by unfold I64; decide, by unfold I64; decide, by unfold I64; decide, by unfold I64; decide, by unfold U64; decide, by unfold U64; decide, by unfold U64; decide, by unfold U64; decide⟩ ⟨by unfold I64; decide, by unfold I64; decide, by unfold I64; decide, by unfold I64; decide, by unfold I64; decide, by unfold I64; decide, by unfold I64; decide, by unfold U64; decide, by unfold U64; decide, by unfold U64; decide, by unfold U64; decide⟩ (by unfold U64; decide) (by unfold U64; decide) (by decide) (by unfold I64; decide) (by decide)
theorem ck2 : (knIm 2 vMem vPg0 vPg1 0 [0, 65536, 0] [-1, -1, -1, -1, -1, -1, -1, -1]).check = (2, 4) := by kernel_rfl
theorem wf2 : (knIm 2 vMem vPg0 vPg1 0 [0, 65536, 0] [-1, -1, -1, -1, -1, -1, -1, -1]).Wf := kn_wf (by unfold I64; decide) vMem_by vMem_len ⟨by unfold I64; decide, by unfold I64; decide, by unfold I64; decide, by unfold I64; decide, by unfold I64; decide, by unfold I64; decide, by unfold I64; decide, by unfold U64; decide, by unfold U64; decide, by unfold U64; decide, by unfold U64; decide⟩ ⟨by unfold I64; decide, by unfold I64; decide, by unfold I64; decide, by unfold I64; decide, by unfold I64; decide, by unfold I64; decide, by unfold I64; decide, by unfold U64; decide, by unfold U64; decide, by unfold U64; decide, by unfold U64; decide⟩ (by unfold U64; decide) (by unfold U64; decide) (by decide) (by unfold I64; decide) (by decide)
theorem ck3 : (knIm 2 vMem vPg0 { vPg1 with kd := 2 } 0 [0, 65536] [-1, -1, -1, -1, -1, -1, -1, -1]).check = (4, 1) := by kernel_rfl
theorem wf3 : (knIm 2 vMem vPg0 { vPg1 with kd := 2 } 0 [0, 65536] [-1, -1, -1, -1, -1, -1, -1, -1]).Wf := kn_wf (by unfold I64; decide) vMem_by vMem_len ⟨by unfold I64; decide, by unfold I64; decide, by unfold I64; decide, by unfold I64; decide, by unfold I64; decide, by unfold I64; decide, by unfold I64; decide, by unfold U64; decide, by unfold U64; decide, by unfold U64; decide, by unfold U64; decide⟩ ⟨by unfold I64; decide, by unfold I64; decide, by unfold I64; decide, by unfold I64; decide, by unfold I64; decide, by unfold I64; decide, by unfold I64; decide, by unfold U64; decide, by unfold U64; decide, by unfold U64; decide, by unfold U64; decide⟩ (by unfold U64; decide) (by unfold U64; decide) (by decide) (by unfold I64; decide) (by decide)
theorem ck4 : (knIm 2 vMem vPg0 { vPg1 with od := 0 } 0 [0, 65536] [-1, -1, -1, -1, -1, -1, -1, -1]).check = (4, 1) := by kernel_rfl
theorem wf4 : (knIm 2 vMem vPg0 { vPg1 with od := 0 } 0 [0, 65536] [-1, -1, -1, -1, -1, -1, -1, -1]).Wf := kn_wf (by unfold I64; decide) vMem_by vMem_len ⟨by unfold I64; decide, by unfold I64; decide, by unfold I64; decide, by unfold I64; decide, by unfold I64; decide, by unfold I64; decide, by unfold I64; decide, by unfold U64; decide, by unfold U64; decide, by unfold U64; decide, by unfold U64; decide⟩ ⟨by unfold I64; decide, by unfold I64; decide, by unfold I64; decide, by unfold I64; decide, by unfold I64; decide, by unfold I64; decide, by unfold I64; decide, by unfold U64; decide, by unfold U64; decide, by unfold U64; decide, by unfold U64; decide⟩ (by unfold U64; decide) (by unfold U64; decide) (by decide) (by unfold I64; decide) (by decide)
theorem ck5 : (knIm 2 vMem { vPg0 with od := 0 } { vPg0 with od := 0 } 0 [0, 65536] [-1, -1, -1, -1, -1, -1, -1, -1]).check = (6, 0) := by kernel_rfl
theorem wf5 : (knIm 2 vMem { vPg0 with od := 0 } { vPg0 with od := 0 } 0 [0, 65536] [-1, -1, -1, -1, -1, -1, -1, -1]).Wf := kn_wf (by unfold I64; decide) vMem_by vMem_len ⟨by unfold I64; decide, by unfold I64; decide, by unfold I64; decide, by unfold I64; decide, by unfold I64; decide, by unfold I64; decide, by unfold I64; decide, by unfold U64; decide, by unfold U64; decide, by unfold U64; decide, by unfold U64; decide⟩ ⟨by unfold I64; decide, by unfold I64; decide, by unfold I64; decide, by unfold I64; decide, by unfold I64; decide, by unfold I64; decide, by unfold I64; decide, by unfold U64; decide, by unfold U64; decide, by unfold U64; decide, by unfold U64; decide⟩ (by unfold U64; decide) (by unfold U64; decide) (by decide) (by unfold I64; decide) (by decide)
theorem ck6 : (knIm 2 vMem { kd := 2, od := 0, cl := 0, lv := 0, nx := -1, pv := -1, fs := -1, b0 := 0, b1 := 0, b2 := 0, b3 := 0 } { kd := 0, od := 0, cl := 0, lv := 0, nx := -1, pv := -1, fs := -1, b0 := 0, b1 := 0, b2 := 0, b3 := 0 } 0 [69632, 0] [-1, -1, -1, -1, -1, -1, -1, -1]).check = (7, 0) := by kernel_rfl
theorem wf6 : (knIm 2 vMem { kd := 2, od := 0, cl := 0, lv := 0, nx := -1, pv := -1, fs := -1, b0 := 0, b1 := 0, b2 := 0, b3 := 0 } { kd := 0, od := 0, cl := 0, lv := 0, nx := -1, pv := -1, fs := -1, b0 := 0, b1 := 0, b2 := 0, b3 := 0 } 0 [69632, 0] [-1, -1, -1, -1, -1, -1, -1, -1]).Wf := kn_wf (by unfold I64; decide) vMem_by vMem_len ⟨by unfold I64; decide, by unfold I64; decide, by unfold I64; decide, by unfold I64; decide, by unfold I64; decide, by unfold I64; decide, by unfold I64; decide, by unfold U64; decide, by unfold U64; decide, by unfold U64; decide, by unfold U64; decide⟩ ⟨by unfold I64; decide, by unfold I64; decide, by unfold I64; decide, by unfold I64; decide, by unfold I64; decide, by unfold I64; decide, by unfold I64; decide, by unfold U64; decide, by unfold U64; decide, by unfold U64; decide, by unfold U64; decide⟩ (by unfold U64; decide) (by unfold U64; decide) (by decide) (by unfold I64; decide) (by decide)
theorem ck7 : (knIm 2 vMem { kd := 2, od := 0, cl := 0, lv := 0, nx := -1, pv := -1, fs := -1, b0 := 0, b1 := 0, b2 := 0, b3 := 0 } { kd := 0, od := 0, cl := 0, lv := 0, nx := -1, pv := -1, fs := -1, b0 := 0, b1 := 0, b2 := 0, b3 := 0 } 1 [69632, 0] [-1, -1, -1, -1, -1, -1, -1, -1]).check = (0, 0) := by kernel_rfl
theorem wf7 : (knIm 2 vMem { kd := 2, od := 0, cl := 0, lv := 0, nx := -1, pv := -1, fs := -1, b0 := 0, b1 := 0, b2 := 0, b3 := 0 } { kd := 0, od := 0, cl := 0, lv := 0, nx := -1, pv := -1, fs := -1, b0 := 0, b1 := 0, b2 := 0, b3 := 0 } 1 [69632, 0] [-1, -1, -1, -1, -1, -1, -1, -1]).Wf := kn_wf (by unfold I64; decide) vMem_by vMem_len ⟨by unfold I64; decide, by unfold I64; decide, by unfold I64; decide, by unfold I64; decide, by unfold I64; decide, by unfold I64; decide, by unfold I64; decide, by unfold U64; decide, by unfold U64; decide, by unfold U64; decide, by unfold U64; decide⟩ ⟨by unfold I64; decide, by unfold I64; decide, by unfold I64; decide, by unfold I64; decide, by unfold I64; decide, by unfold I64; decide, by unfold I64; decide, by unfold U64; decide, by unfold U64; decide, by unfold U64; decide, by unfold U64; decide⟩ (by unfold U64; decide) (by unfold U64; decide) (by decide) (by unfold I64; decide) (by decide)
theorem ck8 : (knIm 2 (vMem.set 4104 1) { kd := 2, od := 0, cl := 0, lv := 0, nx := -1, pv := -1, fs := -1, b0 := 0, b1 := 0, b2 := 0, b3 := 0 } { kd := 0, od := 0, cl := 0, lv := 0, nx := -1, pv := -1, fs := -1, b0 := 0, b1 := 0, b2 := 0, b3 := 0 } 1 [69632, 0] [-1, -1, -1, -1, -1, -1, -1, -1]).check = (8, 0) := by kernel_rfl
theorem wf8 : (knIm 2 (vMem.set 4104 1) { kd := 2, od := 0, cl := 0, lv := 0, nx := -1, pv := -1, fs := -1, b0 := 0, b1 := 0, b2 := 0, b3 := 0 } { kd := 0, od := 0, cl := 0, lv := 0, nx := -1, pv := -1, fs := -1, b0 := 0, b1 := 0, b2 := 0, b3 := 0 } 1 [69632, 0] [-1, -1, -1, -1, -1, -1, -1, -1]).Wf := kn_wf (by unfold I64; decide) (set_byte vMem_by 4104 (by decide)) (by rw [List.length_set]; exact vMem_len) ⟨by unfold I64; decide, by unfold I64; decide, by unfold I64; decide, by unfold I64; decide, by unfold I64; decide, by unfold I64; decide, by unfold I64; decide, by unfold U64; decide, by unfold U64; decide, by unfold U64; decide, by unfold U64; decide⟩ ⟨by unfold I64; decide, by unfold I64; decide, by unfold I64; decide, by unfold I64; decide, by unfold I64; decide, by unfold I64; decide, by unfold I64; decide, by unfold U64; decide, by unfold U64; decide, by unfold U64; decide, by unfold U64; decide⟩ (by unfold U64; decide) (by unfold U64; decide) (by decide) (by unfold I64; decide) (by decide)
theorem ck9 : (knIm 2 (((vMem.set 4104 1).set 4104 0).set 4098 1) { kd := 2, od := 0, cl := 0, lv := 0, nx := -1, pv := -1, fs := -1, b0 := 0, b1 := 0, b2 := 0, b3 := 0 } { kd := 0, od := 0, cl := 0, lv := 0, nx := -1, pv := -1, fs := -1, b0 := 0, b1 := 0, b2 := 0, b3 := 0 } 1 [69632, 0] [-1, -1, -1, -1, -1, -1, -1, -1]).check = (8, 0) := by kernel_rfl
theorem wf9 : (knIm 2 (((vMem.set 4104 1).set 4104 0).set 4098 1) { kd := 2, od := 0, cl := 0, lv := 0, nx := -1, pv := -1, fs := -1, b0 := 0, b1 := 0, b2 := 0, b3 := 0 } { kd := 0, od := 0, cl := 0, lv := 0, nx := -1, pv := -1, fs := -1, b0 := 0, b1 := 0, b2 := 0, b3 := 0 } 1 [69632, 0] [-1, -1, -1, -1, -1, -1, -1, -1]).Wf := kn_wf (by unfold I64; decide) (set_byte (set_byte (set_byte vMem_by 4104 (by decide)) 4104 (by decide)) 4098 (by decide)) (by rw [List.length_set, List.length_set, List.length_set]; exact vMem_len) ⟨by unfold I64; decide, by unfold I64; decide, by unfold I64; decide, by unfold I64; decide, by unfold I64; decide, by unfold I64; decide, by unfold I64; decide, by unfold U64; decide, by unfold U64; decide, by unfold U64; decide, by unfold U64; decide⟩ ⟨by unfold I64; decide, by unfold I64; decide, by unfold I64; decide, by unfold I64; decide, by unfold I64; decide, by unfold I64; decide, by unfold I64; decide, by unfold U64; decide, by unfold U64; decide, by unfold U64; decide, by unfold U64; decide⟩ (by unfold U64; decide) (by unfold U64; decide) (by decide) (by unfold I64; decide) (by decide)
theorem ck10 : (knIm 2 vMem sPg0 sPg1 0 [0, 0] [-1, -1, -1, -1, -1, -1, -1, 0]).check = (0, 0) := by kernel_rfl
theorem wf10 : (knIm 2 vMem sPg0 sPg1 0 [0, 0] [-1, -1, -1, -1, -1, -1, -1, 0]).Wf := kn_wf (by unfold I64; decide) vMem_by vMem_len ⟨by unfold I64; decide, by unfold I64; decide, by unfold I64; decide, by unfold I64; decide, by unfold I64; decide, by unfold I64; decide, by unfold I64; decide, by unfold U64; decide, by unfold U64; decide, by unfold U64; decide, by unfold U64; decide⟩ ⟨by unfold I64; decide, by unfold I64; decide, by unfold I64; decide, by unfold I64; decide, by unfold I64; decide, by unfold I64; decide, by unfold I64; decide, by unfold U64; decide, by unfold U64; decide, by unfold U64; decide, by unfold U64; decide⟩ (by unfold U64; decide) (by unfold U64; decide) (by decide) (by unfold I64; decide) (by decide)
theorem ck11 : (knIm 2 vMem { sPg0 with fs := -1 } sPg1 0 [0, 0] [-1, -1, -1, -1, -1, -1, -1, 0]).check = (9, 0) := by kernel_rfl
theorem wf11 : (knIm 2 vMem { sPg0 with fs := -1 } sPg1 0 [0, 0] [-1, -1, -1, -1, -1, -1, -1, 0]).Wf := kn_wf (by unfold I64; decide) vMem_by vMem_len ⟨by unfold I64; decide, by unfold I64; decide, by unfold I64; decide, by unfold I64; decide, by unfold I64; decide, by unfold I64; decide, by unfold I64; decide, by unfold U64; decide, by unfold U64; decide, by unfold U64; decide, by unfold U64; decide⟩ ⟨by unfold I64; decide, by unfold I64; decide, by unfold I64; decide, by unfold I64; decide, by unfold I64; decide, by unfold I64; decide, by unfold I64; decide, by unfold U64; decide, by unfold U64; decide, by unfold U64; decide, by unfold U64; decide⟩ (by unfold U64; decide) (by unfold U64; decide) (by decide) (by unfold I64; decide) (by decide)
theorem ck12 : (knIm 2 vMem sPg0 sPg1 0 [0, 0] ([-1, -1, -1, -1, -1, -1, -1, 0].set 7 (-1))).check = (10, 7) := by kernel_rfl
theorem wf12 : (knIm 2 vMem sPg0 sPg1 0 [0, 0] ([-1, -1, -1, -1, -1, -1, -1, 0].set 7 (-1))).Wf := kn_wf (by unfold I64; decide) vMem_by vMem_len ⟨by unfold I64; decide, by unfold I64; decide, by unfold I64; decide, by unfold I64; decide, by unfold I64; decide, by unfold I64; decide, by unfold I64; decide, by unfold U64; decide, by unfold U64; decide, by unfold U64; decide, by unfold U64; decide⟩ ⟨by unfold I64; decide, by unfold I64; decide, by unfold I64; decide, by unfold I64; decide, by unfold I64; decide, by unfold I64; decide, by unfold I64; decide, by unfold U64; decide, by unfold U64; decide, by unfold U64; decide, by unfold U64; decide⟩ (by unfold U64; decide) (by unfold U64; decide) (by decide) (by unfold I64; decide) (by decide)
theorem ck13 : (knIm 2 vMem { sPg0 with lv := 2, b0 := 3, fs := -1 } sPg1 0 [0, 0] [-1, -1, -1, -1, -1, -1, -1, 0]).check = (10, 7) := by kernel_rfl
theorem wf13 : (knIm 2 vMem { sPg0 with lv := 2, b0 := 3, fs := -1 } sPg1 0 [0, 0] [-1, -1, -1, -1, -1, -1, -1, 0]).Wf := kn_wf (by unfold I64; decide) vMem_by vMem_len ⟨by unfold I64; decide, by unfold I64; decide, by unfold I64; decide, by unfold I64; decide, by unfold I64; decide, by unfold I64; decide, by unfold I64; decide, by unfold U64; decide, by unfold U64; decide, by unfold U64; decide, by unfold U64; decide⟩ ⟨by unfold I64; decide, by unfold I64; decide, by unfold I64; decide, by unfold I64; decide, by unfold I64; decide, by unfold I64; decide, by unfold I64; decide, by unfold U64; decide, by unfold U64; decide, by unfold U64; decide, by unfold U64; decide⟩ (by unfold U64; decide) (by unfold U64; decide) (by decide) (by unfold I64; decide) (by decide)
theorem ck14 : (knIm 2 vMem { sPg0 with lv := 2, b0 := 3, fs := -1 } sPg1 0 [0, 0] ([-1, -1, -1, -1, -1, -1, -1, 0].set 7 (-1))).check = (0, 0) := by kernel_rfl
theorem wf14 : (knIm 2 vMem { sPg0 with lv := 2, b0 := 3, fs := -1 } sPg1 0 [0, 0] ([-1, -1, -1, -1, -1, -1, -1, 0].set 7 (-1))).Wf := kn_wf (by unfold I64; decide) vMem_by vMem_len ⟨by unfold I64; decide, by unfold I64; decide, by unfold I64; decide, by unfold I64; decide, by unfold I64; decide, by unfold I64; decide, by unfold I64; decide, by unfold U64; decide, by unfold U64; decide, by unfold U64; decide, by unfold U64; decide⟩ ⟨by unfold I64; decide, by unfold I64; decide, by unfold I64; decide, by unfold I64; decide, by unfold I64; decide, by unfold I64; decide, by unfold I64; decide, by unfold U64; decide, by unfold U64; decide, by unfold U64; decide, by unfold U64; decide⟩ (by unfold U64; decide) (by unfold U64; decide) (by decide) (by unfold I64; decide) (by decide)
theorem ck15 : (knIm 2 vMem { sPg0 with lv := 2, b0 := 3, fs := -1, nx := 1 } sPg1 0 [0, 0] ([-1, -1, -1, -1, -1, -1, -1, 0].set 7 (-1))).check = (11, 0) := by kernel_rfl
theorem wf15 : (knIm 2 vMem { sPg0 with lv := 2, b0 := 3, fs := -1, nx := 1 } sPg1 0 [0, 0] ([-1, -1, -1, -1, -1, -1, -1, 0].set 7 (-1))).Wf := kn_wf (by unfold I64; decide) vMem_by vMem_len ⟨by unfold I64; decide, by unfold I64; decide, by unfold I64; decide, by unfold I64; decide, by unfold I64; decide, by unfold I64; decide, by unfold I64; decide, by unfold U64; decide, by unfold U64; decide, by unfold U64; decide, by unfold U64; decide⟩ ⟨by unfold I64; decide, by unfold I64; decide, by unfold I64; decide, by unfold I64; decide, by unfold I64; decide, by unfold I64; decide, by unfold I64; decide, by unfold U64; decide, by unfold U64; decide, by unfold U64; decide, by unfold U64; decide⟩ (by unfold U64; decide) (by unfold U64; decide) (by decide) (by unfold I64; decide) (by decide)
theorem wf0 : (knIm 2 vMem vPg0 vPg1 0 [0, 65536] [-1, -1, -1, -1, -1, -1, -1, -1]).Wf := kn_wf (by unfold I64; decide) vMem_by vMem_len ⟨by unfold I64; decide, by unfold I64; decide, by unfold I64; decide, by unfold I64; decide, by unfold I64; decide, by unfold I64; decide, by unfold I64; decide, by unfold U64; decide, by unfold U64; decide, by unfold U64; decide, by unfold U64; decide⟩ ⟨by unfold I64; decide, by unfold I64; decide, by unfold I64; decide, by unfold I64; decide, by unfold I64; decide, by unfold I64; decide, by unfold I64; decide, by unfold U64; decide, by unfold U64; decide, by unfold U64; decide, by unfold U64; decide⟩ (by unfold U64; decide) (by unfold U64; decide) (by decide) (by unfold I64; decide) (by decide)
theorem told7 : (knIm 2 vMem { kd := 2, od := 0, cl := 0, lv := 0, nx := -1, pv := -1, fs := -1, b0 := 0, b1 := 0, b2 := 0, b3 := 0 } { kd := 0, od := 0, cl := 0, lv := 0, nx := -1, pv := -1, fs := -1, b0 := 0, b1 := 0, b2 := 0, b3 := 0 } 1 [69632, 0] [-1, -1, -1, -1, -1, -1, -1, -1]).told = [(65536, 4096)] := by kernel_rfl
theorem told8 : (knIm 2 (vMem.set 4104 1) { kd := 2, od := 0, cl := 0, lv := 0, nx := -1, pv := -1, fs := -1, b0 := 0, b1 := 0, b2 := 0, b3 := 0 } { kd := 0, od := 0, cl := 0, lv := 0, nx := -1, pv := -1, fs := -1, b0 := 0, b1 := 0, b2 := 0, b3 := 0 } 1 [69632, 0] [-1, -1, -1, -1, -1, -1, -1, -1]).told = [] := by kernel_rfl
theorem told10 : (knIm 2 vMem sPg0 sPg1 0 [0, 0] [-1, -1, -1, -1, -1, -1, -1, 0]).told = [(67584, 2048), (69632, 4096)] := by kernel_rfl
end Go.Proofs.Ytkgedpcipaogjaa.WB
end
