/- Part 1 of what the rows of this seat rest on: words of the print that they need; how images, spaces, sets lie in memory; the functions walked. -/
import Derived.Below
import Derived.Deep.Draws
import Derived.Deep.AppendLies
import Derived.Maps.AppendAt
import Derived.OwnWalk
import Derived.Laws.BytesArg
import Derived.Laws.MakeOwn
import Derived.Laws.OwnMore
import Derived.Deep.OwnRows
import Derived.Tactics
import Derived.Lib.ConvBytes
import Derived.Laws.Slices
import Derived.WalkKit
import Derived.KernelRfl
import Derived.RowKit3
import Derived.Deep.LoopGhost
import Derived.Deep.QuietTactic
import Derived.BigQuiet
import Derived.WideLaws
import Derived.Deep.DeepCutAuto
import Derived.Deep.CutBlock
import Derived.Deep.RegionHeld3
import Derived.Laws.Rows
import Derived.Lib.AppendStr
import Derived.ArgAppend
import Derived.Laws.IdiomCopy
import Derived.RowKit
import Derived.Test.YtkgedpcipaogjaaProg
import Derived.WalkLawsBesides
import Derived.Defers
import Derived.Recover
import Derived.Lib.Hide
import Derived.OrdersHeld
import Derived.Laws.BitsLemmas
import Derived.Laws.EntriesVeiled
import Derived.StillTailTactics
import Derived.Laws.StructEq
import Derived.Deep.RegionLaw
import Derived.Deep.Quiet
import Derived.SizedLaws
import Derived.ChangeSlices
import Derived.WalkSpells
import Derived.Laws.CopyOwn
import Derived.BigRegion
import Derived.Laws.Bits64
import Derived.Laws.Bits64b
import Derived.Lib.ItoaNum
import Derived.RegionTactic
import Derived.StillTail
import Derived.ProofKit
import Derived.OpenShut
import Derived.Lib.SmallJoins
import Derived.Deep.Slices
import Derived.Laws.AppendOwn
import Derived.Test.YtkgedpcipaogjaaZ1
import Derived.Test.YtkgedpcipaogjaaZ2
import Derived.Test.YtkgedpcipaogjaaZ3
import Derived.Test.YtkgedpcipaogjaaZ4
import Derived.Test.YtkgedpcipaogjaaZ5
import Derived.Test.YtkgedpcipaogjaaZ6
import Derived.Test.YtkgedpcipaogjaaZ7
import Derived.Test.YtkgedpcipaogjaaZ8
import Derived.Test.YtkgedpcipaogjaaZ9
import Derived.Test.YtkgedpcipaogjaaZ10
import Derived.Test.YtkgedpcipaogjaaZ11
import Derived.Test.YtkgedpcipaogjaaZ12
section
set_option linter.unusedVariables false
set_option linter.unusedSimpArgs false
namespace Go.Proofs.YtkgedpcipaogjaaW.PrintWords
open Go.RowKit
def nums (k : IntKind) (xs : List Int) : List Value := xs.map fun x => .int k x
theorem own_store {W : World} {base g n cap : Nat} {e : TypeId} {k : IntKind} {xs : List Int} (h : W.ownsRow base e 1 (.slice (some ⟨g, 0, none⟩) n cap) n (nums k xs)) (i x : Int) :
    (W.setCell ⟨g, i.toNat, none⟩ (.int k x)).ownsRow base e 1 (.slice (some ⟨g, 0, none⟩) n cap) n (nums k (xs.set i.toNat x)) ∧ W.grownBy (W.setCell ⟨g, i.toNat, none⟩ (.int k x)) (some g) := by
  have hs := h.stored i.toNat (.int k x)
  have he : (nums k xs).set i.toNat (.int k x) = nums k (xs.set i.toNat x) := by simp [nums, List.map_set]
  rwa [he] at hs
namespace Kd
end Kd
namespace Kd
end Kd
namespace Kd
end Kd
namespace Kd
end Kd
namespace Kd
end Kd
namespace Kd
end Kd
namespace Kd
end Kd
namespace Kd
end Kd
namespace Kd
end Kd
namespace Kd
end Kd
namespace Kd
end Kd
theorem own_put {W : World} {base g cap : Nat} {e : TypeId} {k : IntKind} {xs : List Int} (h : W.ownsRow base e 1 (.slice (some ⟨g, 0, none⟩) xs.length cap) xs.length (nums k xs)) (i x : Int) :
    (W.setCell ⟨g, i.toNat, none⟩ (.int k x)).ownsRow base e 1 (.slice (some ⟨g, 0, none⟩) xs.length cap) (xs.set i.toNat x).length (nums k (xs.set i.toNat x)) := by
  have := (own_store h i x).1
  rwa [show (xs.set i.toNat x).length = xs.length by simp]
namespace Kd
end Kd
namespace Kd
end Kd
namespace Kd
end Kd
namespace Kd
end Kd
section
variable {P : Program} {ops : Array Oper} {o : Oper} {a : Act} {Q : Exit → Act → World → Prop} {Kc : Act → World → Prop}
namespace Kd
variable {α : Type}
end Kd
end
namespace Kd
end Kd
end Go.Proofs.YtkgedpcipaogjaaW.PrintWords
end
section
namespace Go.Proofs.Ytkgedpcipaogjaa.WB
open Go Go.RowKit Go.Proofs.YtkgedpcipaogjaaW.PrintWords Go.Proofs.YtkgedpcipaogjaaW.PrintLast Go.Proofs.YtkgedpcipaogjaaW.PrintMore
set_option linter.unusedVariables false
set_option linter.unusedSimpArgs false
set_option maxRecDepth 100000 in
set_option maxHeartbeats 1000000 in
theorem Same_t {F : Nat → Prop} {w : World} {A B : Option Addr} {ca cb : Nat} {bs : List (Int × Int)} (ha : RowB F w A bs) (hb : RowB F w B bs) (hl : bs.length ≤ 140737488355328) :
    Calls Try.prog 14 #[.slice A bs.length ca, .slice B bs.length cb] w fun e w' => e = .returned (.bool true) ∧ ∃ n, w' = w.drewN n := by
  have HA := Lib.hid ha
  have HB := Lib.hid hb
  have HL := Lib.hid hl
  have t3 : ((bs.length : Int) != (bs.length : Int)) = false := by simp
  have hl9 : bs.length ≤ 9223372036854775807 := by omega
  clear ha hb hl
  go_enter Try.func14, Try.ntmps14
  go_wp2
  go_loopg [5, 11, 12, 13, 14, 15, 16, 17, 18, 19, 20, 21, 22, 23, 24, 25] bs.length (fun g v5 _ _ _ _ _ _ _ _ _ _ _ _ _ _ _ wi => ∃ (k : Nat), v5 = .int .i64 (k : Int) ∧ Aside0 (k + g = bs.length) ∧ Aside0 (∃ n, wi = w.drewN n))
  case atStart => exact ⟨0, rfl, ⟨by omega⟩, ⟨0, rfl⟩⟩
  case round =>
    obtain ⟨k, rfl, hkg, hn⟩ := hrel
    obtain ⟨n, rfl⟩ := hn.out
    by_cases hk : k < bs.length
    case neg =>
      obtain ⟨t1, t2⟩ := nlt_dec hk
      clear hk hkg
      go_wp2
      go_ret
      exact ⟨rfl, _, rfl⟩
    obtain ⟨t1, t2⟩ := lt_dec hk
    have hkI : (k : Int) < (bs.length : Int) := by omega
    obtain ⟨g1, rfl⟩ := lp_pos hkg.out hk
    have HG := Lib.hid (lp_step hkg.out)
    obtain ⟨aa, eA, -, hxa⟩ := HA.out (by omega)
    obtain ⟨ab, eB, -, hxb⟩ := HB.out (by omega)
    subst eA eB
    obtain ⟨a0, a1⟩ := hxa k hk
    obtain ⟨b0, b1⟩ := hxb k hk
    have n1 : wrap64 ((k : Int) + 1) = (k : Int) + 1 := up1 (by have := HL.out; omega)
    clear hxa hxb hk hkg
    generalize bs.getD k (0, 0) = b at *
    go_wp2
    go_quiet (fail)
    go_wp2
    go_roundg g1
    case measure => omega
    case rel => exact ⟨k + 1, by simp; try exact n1, ⟨HG.out⟩, ⟨_, rfl⟩⟩
end Go.Proofs.Ytkgedpcipaogjaa.WB
end
section
namespace Go.Proofs.Ytkgedpcipaogjaa.WB
open Go Go.RowKit Go.Proofs.YtkgedpcipaogjaaW.PrintWords Go.Proofs.YtkgedpcipaogjaaW.PrintLast Go.Proofs.YtkgedpcipaogjaaW.PrintMore
set_option linter.unusedVariables false
set_option linter.unusedSimpArgs false
theorem told_len {im : Im} (hw : im.Wf) : im.told.length ≤ 262144 := by
  unfold Im.told
  by_cases hz : im.check.1 = 0
  · rw [if_pos hz]
    have hs := check_zero hz
    obtain ⟨o, r, hg⟩ := geo_of hw (hs 0 (by decide)) (hs 1 (by decide))
    have h1 := blocksTo_len im im.n
    have h2 := hg.n1024
    unfold Im.blocks
    omega
  · rw [if_neg hz]
    exact Nat.zero_le _
end Go.Proofs.Ytkgedpcipaogjaa.WB
end
section
namespace Go.Proofs.Ytkgedpcipaogjaa.WB
open Go Go.RowKit Go.Proofs.YtkgedpcipaogjaaW.PrintWords Go.Proofs.YtkgedpcipaogjaaW.PrintLast Go.Proofs.YtkgedpcipaogjaaW.PrintMore
set_option linter.unusedVariables false
set_option linter.unusedSimpArgs false
def rowO (kd : IntKind) (t : TypeId) (L : List Int) : Obj := .cells (L.map (Value.int kd ·)).toArray t (0, 0)
def part (xs : List Int) (k : Nat) : List Int := xs.take k ++ List.replicate (xs.length - k) 0
theorem part_zero (xs : List Int) : part xs 0 = List.replicate xs.length 0 := by simp [part]
theorem part_all (xs : List Int) : part xs xs.length = xs := by simp [part]
theorem part_len (xs : List Int) (k : Nat) (h : k ≤ xs.length) : (part xs k).length = xs.length := by simp [part]; omega
theorem part_set (xs : List Int) (k : Nat) (h : k < xs.length) : (part xs k).set k (xs.getD k 0) = part xs (k + 1) := by
  have e : xs.length - k = (xs.length - (k + 1)) + 1 := by omega
  unfold part
  rw [List.set_append_right _ _ (by simp; omega), e, List.replicate_succ, List.length_take, Nat.min_eq_left (by omega), Nat.sub_self, List.set_cons_zero, List.take_add_one, List.getElem?_eq_getElem h, List.getD_eq_getElem?_getD, List.getElem?_eq_getElem h, List.append_assoc]
  rfl
theorem made_row (kd : IntKind) (t : TypeId) (n : Nat) : Obj.cells (madeCells #[.int kd 0] n) t (0, 0) = rowO kd t (List.replicate n 0) := by
  unfold rowO
  congr 1
  apply Array.toList_inj.1
  rw [toList_madeCells_one]
  simp
theorem rowO_put {w : World} {m : Nat} {kd : IntKind} {t : TypeId} {xs : List Int} {k : Nat} (h : w.heap[m]? = some (rowO kd t (part xs k))) (hk : k < xs.length) : (w.setCell ⟨m, k, none⟩ (.int kd (xs.getD k 0))).heap[m]? = some (rowO kd t (part xs (k + 1))) := by
  rw [← part_set xs k hk]
  unfold rowO at h ⊢
  refine blk_put h k _ ?_
  simp [List.map_set]
theorem rowO_cell {w : World} {m : Nat} {kd : IntKind} {t : TypeId} {L : List Int} (h : w.heap[m]? = some (rowO kd t L)) (k : Nat) (hk : k < L.length) : w.cell? ⟨m, k, none⟩ = some (.int kd (L.getD k 0)) ∧ w.frozen? ⟨m, k, none⟩ = false := by
  unfold rowO at h
  refine ⟨?_, blk_frozen h _⟩
  rw [blk_cell h]
  simp [List.getD_eq_getElem?_getD, List.getElem?_eq_getElem hk]
theorem rowO_row {w : World} {m : Nat} {kd : IntKind} {t : TypeId} {L : List Int} (h : w.heap[m]? = some (rowO kd t L)) : RowI (fun b => b = m) w (some ⟨m, 0, none⟩) kd L := by
  refine fun _ => ⟨_, rfl, rfl, fun i hi => ?_⟩
  have e5 : (⟨m, 0, none⟩ : Addr).add i = ⟨m, i, none⟩ := by unfold Addr.add; split <;> simp_all
  rw [e5]
  exact (rowO_cell h i hi).1
theorem infoI64 : (Try.prog.info? 3).map (fun i => (i.zero, i.size, i.bytes)) = some (some (.int .i64 0), 1, 8) := by kernel_rfl
theorem mk_u8 {n : Nat} (hn : n ≤ 140737488355328) (kl : IntKind) (w : World) : (Instr.makeSlice 25 (.int kl (n : Int)) (.int kl (n : Int))).run Try.prog w = .ok (.slice (some ⟨w.heap.size, 0, none⟩) n n) (w.alloc (rowO .u8 5 (List.replicate n 0))) := by
  obtain ⟨i, hi, h1, h2, h3⟩ := info_parts infoU8
  have := run_make (P := Try.prog) w 25 5 i (.int .u8 0) Try.underlying25 hi h1 kl kl (n : Int) (n : Int) (by omega) (Int.le_refl _) (by rw [h3]; omega) (by omega)
  rw [this, h2, ← made_row]
  simp [Value.cells]
theorem mk_u64 {n : Nat} (hn : n * 8 ≤ 140737488355328) (kl : IntKind) (w : World) : (Instr.makeSlice 28 (.int kl (n : Int)) (.int kl (n : Int))).run Try.prog w = .ok (.slice (some ⟨w.heap.size, 0, none⟩) n n) (w.alloc (rowO .u64 22 (List.replicate n 0))) := by
  obtain ⟨i, hi, h1, h2, h3⟩ := info_parts infoU64
  have := run_make (P := Try.prog) w 28 22 i (.int .u64 0) Try.underlying28 hi h1 kl kl (n : Int) (n : Int) (by omega) (Int.le_refl _) (by rw [h3]; omega) (by omega)
  rw [this, h2, ← made_row]
  simp [Value.cells]
theorem mk_i64 {n : Nat} (hn : n * 8 ≤ 140737488355328) (kl : IntKind) (w : World) : (Instr.makeSlice 29 (.int kl (n : Int)) (.int kl (n : Int))).run Try.prog w = .ok (.slice (some ⟨w.heap.size, 0, none⟩) n n) (w.alloc (rowO .i64 3 (List.replicate n 0))) := by
  obtain ⟨i, hi, h1, h2, h3⟩ := info_parts infoI64
  have := run_make (P := Try.prog) w 29 3 i (.int .i64 0) Try.underlying29 hi h1 kl kl (n : Int) (n : Int) (by omega) (Int.le_refl _) (by rw [h3]; omega) (by omega)
  rw [this, h2, ← made_row]
  simp [Value.cells]
def rowP (t : TypeId) (L : List Pg) : Obj := .cells (pgVals L).toArray t (0, 0)
def partP (xs : List Pg) (k : Nat) : List Pg := xs.take k ++ List.replicate (xs.length - k) pg0
theorem partP_zero (xs : List Pg) : partP xs 0 = List.replicate xs.length pg0 := by simp [partP]
theorem partP_all (xs : List Pg) : partP xs xs.length = xs := by simp [partP]
theorem partP_len (xs : List Pg) (k : Nat) (h : k ≤ xs.length) : (partP xs k).length = xs.length := by simp [partP]; omega
theorem partP_set (xs : List Pg) (k : Nat) (h : k < xs.length) : (partP xs k).set k (xs.getD k pg0) = partP xs (k + 1) := by
  have e : xs.length - k = (xs.length - (k + 1)) + 1 := by omega
  unfold partP
  rw [List.set_append_right _ _ (by simp; omega), e, List.replicate_succ, List.length_take, Nat.min_eq_left (by omega), Nat.sub_self, List.set_cons_zero, List.take_add_one, List.getElem?_eq_getElem h, List.getD_eq_getElem?_getD, List.getElem?_eq_getElem h, List.append_assoc]
  rfl
theorem pgz_get : ∀ (n x : Nat), (pgVals (List.replicate n pg0))[x]? = if x < n * 11 then pg0.cells[x % 11]? else none
  | 0, x => by simp [pgVals]
  | n + 1, x => by
    rw [List.replicate_succ, pgVals]
    by_cases hx : x < 11
    · rw [List.getElem?_append_left (by rw [cells_len]; exact hx), if_pos (by omega), Nat.mod_eq_of_lt hx]
    · rw [List.getElem?_append_right (by rw [cells_len]; omega), cells_len, pgz_get n (x - 11)]
      have e : (x - 11) % 11 = x % 11 := by omega
      rw [e]
      by_cases h2 : x < (n + 1) * 11
      · rw [if_pos h2, if_pos (by omega)]
      · rw [if_neg h2, if_neg (by omega)]
theorem pgz_one : ∀ y : Nat, y < 11 → some ((Value.agg #[.int .i64 0, .int .i64 0, .int .i64 0, .int .i64 0, .int .i64 0, .int .i64 0, .int .i64 0, .int .u64 0, .int .u64 0, .int .u64 0, .int .u64 0]).cells[y]!) = pg0.cells[y]?
  | 0, _ => rfl
  | 1, _ => rfl
  | 2, _ => rfl
  | 3, _ => rfl
  | 4, _ => rfl
  | 5, _ => rfl
  | 6, _ => rfl
  | 7, _ => rfl
  | 8, _ => rfl
  | 9, _ => rfl
  | 10, _ => rfl
  | n + 11, h => absurd h (by omega)
theorem mk_pg {n : Nat} (hn : n * 88 ≤ 140737488355328) (kl : IntKind) (w : World) : (Instr.makeSlice 26 (.int kl (n : Int)) (.int kl (n : Int))).run Try.prog w = .ok (.slice (some ⟨w.heap.size, 0, none⟩) n n) (w.alloc (rowP 39 (List.replicate n pg0))) := by
  obtain ⟨i, hi, h1, h2, h3⟩ := info_parts infoPg
  have := run_make (P := Try.prog) w 26 39 i _ Try.underlying26 hi h1 kl kl (n : Int) (n : Int) (by omega) (Int.le_refl _) (by rw [h3]; omega) (by omega)
  rw [this, h2]
  have e : madeCells (Value.agg #[.int .i64 0, .int .i64 0, .int .i64 0, .int .i64 0, .int .i64 0, .int .i64 0, .int .i64 0, .int .u64 0, .int .u64 0, .int .u64 0, .int .u64 0]).cells ((n : Int).toNat * 11) = (pgVals (List.replicate n pg0)).toArray := by
    apply Array.toList_inj.1
    apply List.ext_getElem?
    intro x
    rw [pgz_get]
    simp only [madeCells, Int.toNat_natCast]
    by_cases hx : x < n * 11
    · rw [if_pos hx]
      have h11 : x % 11 < 11 := Nat.mod_lt _ (by decide)
      simp only [Array.toList_map, List.getElem?_map, Array.toList_range, List.getElem?_range hx, Option.map_some]
      exact pgz_one _ h11
    · rw [if_neg hx]
      simp; omega
  rw [e]
  simp [rowP]
theorem pgVals_at : ∀ (l : List Pg) (i j : Nat), i < l.length → j < 11 → (pgVals l)[i * 11 + j]? = (l.getD i pg0).cells[j]?
  | [], i, j, h, _ => by simp at h
  | p :: l, 0, j, _, hj => by
    rw [pgVals, List.getElem?_append_left (by rw [cells_len]; omega)]
    simp
  | p :: l, i + 1, j, h, hj => by
    rw [pgVals, List.getElem?_append_right (by rw [cells_len]; omega), cells_len, show (i + 1) * 11 + j - 11 = i * 11 + j by omega, pgVals_at l i j (by simpa using h) hj]
    rfl
theorem set_r (p : Pg) (R : List Value) (k j : Nat) (v : Value) : (p.cells ++ R).set ((k + 1) * 11 + j) v = p.cells ++ R.set (k * 11 + j) v := by
  rw [List.set_append_right _ _ (by rw [cells_len]; omega), cells_len, show (k + 1) * 11 + j - 11 = k * 11 + j by omega]
def setPg (R : List Value) (k : Nat) (p : Pg) : List Value := ((((((((((R.set (k * 11 + 0) (.int .i64 p.kd)).set (k * 11 + 1) (.int .i64 p.od)).set (k * 11 + 2) (.int .i64 p.cl)).set (k * 11 + 3) (.int .i64 p.lv)).set (k * 11 + 4) (.int .i64 p.nx)).set (k * 11 + 5) (.int .i64 p.pv)).set (k * 11 + 6) (.int .i64 p.fs)).set (k * 11 + 7) (.int .u64 p.b0)).set (k * 11 + 8) (.int .u64 p.b1)).set (k * 11 + 9) (.int .u64 p.b2)).set (k * 11 + 10) (.int .u64 p.b3)
theorem setPg_eq : ∀ (l : List Pg) (k : Nat) (p : Pg), k < l.length → setPg (pgVals l) k p = pgVals (l.set k p)
  | [], k, p, h => by simp at h
  | q :: l, 0, p, _ => by
    unfold setPg
    rw [List.set_cons_zero, pgVals, pgVals]
    simp [Pg.cells]
  | q :: l, k + 1, p, h => by
    rw [List.set_cons_succ, pgVals, pgVals, ← setPg_eq l k p (by simpa using h)]
    unfold setPg
    simp only [set_r]
theorem rowP_cell {w : World} {m : Nat} {t : TypeId} {L : List Pg} (h : w.heap[m]? = some (rowP t L)) (k : Nat) (hk : k < L.length) (j : Nat) (hj : j < 11) : w.cell? ⟨m, k * 11 + j, none⟩ = (L.getD k pg0).cells[j]? ∧ w.frozen? ⟨m, k * 11 + j, none⟩ = false := by
  unfold rowP at h
  refine ⟨?_, blk_frozen h _⟩
  rw [blk_cell h, List.getElem?_toArray]
  exact pgVals_at L k j hk hj
theorem partP_at (xs : List Pg) (k : Nat) (h : k < xs.length) : (partP xs k).getD k pg0 = pg0 := by
  unfold partP
  rw [List.getD_eq_getElem?_getD, List.getElem?_append_right (by simp; omega), List.length_take, Nat.min_eq_left (by omega), Nat.sub_self, List.getElem?_replicate]
  split <;> rfl
theorem partP_cell {w : World} {m : Nat} {t : TypeId} {xs : List Pg} {k : Nat} (h : w.heap[m]? = some (rowP t (partP xs k))) (hk : k < xs.length) (j : Nat) (hj : j < 11) : w.cell? ⟨m, k * 11 + j, none⟩ = pg0.cells[j]? ∧ w.frozen? ⟨m, k * 11 + j, none⟩ = false := by
  have := rowP_cell h k (by rw [partP_len _ _ (Nat.le_of_lt hk)]; exact hk) j hj
  rwa [partP_at xs k hk] at this
theorem partP_cells {w : World} {m : Nat} {t : TypeId} {xs : List Pg} {k : Nat} (h : w.heap[m]? = some (rowP t (partP xs k))) (hk : k < xs.length) :
    (w.cell? ⟨m, k * 11, none⟩ = some (.int .i64 0) ∧ w.frozen? ⟨m, k * 11, none⟩ = false) ∧ (w.cell? ⟨m, k * 11 + 1, none⟩ = some (.int .i64 0) ∧ w.frozen? ⟨m, k * 11 + 1, none⟩ = false) ∧ (w.cell? ⟨m, k * 11 + 2, none⟩ = some (.int .i64 0) ∧ w.frozen? ⟨m, k * 11 + 2, none⟩ = false) ∧ (w.cell? ⟨m, k * 11 + 3, none⟩ = some (.int .i64 0) ∧ w.frozen? ⟨m, k * 11 + 3, none⟩ = false) ∧ (w.cell? ⟨m, k * 11 + 4, none⟩ = some (.int .i64 0) ∧ w.frozen? ⟨m, k * 11 + 4, none⟩ = false) ∧ (w.cell? ⟨m, k * 11 + 5, none⟩ = some (.int .i64 0) ∧ w.frozen? ⟨m, k * 11 + 5, none⟩ = false) ∧ (w.cell? ⟨m, k * 11 + 6, none⟩ = some (.int .i64 0) ∧ w.frozen? ⟨m, k * 11 + 6, none⟩ = false) ∧ (w.cell? ⟨m, k * 11 + 7, none⟩ = some (.int .u64 0) ∧ w.frozen? ⟨m, k * 11 + 7, none⟩ = false) ∧ (w.cell? ⟨m, k * 11 + 8, none⟩ = some (.int .u64 0) ∧ w.frozen? ⟨m, k * 11 + 8, none⟩ = false) ∧ (w.cell? ⟨m, k * 11 + 9, none⟩ = some (.int .u64 0) ∧ w.frozen? ⟨m, k * 11 + 9, none⟩ = false) ∧ (w.cell? ⟨m, k * 11 + 10, none⟩ = some (.int .u64 0) ∧ w.frozen? ⟨m, k * 11 + 10, none⟩ = false) :=
  ⟨partP_cell h hk 0 (by decide), partP_cell h hk 1 (by decide), partP_cell h hk 2 (by decide), partP_cell h hk 3 (by decide), partP_cell h hk 4 (by decide), partP_cell h hk 5 (by decide), partP_cell h hk 6 (by decide), partP_cell h hk 7 (by decide), partP_cell h hk 8 (by decide), partP_cell h hk 9 (by decide), partP_cell h hk 10 (by decide)⟩
def World.setPg (w : World) (m k : Nat) (p : Pg) : World := ((((((((((w.setCell ⟨m, k * 11, none⟩ (.int .i64 p.kd)).setCell ⟨m, k * 11 + 1, none⟩ (.int .i64 p.od)).setCell ⟨m, k * 11 + 2, none⟩ (.int .i64 p.cl)).setCell ⟨m, k * 11 + 3, none⟩ (.int .i64 p.lv)).setCell ⟨m, k * 11 + 4, none⟩ (.int .i64 p.nx)).setCell ⟨m, k * 11 + 5, none⟩ (.int .i64 p.pv)).setCell ⟨m, k * 11 + 6, none⟩ (.int .i64 p.fs)).setCell ⟨m, k * 11 + 7, none⟩ (.int .u64 p.b0)).setCell ⟨m, k * 11 + 8, none⟩ (.int .u64 p.b1)).setCell ⟨m, k * 11 + 9, none⟩ (.int .u64 p.b2)).setCell ⟨m, k * 11 + 10, none⟩ (.int .u64 p.b3)
theorem put_row {w : World} {m x : Nat} {t : TypeId} {R : List Value} {v : Value} (h : w.heap[m]? = some (.cells R.toArray t (0, 0))) (hx : x < R.length) : (w.setCell ⟨m, x, none⟩ v).heap[m]? = some (.cells (R.set x v).toArray t (0, 0)) :=
  blk_put h x v (by simp)
theorem putP {W w : World} {m k : Nat} {t : TypeId} {xs : List Pg} {p : Pg} (hb : Below m W w) (hs : m < w.heap.size) (h : w.heap[m]? = some (rowP t (partP xs k))) (hk : k < xs.length) (hp : xs.getD k pg0 = p) : Below m W (World.setPg w m k p) ∧ m < (World.setPg w m k p).heap.size ∧ (World.setPg w m k p).heap[m]? = some (rowP t (partP xs (k + 1))) := by
  have hl : (pgVals (partP xs k)).length = xs.length * 11 := by rw [pgVals_len, partP_len _ _ (Nat.le_of_lt hk)]
  have e : pgVals (partP xs (k + 1)) = WB.setPg (pgVals (partP xs k)) k p := by
    rw [setPg_eq _ _ _ (by rw [partP_len _ _ (Nat.le_of_lt hk)]; exact hk), ← hp, partP_set xs k hk]
  unfold rowP at h ⊢
  rw [e]
  refine ⟨?_, ?_, ?_⟩
  · unfold World.setPg
    exact ((((((((((hb.setCell (Nat.le_refl _) _).setCell (Nat.le_refl _) _).setCell (Nat.le_refl _) _).setCell (Nat.le_refl _) _).setCell (Nat.le_refl _) _).setCell (Nat.le_refl _) _).setCell (Nat.le_refl _) _).setCell (Nat.le_refl _) _).setCell (Nat.le_refl _) _).setCell (Nat.le_refl _) _).setCell (Nat.le_refl _) _
  · simpa [World.setPg, World.setCell] using hs
  · unfold World.setPg WB.setPg
    refine put_row (put_row (put_row (put_row (put_row (put_row (put_row (put_row (put_row (put_row (put_row h ?_) ?_) ?_) ?_) ?_) ?_) ?_) ?_) ?_) ?_) ?_ <;> simp only [List.length_set, hl] <;> omega
theorem mem_row {rs : List (List Int)} {k : Nat} (hk : k < rs.length) : rs.getD k [] ∈ rs := by
  rw [List.getD_eq_getElem?_getD, List.getElem?_eq_getElem hk]
  exact List.getElem_mem hk
def prV (x : Nat × List Int) : Value := .slice (some ⟨x.1, 0, none⟩) x.2.length x.2.length
structure PrI (W : World) (rs : List (List Int)) (v : Value) (k : Nat) (L : List (Nat × List Int)) (wi : World) : Prop where
  rows : L.map (·.2) = rs.take k
  len : L.length = k
  below : Below W.heap.size W wi
  own : wi.ownsRow W.heap.size 28 1 v k (L.map prV)
  at_ : ∀ x ∈ L, W.heap.size ≤ x.1 ∧ x.1 < wi.heap.size ∧ v.ownBlock ≠ some x.1 ∧ wi.heap[x.1]? = some (rowO .u64 22 x.2)
theorem PrI.nil (W : World) (rs : List (List Int)) : PrI W rs (.slice none 0 0) 0 [] W := ⟨by simp, rfl, Below.refl _ _, World.ownsRow_nil _ _ _ _, fun x hx => by cases hx⟩
theorem PrI.later {W w w' : World} {rs : List (List Int)} {v : Value} {k : Nat} {L : List (Nat × List Int)} (h : PrI W rs v k L w) (hb : Below w.heap.size w w') : PrI W rs v k L w' :=
  ⟨h.rows, h.len, h.below.trans (hb.mono h.below.size), own_below h.own hb, fun x hx => by obtain ⟨a, b, c, d⟩ := h.at_ x hx; exact ⟨a, Nat.lt_of_lt_of_le b hb.size, c, (hb.block _ b).trans d⟩⟩
theorem PrI.step {W w1 w3 : World} {rs : List (List Int)} {v : Value} {k : Nat} {L : List (Nat × List Int)} {p g cap : Nat} {row : List Int} {o3 : Obj} (h : PrI W rs v k L w1) (hk : k < rs.length) (hrow : rs.getD k [] = row) (hpW : W.heap.size ≤ p) (hp : p < w1.heap.size) (hnp : v.ownBlock ≠ some p) (hx : w1.heap[p]? = some (rowO .u64 22 row))
    (hown : w3.ownsRow W.heap.size 28 1 (.slice (some ⟨g, 0, none⟩) (k + 1) cap) (k + 1) (L.map prV ++ [prV (p, row)])) (hgrow : (w1.alloc o3).grownBy w3 v.ownBlock) (hat : v.ownBlock = some g ∨ g = w1.heap.size + 1) :
    PrI W rs (.slice (some ⟨g, 0, none⟩) (k + 1) cap) (k + 1) (L ++ [(p, row)]) w3 := by
  have hs1 : (w1.alloc o3).heap.size = w1.heap.size + 1 := by simp
  have hs3 := hgrow.size
  have keep : ∀ b, b < w1.heap.size → v.ownBlock ≠ some b → w3.heap[b]? = w1.heap[b]? := fun b hb hne => by
    rw [hgrow.block b (by omega) (fun e => hne e.symm), Below.heap_alloc _ _ _ hb]
  refine ⟨?_, by rw [List.length_append, h.len]; rfl, below_grown (h.below.alloc h.below.size _) hgrow (fun g hg => (own_lt h.own hg).1), ?_, fun x hxm => ?_⟩
  · rw [List.map_append, h.rows, List.take_add_one, List.getElem?_eq_getElem hk]
    rw [List.getD_eq_getElem?_getD, List.getElem?_eq_getElem hk] at hrow
    rw [← hrow]
    rfl
  · rw [List.map_append]
    exact hown
  · have hg : (Value.slice (some ⟨g, 0, none⟩) (k + 1) cap).ownBlock = some g := rfl
    rw [hg]
    rcases List.mem_append.1 hxm with hxl | hxl
    · obtain ⟨a, b, c, d⟩ := h.at_ x hxl
      refine ⟨a, by omega, fun e => ?_, (keep _ b c).trans d⟩
      injection e with e
      rcases hat with hat | hat
      · exact c (by rw [hat, e])
      · omega
    · rw [List.mem_singleton.1 hxl]
      refine ⟨hpW, by omega, fun e => ?_, (keep _ hp hnp).trans hx⟩
      injection e with e
      rcases hat with hat | hat
      · exact hnp (by rw [hat, e])
      · omega
theorem PrI.slice {W wi : World} {rs : List (List Int)} {v : Value} {L : List (Nat × List Int)} (h : PrI W rs v rs.length L wi) :
    ∃ A cap, v = .slice A rs.length cap ∧ rs.length ≤ cap ∧ RowR (fun b => W.heap.size ≤ b ∧ b < wi.heap.size) wi A rs := by
  have hL : L.map (·.2) = rs := by rw [h.rows, List.take_length]
  have hlen := h.len
  rcases h.own.2 with ⟨hv, h0⟩ | ⟨g, cap, cur, hv, hb, hg, hc1, hc2, hc3, hc4⟩
  · exact ⟨none, 0, by rw [hv, h0], by omega, fun hp => by omega⟩
  · refine ⟨some ⟨g, 0, none⟩, cap, hv, hc1, fun _ => ⟨⟨g, 0, none⟩, rfl, ⟨hb, blk_lt hg⟩, fun i hi => ?_⟩⟩
    have hx : (L.map prV)[i]? = some (prV (L[i]'(by omega))) := by rw [List.getElem?_map, List.getElem?_eq_getElem (by omega)]; rfl
    rw [← hc4, List.getElem?_take, if_pos (by omega)] at hx
    have e : (⟨g, 0, none⟩ : Addr).add i = ⟨g, i, none⟩ := by unfold Addr.add; split <;> simp_all
    have hr : (L.map (·.2)).getD i [] = (L[i]'(by omega)).2 := by
      rw [List.getD_eq_getElem?_getD, List.getElem?_map, List.getElem?_eq_getElem (by omega)]
      rfl
    rw [hL] at hr
    obtain ⟨q1, q2, q3, q4⟩ := h.at_ _ (List.getElem_mem (show i < L.length by omega))
    rw [e, hr]
    exact ⟨_, _, Nat.le_refl _, (blk_cell hg _).trans (by simpa [prV] using hx), (rowO_row q4).mono (fun b hb => by rw [hb]; exact ⟨q1, q2⟩)⟩
theorem setIm_row {w : World} {g : Nat} {t : TypeId} {c0 c1 c2 c3 c4 c5 c6 c7 c8 v0 v1 v2 v3 v4 v5 v6 v7 v8 : Value} (h : w.heap[g]? = some (.cells #[c0, c1, c2, c3, c4, c5, c6, c7, c8] t (0, 0))) :
    (((((((((w.setCell ⟨g, 0, none⟩ v0).setCell ⟨g, 1, none⟩ v1).setCell ⟨g, 2, none⟩ v2).setCell ⟨g, 3, none⟩ v3).setCell ⟨g, 4, none⟩ v4).setCell ⟨g, 5, none⟩ v5).setCell ⟨g, 6, none⟩ v6).setCell ⟨g, 7, none⟩ v7).setCell ⟨g, 8, none⟩ v8).heap[g]? = some (.cells #[v0, v1, v2, v3, v4, v5, v6, v7, v8] t (0, 0)) := by
  have h0 : (w.setCell ⟨g, 0, none⟩ v0).heap[g]? = some (.cells #[v0, c1, c2, c3, c4, c5, c6, c7, c8] t (0, 0)) := blk_put h 0 v0 (by rfl)
  have h1 : ((w.setCell ⟨g, 0, none⟩ v0).setCell ⟨g, 1, none⟩ v1).heap[g]? = some (.cells #[v0, v1, c2, c3, c4, c5, c6, c7, c8] t (0, 0)) := blk_put h0 1 v1 (by rfl)
  have h2 : (((w.setCell ⟨g, 0, none⟩ v0).setCell ⟨g, 1, none⟩ v1).setCell ⟨g, 2, none⟩ v2).heap[g]? = some (.cells #[v0, v1, v2, c3, c4, c5, c6, c7, c8] t (0, 0)) := blk_put h1 2 v2 (by rfl)
  have h3 : ((((w.setCell ⟨g, 0, none⟩ v0).setCell ⟨g, 1, none⟩ v1).setCell ⟨g, 2, none⟩ v2).setCell ⟨g, 3, none⟩ v3).heap[g]? = some (.cells #[v0, v1, v2, v3, c4, c5, c6, c7, c8] t (0, 0)) := blk_put h2 3 v3 (by rfl)
  have h4 : (((((w.setCell ⟨g, 0, none⟩ v0).setCell ⟨g, 1, none⟩ v1).setCell ⟨g, 2, none⟩ v2).setCell ⟨g, 3, none⟩ v3).setCell ⟨g, 4, none⟩ v4).heap[g]? = some (.cells #[v0, v1, v2, v3, v4, c5, c6, c7, c8] t (0, 0)) := blk_put h3 4 v4 (by rfl)
  have h5 : ((((((w.setCell ⟨g, 0, none⟩ v0).setCell ⟨g, 1, none⟩ v1).setCell ⟨g, 2, none⟩ v2).setCell ⟨g, 3, none⟩ v3).setCell ⟨g, 4, none⟩ v4).setCell ⟨g, 5, none⟩ v5).heap[g]? = some (.cells #[v0, v1, v2, v3, v4, v5, c6, c7, c8] t (0, 0)) := blk_put h4 5 v5 (by rfl)
  have h6 : (((((((w.setCell ⟨g, 0, none⟩ v0).setCell ⟨g, 1, none⟩ v1).setCell ⟨g, 2, none⟩ v2).setCell ⟨g, 3, none⟩ v3).setCell ⟨g, 4, none⟩ v4).setCell ⟨g, 5, none⟩ v5).setCell ⟨g, 6, none⟩ v6).heap[g]? = some (.cells #[v0, v1, v2, v3, v4, v5, v6, c7, c8] t (0, 0)) := blk_put h5 6 v6 (by rfl)
  have h7 : ((((((((w.setCell ⟨g, 0, none⟩ v0).setCell ⟨g, 1, none⟩ v1).setCell ⟨g, 2, none⟩ v2).setCell ⟨g, 3, none⟩ v3).setCell ⟨g, 4, none⟩ v4).setCell ⟨g, 5, none⟩ v5).setCell ⟨g, 6, none⟩ v6).setCell ⟨g, 7, none⟩ v7).heap[g]? = some (.cells #[v0, v1, v2, v3, v4, v5, v6, v7, c8] t (0, 0)) := blk_put h6 7 v7 (by rfl)
  have h8 : (((((((((w.setCell ⟨g, 0, none⟩ v0).setCell ⟨g, 1, none⟩ v1).setCell ⟨g, 2, none⟩ v2).setCell ⟨g, 3, none⟩ v3).setCell ⟨g, 4, none⟩ v4).setCell ⟨g, 5, none⟩ v5).setCell ⟨g, 6, none⟩ v6).setCell ⟨g, 7, none⟩ v7).setCell ⟨g, 8, none⟩ v8).heap[g]? = some (.cells #[v0, v1, v2, v3, v4, v5, v6, v7, v8] t (0, 0)) := blk_put h7 8 v8 (by rfl)
  exact h8
theorem setIm_else {w : World} {g : Nat} {v0 v1 v2 v3 v4 v5 v6 v7 v8 : Value} : (∀ b, b ≠ g → (((((((((w.setCell ⟨g, 0, none⟩ v0).setCell ⟨g, 1, none⟩ v1).setCell ⟨g, 2, none⟩ v2).setCell ⟨g, 3, none⟩ v3).setCell ⟨g, 4, none⟩ v4).setCell ⟨g, 5, none⟩ v5).setCell ⟨g, 6, none⟩ v6).setCell ⟨g, 7, none⟩ v7).setCell ⟨g, 8, none⟩ v8).heap[b]? = w.heap[b]?) ∧ (((((((((w.setCell ⟨g, 0, none⟩ v0).setCell ⟨g, 1, none⟩ v1).setCell ⟨g, 2, none⟩ v2).setCell ⟨g, 3, none⟩ v3).setCell ⟨g, 4, none⟩ v4).setCell ⟨g, 5, none⟩ v5).setCell ⟨g, 6, none⟩ v6).setCell ⟨g, 7, none⟩ v7).setCell ⟨g, 8, none⟩ v8).heap.size = w.heap.size := by
  refine ⟨fun b hb => ?_, by simp [World.setCell]⟩
  have hh : ∀ (wx : World) (i : Nat) (v : Value), (wx.setCell ⟨g, i, none⟩ v).heap[b]? = wx.heap[b]? := fun wx i v => Below.heap_setCell wx _ _ _ hb
  rw [hh, hh, hh, hh, hh, hh, hh, hh, hh]
theorem setIm_below {n : Nat} {W w : World} {g : Nat} {v0 v1 v2 v3 v4 v5 v6 v7 v8 : Value} (h : Below n W w) (hg : n ≤ g) : Below n W (((((((((w.setCell ⟨g, 0, none⟩ v0).setCell ⟨g, 1, none⟩ v1).setCell ⟨g, 2, none⟩ v2).setCell ⟨g, 3, none⟩ v3).setCell ⟨g, 4, none⟩ v4).setCell ⟨g, 5, none⟩ v5).setCell ⟨g, 6, none⟩ v6).setCell ⟨g, 7, none⟩ v7).setCell ⟨g, 8, none⟩ v8) :=
  ((((((((h.setCell hg _).setCell hg _).setCell hg _).setCell hg _).setCell hg _).setCell hg _).setCell hg _).setCell hg _).setCell hg _
theorem rowP_row {w : World} {m : Nat} {t : TypeId} {L : List Pg} (h : w.heap[m]? = some (rowP t L)) : RowP (fun b => b = m) w (some ⟨m, 0, none⟩) L := by
  refine fun _ => ⟨_, rfl, rfl, fun i hi j v hv => ?_⟩
  have e5 : (⟨m, 0, none⟩ : Addr).add (i * 11 + j) = ⟨m, i * 11 + j, none⟩ := by unfold Addr.add; split <;> simp_all
  have hj : j < 11 := by
    have := (List.getElem?_eq_some_iff.1 hv).1
    rwa [cells_len] at this
  rw [e5, (rowP_cell h i hi j hj).1]
  exact hv
structure Cpy (w w' : World) (im : Im) (s' : Sl) (m1 m4 : Nat) : Prop where
  A : s'.A = some ⟨m1, 0, none⟩
  D : s'.D = some ⟨m4, 0, none⟩
  ne : m1 ≠ m4
  n1 : w.heap.size ≤ m1 ∧ m1 < w'.heap.size
  n4 : w.heap.size ≤ m4 ∧ m4 < w'.heap.size
  mem : w'.heap[m1]? = some (rowO .u8 5 im.mem)
  heads : w'.heap[m4]? = some (rowO .u64 22 im.heads)
  pages : RowP (fun b => w.heap.size ≤ b ∧ b < w'.heap.size ∧ b ≠ m1 ∧ b ≠ m4) w' s'.B im.pages
  pairs : RowR (fun b => w.heap.size ≤ b ∧ b < w'.heap.size ∧ b ≠ m1 ∧ b ≠ m4) w' s'.C im.pairs
  parts : RowI (fun b => w.heap.size ≤ b ∧ b < w'.heap.size ∧ b ≠ m1 ∧ b ≠ m4) w' s'.E .i64 im.parts
  cmem : im.mem.length ≤ s'.a
  cpages : im.pages.length ≤ s'.b
  cpairs : im.pairs.length ≤ s'.c
  cheads : im.heads.length ≤ s'.d
  cparts : im.parts.length ≤ s'.e
  below : Below w.heap.size w w'
theorem Cpy.at_ {w w' : World} {im : Im} {s' : Sl} {m1 m4 : Nat} (h : Cpy w w' im s' m1 m4) (hw : im.Wf) : ImAt (fun b => w.heap.size ≤ b ∧ b < w'.heap.size) w' im s' :=
  ⟨by rw [h.A]; exact (rowO_row h.mem).mono (fun b hb => hb ▸ h.n1), h.pages.mono (fun b hb => ⟨hb.1, hb.2.1⟩), h.pairs.mono (fun b hb => ⟨hb.1, hb.2.1⟩), by rw [h.D]; exact (rowO_row h.heads).mono (fun b hb => hb ▸ h.n4), h.parts.mono (fun b hb => ⟨hb.1, hb.2.1⟩), h.cmem, h.cpages, h.cpairs, h.cheads, h.cparts, hw⟩
theorem cpy_end {w WR W1 W2 W3 W4 W5 W6 : World} {im : Im} {m1 m2 m4 m5 cap : Nat} {Ap : Option Addr} (x1 : W1.heap[m1]? = some (rowO .u8 5 im.mem)) (b2 : Below m2 W1 W2) (x2 : W2.heap[m2]? = some (rowP 39 im.pages)) (b3 : Below W2.heap.size W2 W3) (b4 : Below m4 W3 W4) (x4 : W4.heap[m4]? = some (rowO .u64 22 im.heads)) (b5 : Below m5 W4 W5) (x5 : W5.heap[m5]? = some (rowO .i64 3 im.parts))
    (e1 : WR.heap.size = m1) (hw1 : w.heap.size + 1 < m1) (e2 : W1.heap.size = m2) (e4 : W3.heap.size = m4) (e5 : W4.heap.size = m5) (s1 : m1 < m2) (s2 : m2 < W2.heap.size) (s4 : m4 < m5) (s5 : m5 < W5.heap.size) (hr : RowR (fun b => W2.heap.size ≤ b ∧ b < W3.heap.size) W3 Ap im.pairs) (hc : im.pairs.length ≤ cap)
    (hk : ∀ b, b ≠ w.heap.size + 1 → W6.heap[b]? = W5.heap[b]?) (hs : W6.heap.size = W5.heap.size) (hb : Below w.heap.size w W6) :
    Cpy w W6 im ⟨some ⟨m1, 0, none⟩, im.mem.length, some ⟨m2, 0, none⟩, im.pages.length, Ap, cap, some ⟨m4, 0, none⟩, im.heads.length, some ⟨m5, 0, none⟩, im.parts.length⟩ m1 m4 := by
  have q3 := b3.size
  have k5 : ∀ b, w.heap.size + 1 < b → b < m5 → W6.heap[b]? = W4.heap[b]? := fun b h1 h2 => (hk b (by omega)).trans (b5.block b h2)
  have k4 : ∀ b, w.heap.size + 1 < b → b < m4 → W6.heap[b]? = W3.heap[b]? := fun b h1 h2 => (k5 b h1 (by omega)).trans (b4.block b h2)
  have k3 : ∀ b, w.heap.size + 1 < b → b < W2.heap.size → W6.heap[b]? = W2.heap[b]? := fun b h1 h2 => (k4 b h1 (by omega)).trans (b3.block b h2)
  have k2 : ∀ b, w.heap.size + 1 < b → b < m2 → W6.heap[b]? = W1.heap[b]? := fun b h1 h2 => (k3 b h1 (by omega)).trans (b2.block b h2)
  have y2 := (k3 m2 (by omega) (by omega)).trans x2
  have y5 := (hk m5 (by omega)).trans x5
  exact ⟨rfl, rfl, by omega, ⟨by omega, by omega⟩, ⟨by omega, by omega⟩, (k2 m1 (by omega) (by omega)).trans x1, (k5 m4 (by omega) (by omega)).trans x4, (rowP_row y2).mono (fun b hb => by subst hb; exact ⟨by omega, by omega, by omega, by omega⟩), (hr.keep (fun b hb => k4 b (by omega) (by omega))).mono (fun b hb => ⟨by omega, by omega, by omega, by omega⟩), (rowO_row y5).mono (fun b hb => by subst hb; exact ⟨by omega, by omega, by omega, by omega⟩), Nat.le_refl _, Nat.le_refl _, hc, Nat.le_refl _, Nat.le_refl _, hb⟩
theorem infoImg : (Try.prog.info? 31).map (·.size) = some 9 := by kernel_rfl
theorem infoSU : (Try.prog.info? 28).map (fun i => (i.zero, i.size, i.bytes)) = some (some (.slice none 0 0), 1, 24) := by kernel_rfl
structure Im.Fit (im : Im) : Prop where
  mem : im.mem.length ≤ 140737488355328
  pages : im.pages.length * 88 ≤ 140737488355328
  pairs : im.pairs.length * 24 ≤ 140737488355328
  rows : ∀ l ∈ im.pairs, l.length * 8 ≤ 140737488355328
  heads : im.heads.length * 8 ≤ 140737488355328
  parts : im.parts.length * 8 ≤ 140737488355328
section
variable {F : Nat → Prop} {im : Im} {s : Sl} {w : World}
set_option maxRecDepth 100000 in
set_option maxHeartbeats 4000000 in
theorem Copied_c (h : ImAt F w im s) (hF : ∀ b, F b → b < w.heap.size) (hfit : im.Fit) : Calls Try.prog 19 #[.agg (im.cells s)] w fun e w' => ∃ s' m1 m4, e = .returned (.agg (im.cells s')) ∧ Cpy w w' im s' m1 m4 := by
  obtain ⟨A, a, B, b, C, c, D, d, E, e⟩ := s
  obtain ⟨WA, hWA⟩ : ∃ W, w.alloc (imO im ⟨A, a, B, b, C, c, D, d, E, e⟩) = W := ⟨_, rfl⟩
  obtain ⟨hsa, hbl, hvl⟩ := box_facts h hF hWA
  have HBL := Lib.hid hbl
  have HVL := Lib.hid hvl
  have HFA := Lib.hid (show ∀ b, F b → b < WA.heap.size from fun b hb => by have := hF b hb; omega)
  have HWF := Lib.hid h.wf
  have hl := len_i64 h.wf
  obtain ⟨c0, c1, c2, c3, c4, c5, c6, c7, c8⟩ := (hvl WA (Below.refl _ _)).cell
  dsimp only at c0 c1 c2 c3 c4 c5 c6 c7 c8
  unfold imO Im.cells at hWA
  unfold Im.cells
  clear h hF hvl hbl
  obtain ⟨WR, hWR⟩ : ∃ W, WA.alloc (.cells #[.int .u64 0, .int .i64 0, .int .i64 0, .int .i64 0, .slice none 0 0, .slice none 0 0, .slice none 0 0, .slice none 0 0, .slice none 0 0] 31) = W := ⟨_, rfl⟩
  have HRV := Lib.hid (show WR.heap[WA.heap.size]? = some (.cells #[.int .u64 0, .int .i64 0, .int .i64 0, .int .i64 0, .slice none 0 0, .slice none 0 0, .slice none 0 0, .slice none 0 0, .slice none 0 0] 31 (0, 0)) from by rw [← hWR]; exact blk_new WA _)
  have HBR := Lib.hid (show Below WA.heap.size WA WR from by rw [← hWR]; exact (Below.refl _ _).alloc (Nat.le_refl _) _)
  have HSR := Lib.hid (show WR.heap.size = WA.heap.size + 1 from by rw [← hWR]; show (WA.heap.push _).size = _; rw [Array.size_push])
  have HBA0 := HBR
  have HSA := Lib.hid hsa
  have HFIT := Lib.hid hfit
  clear hl hfit
  obtain ⟨d0, d1, d2, d3, d4, d5, d6, d7, d8⟩ := (HVL.out WR HBA0.out).cell
  dsimp only at d0 d1 d2 d3 d4 d5 d6 d7 d8
  obtain ⟨WM, hWM⟩ : ∃ W, WR.alloc (rowO .u8 5 (List.replicate im.mem.length 0)) = W := ⟨_, rfl⟩
  have HMV := Lib.hid (show WM.heap[WR.heap.size]? = some (rowO .u8 5 (part im.mem 0)) from by rw [← hWM, part_zero]; exact blk_new WR _)
  have HMB := Lib.hid (show Below WR.heap.size WR WM from by rw [← hWM]; exact (Below.refl _ _).alloc (Nat.le_refl _) _)
  have HMS := Lib.hid (show WR.heap.size < WM.heap.size from by rw [← hWM]; show _ < (WR.heap.push _).size; rw [Array.size_push]; omega)
  have HLE := Lib.hid (show WA.heap.size ≤ WR.heap.size from HBA0.out.size)
  have HMK := fun wx : World => mk_u8 HFIT.out.mem .i64 wx
  have hlm : im.mem.length ≤ 9223372036854775807 := by have := HFIT.out.mem; omega
  have HLM := Lib.hid (show im.mem.length ≤ 140737488355328 from by have := HFIT.out.mem; omega)
  go_enter Try.func19, Try.ntmps19
  go_wp2
  clear c0 c1 c2 c3 c4 c5 c6 c7 c8 hWA hWR
  clear d0 d1 d2 d3 d4 d5 d6 d7 d8 hWM HMK
  generalize hm1 : WR.heap.size = m1 at *
  have HM1 := Lib.hid hm1
  clear hm1
  go_loopg [4, 19, 20, 21, 22, 23, 24, 25, 26, 27, 28, 29, 30, 31, 32, 33] im.mem.length (fun g v4 _ _ _ _ _ _ _ _ _ _ _ _ _ _ _ wi => ∃ (k : Nat), v4 = .int .i64 (k : Int) ∧ Aside0 (k + g = im.mem.length) ∧ Aside0 (Below m1 WR wi ∧ m1 < wi.heap.size ∧ wi.heap[m1]? = some (rowO .u8 5 (part im.mem k))))
  case atStart => exact ⟨0, rfl, ⟨by omega⟩, ⟨HMB.out, HMS.out, HMV.out⟩⟩
  case round =>
    obtain ⟨k, rfl, hkg, hbl⟩ := hrel
    have HX := Lib.hid hbl.out
    have HBA := Lib.hid (show Below WA.heap.size WA wr from HBA0.out.trans (hbl.out.1.mono (by have := HLE.out; omega)))
    obtain ⟨c0, c1, c2, c3, c4, c5, c6, c7, c8⟩ := (HVL.out wr HBA.out).cell
    dsimp only at c0 c1 c2 c3 c4 c5 c6 c7 c8
    by_cases hk : k < im.mem.length
    case pos =>
      obtain ⟨t1, t2⟩ := lt_dec hk
      have hkI : (k : Int) < (im.mem.length : Int) := by omega
      obtain ⟨g1, rfl⟩ := lp_pos hkg.out hk
      have HG := Lib.hid (lp_step hkg.out)
      have n1 : wrap64 ((k : Int) + 1) = (k : Int) + 1 := up1 (by have := HLM.out; omega)
      have HK := Lib.hid hk
      obtain ⟨ad, eA, -, hx⟩ := (HVL.out wr HBA.out).im.mem (Nat.lt_of_le_of_lt (Nat.zero_le _) hk)
      dsimp only at eA
      have ck := hx k hk
      obtain ⟨e1, f1⟩ := rowO_cell hbl.out.2.2 k (by rw [part_len _ _ (Nat.le_of_lt hk)]; exact hk)
      clear hkg hbl hx hk
      rw [eA] at c4
      go_wp2
      go_roundg g1
      case measure => omega
      case rel => exact ⟨k + 1, by simp; try exact n1, ⟨HG.out⟩, ⟨HX.out.1.setCell (Nat.le_refl _) _, by simpa [World.setCell] using HX.out.2.1, rowO_put HX.out.2.2 HK.out⟩⟩
    obtain ⟨t1, t2⟩ := nlt_dec hk
    have hkn : k = im.mem.length := by have := hkg.out; omega
    subst hkn
    have HX1 := Lib.hid (show wr.heap[m1]? = some (rowO .u8 5 (im.mem)) from by have := HX.out.2.2; rwa [part_all] at this)
    have HB1 := Lib.hid HX.out.1
    have HS1 := Lib.hid HX.out.2.1
    have HBA1 := Lib.hid HBA.out
    clear hk hkg hbl HX HBA HMV HMB HMS HLE hlm HLM
    generalize wr = W1 at *
    obtain ⟨d0, d1, d2, d3, d4, d5, d6, d7, d8⟩ := (HVL.out W1 HBA1.out).cell
    dsimp only at d0 d1 d2 d3 d4 d5 d6 d7 d8
    obtain ⟨WM, hWM⟩ : ∃ W, W1.alloc (rowP 39 (List.replicate im.pages.length pg0)) = W := ⟨_, rfl⟩
    have HMV := Lib.hid (show WM.heap[W1.heap.size]? = some (rowP 39 (partP im.pages 0)) from by rw [← hWM, partP_zero]; exact blk_new W1 _)
    have HMB := Lib.hid (show Below W1.heap.size W1 WM from by rw [← hWM]; exact (Below.refl _ _).alloc (Nat.le_refl _) _)
    have HMS := Lib.hid (show W1.heap.size < WM.heap.size from by rw [← hWM]; show _ < (W1.heap.push _).size; rw [Array.size_push]; omega)
    have HLE := Lib.hid (show WA.heap.size ≤ W1.heap.size from HBA1.out.size)
    have HMK := fun wx : World => mk_pg HFIT.out.pages .i64 wx
    have hlm : im.pages.length ≤ 9223372036854775807 := by have := HFIT.out.pages; omega
    have HLM := Lib.hid (show im.pages.length ≤ 140737488355328 from by have := HFIT.out.pages; omega)
    go_wp2
    clear c0 c1 c2 c3 c4 c5 c6 c7 c8
    clear d0 d1 d2 d3 d4 d5 d6 d7 d8 hWM HMK
    generalize hm2 : W1.heap.size = m2 at *
    have HM2 := Lib.hid hm2
    clear hm2
    go_loopg [6, 38, 39, 40, 41, 42, 43, 44, 45, 46, 47, 48, 49, 50, 51, 52] im.pages.length (fun g v4 _ _ _ _ _ _ _ _ _ _ _ _ _ _ _ wi => ∃ (k : Nat), v4 = .int .i64 (k : Int) ∧ Aside0 (k + g = im.pages.length) ∧ Aside0 (Below m2 W1 wi ∧ m2 < wi.heap.size ∧ wi.heap[m2]? = some (rowP 39 (partP im.pages k))))
    case atStart => exact ⟨0, rfl, ⟨by omega⟩, ⟨HMB.out, HMS.out, HMV.out⟩⟩
    case round =>
      obtain ⟨k, rfl, hkg, hbl⟩ := hrel
      have HX := Lib.hid hbl.out
      have HBA := Lib.hid (show Below WA.heap.size WA wr from HBA1.out.trans (hbl.out.1.mono (by have := HLE.out; omega)))
      obtain ⟨c0, c1, c2, c3, c4, c5, c6, c7, c8⟩ := (HVL.out wr HBA.out).cell
      dsimp only at c0 c1 c2 c3 c4 c5 c6 c7 c8
      by_cases hk : k < im.pages.length
      case pos =>
        obtain ⟨t1, t2⟩ := lt_dec hk
        have hkI : (k : Int) < (im.pages.length : Int) := by omega
        obtain ⟨g1, rfl⟩ := lp_pos hkg.out hk
        have HG := Lib.hid (lp_step hkg.out)
        have n1 : wrap64 ((k : Int) + 1) = (k : Int) + 1 := up1 (by have := HLM.out; omega)
        have HK := Lib.hid hk
        obtain ⟨ad, eA, -, hx⟩ := (HVL.out wr HBA.out).im.pages (Nat.lt_of_le_of_lt (Nat.zero_le _) hk)
        dsimp only at eA
        obtain ⟨p0, p1, p2, p3, p4, p5, p6, p7, p8, p9, p10⟩ := rowP_page (show RowP F wr (some ad) im.pages from by have := (HVL.out wr HBA.out).im.pages; dsimp only at this; rwa [eA] at this) k hk
        obtain ⟨⟨q0, z0⟩, ⟨q1, z1⟩, ⟨q2, z2⟩, ⟨q3, z3⟩, ⟨q4, z4⟩, ⟨q5, z5⟩, ⟨q6, z6⟩, ⟨q7, z7⟩, ⟨q8, z8⟩, ⟨q9, z9⟩, ⟨q10, z10⟩⟩ := partP_cells hbl.out.2.2 hk
        obtain ⟨pg, hpg⟩ : ∃ p, im.pages.getD k pg0 = p := ⟨_, rfl⟩
        have HPG := Lib.hid hpg
        rw [hpg] at p0 p1 p2 p3 p4 p5 p6 p7 p8 p9 p10
        clear hkg hbl hx hk hpg
        rw [eA] at c5
        go_upto_region 10 with (fail)
        go_wp2
        go_roundg g1
        case measure => omega
        case rel => exact ⟨k + 1, by simp; try exact n1, ⟨HG.out⟩, ⟨putP HX.out.1 HX.out.2.1 HX.out.2.2 HK.out HPG.out⟩⟩
      obtain ⟨t1, t2⟩ := nlt_dec hk
      have hkn : k = im.pages.length := by have := hkg.out; omega
      subst hkn
      have HX2 := Lib.hid (show wr.heap[m2]? = some (rowP 39 (im.pages)) from by have := HX.out.2.2; rwa [partP_all] at this)
      have HB2 := Lib.hid HX.out.1
      have HS2 := Lib.hid HX.out.2.1
      have HBA2 := Lib.hid HBA.out
      clear hk hkg hbl HX HBA HMV HMB HMS HLE hlm HLM
      generalize wr = W2 at *
      clear c0 c1 c2 c3 c4 c5 c6 c7 c8
      obtain ⟨c0, c1, c2, c3, c4, c5, c6, c7, c8⟩ := (HVL.out W2 HBA2.out).cell
      dsimp only at c0 c1 c2 c3 c4 c5 c6 c7 c8
      have hlp : im.pairs.length ≤ 9223372036854775807 := by have := HFIT.out.pairs; omega
      go_wp2
      clear c0 c1 c2 c3 c4 c5 c6 c7 c8
      have HP0 := Lib.hid (PrI.nil W2 im.pairs)
      go_loopg [7, 8, 9, 10, 53, 54, 55, 56, 57, 58, 59, 60, 61, 62, 63, 64, 65, 66, 67, 68, 69, 70, 71, 72, 73, 74, 75, 76, 77, 78, 79, 80, 81, 82, 83, 84, 85, 86, 87] im.pairs.length (fun g v7 v8 _ _ _ _ _ _ _ _ _ _ _ _ _ _ _ _ _ _ _ _ _ _ _ _ _ _ _ _ _ _ _ _ _ _ _ _ _ wi => ∃ (k : Nat) (L : List (Nat × List Int)), v8 = .int .i64 (k : Int) ∧ Aside0 (k + g = im.pairs.length) ∧ Aside0 (PrI W2 im.pairs v7 k L wi))
      case atStart => exact ⟨0, [], rfl, ⟨by omega⟩, ⟨HP0.out⟩⟩
      case round =>
        obtain ⟨k, L, rfl, hkg, hbl⟩ := hrel
        have HX := Lib.hid hbl.out
        have HBA := Lib.hid (show Below WA.heap.size WA wr from HBA2.out.trans (hbl.out.below.mono HBA2.out.size))
        obtain ⟨c0, c1, c2, c3, c4, c5, c6, c7, c8⟩ := (HVL.out wr HBA.out).cell
        dsimp only at c0 c1 c2 c3 c4 c5 c6 c7 c8
        by_cases hk : k < im.pairs.length
        case pos =>
          obtain ⟨t1, t2⟩ := lt_dec hk
          have hkI : (k : Int) < (im.pairs.length : Int) := by omega
          obtain ⟨g1, rfl⟩ := lp_pos hkg.out hk
          have HG := Lib.hid (lp_step hkg.out)
          have HK := Lib.hid hk
          have n1 : wrap64 ((k : Int) + 1) = (k : Int) + 1 := up1 (by have := HFIT.out.pairs; omega)
          obtain ⟨ad, eA, -, hrows⟩ := (HVL.out wr HBA.out).im.pairs (Nat.lt_of_le_of_lt (Nat.zero_le _) hk)
          dsimp only at eA
          obtain ⟨B', cB, hcB, hcell, hrowi⟩ := hrows k hk
          have hlm := HFIT.out.rows _ (mem_row hk)
          obtain ⟨l, hl⟩ : ∃ l, im.pairs.getD k [] = l := ⟨_, rfl⟩
          have HL := Lib.hid hl
          rw [hl] at hcB hcell hrowi hlm
          have HLM := Lib.hid hlm
          have hll : l.length ≤ 9223372036854775807 := by omega
          have HMK := fun wx : World => mk_u64 hlm .i64 wx
          obtain ⟨WM, hWM⟩ : ∃ W, wr.alloc (rowO .u64 22 (List.replicate l.length 0)) = W := ⟨_, rfl⟩
          have HMV := Lib.hid (show WM.heap[wr.heap.size]? = some (rowO .u64 22 (part l 0)) from by rw [← hWM, part_zero]; exact blk_new wr _)
          have HMB := Lib.hid (show Below wr.heap.size wr WM from by rw [← hWM]; exact (Below.refl _ _).alloc (Nat.le_refl _) _)
          have HMS := Lib.hid (show wr.heap.size < WM.heap.size from by rw [← hWM]; show _ < (wr.heap.push _).size; rw [Array.size_push]; omega)
          have HLE := Lib.hid (show WA.heap.size ≤ wr.heap.size from HBA.out.size)
          have HLE2 := Lib.hid (show W2.heap.size ≤ wr.heap.size from hbl.out.below.size)
          have HOWN := Lib.hid (show ∀ x, u7.ownBlock = some x → x < wr.heap.size from fun x hx => (own_lt hbl.out.own hx).2)
          rw [eA] at c6
          clear hkg hbl hrows hcB hrowi hk hl hlm
          go_wp2
          clear c0 c1 c2 c3 c4 c5 c6 c7 c8 hWM HMK hcell
          clear eA
          generalize wr = W3 at *
          generalize hm3 : W3.heap.size = m3 at *
          have HM3 := Lib.hid hm3
          clear hm3
          go_loopg [10, 67, 68, 69, 70, 71, 72, 73, 74, 75, 76, 77, 78, 79, 80, 81, 82, 83] l.length (fun g v10 _ _ _ _ _ _ _ _ _ _ _ _ _ _ _ _ _ wi => ∃ (k : Nat), v10 = .int .i64 (k : Int) ∧ Aside0 (k + g = l.length) ∧ Aside0 (Below m3 W3 wi ∧ m3 < wi.heap.size ∧ wi.heap[m3]? = some (rowO .u64 22 (part l k))))
          case atStart => exact ⟨0, rfl, ⟨by omega⟩, ⟨HMB.out, HMS.out, HMV.out⟩⟩
          case round =>
            obtain ⟨j, rfl, hjg, hjl⟩ := hrel
            have HX3 := Lib.hid hjl.out
            have HBA3 := Lib.hid (show Below WA.heap.size WA wr from HBA.out.trans (hjl.out.1.mono HLE.out))
            obtain ⟨c0, c1, c2, c3, c4, c5, c6, c7, c8⟩ := (HVL.out wr HBA3.out).cell
            dsimp only at c0 c1 c2 c3 c4 c5 c6 c7 c8
            by_cases hj : j < l.length
            case pos =>
              obtain ⟨x1, x2⟩ := lt_dec hj
              have hjI : (j : Int) < (l.length : Int) := by omega
              obtain ⟨g2, rfl⟩ := lp_pos hjg.out hj
              have HGJ := Lib.hid (lp_step hjg.out)
              have HJ := Lib.hid hj
              have j1 : wrap64 ((j : Int) + 1) = (j : Int) + 1 := up1 (by have := HLM.out; omega)
              obtain ⟨ad, eA, -, hrows⟩ := (HVL.out wr HBA3.out).im.pairs (Nat.lt_of_le_of_lt (Nat.zero_le _) HK.out)
              dsimp only at eA
              obtain ⟨B', cB, hcB, hcell, hrowi⟩ := hrows k HK.out
              rw [HL.out] at hcB hcell hrowi
              obtain ⟨ad2, eB, -, hx2⟩ := hrowi (Nat.lt_of_le_of_lt (Nat.zero_le _) hj)
              subst eB
              have ck := hx2 j hj
              obtain ⟨e1, f1⟩ := rowO_cell hjl.out.2.2 j (by rw [part_len _ _ (Nat.le_of_lt hj)]; exact hj)
              rw [eA] at c6
              clear hjg hjl hrows hcB hrowi hj hx2
              go_wp2
              go_roundg g2
              case measure => omega
              case rel => exact ⟨j + 1, by simp; try exact j1, ⟨HGJ.out⟩, ⟨HX3.out.1.setCell (Nat.le_refl _) _, by simpa [World.setCell] using HX3.out.2.1, rowO_put HX3.out.2.2 HJ.out⟩⟩
            obtain ⟨x1, x2⟩ := nlt_dec hj
            have hjn : j = l.length := by have := hjg.out; omega
            subst hjn
            have HXR := Lib.hid (show wr.heap[m3]? = some (rowO .u64 22 l) from by have := HX3.out.2.2; rwa [part_all] at this)
            have HPR := Lib.hid (show PrI W2 im.pairs u7 k L wr from HX.out.later (HM3.out ▸ HX3.out.1))
            have HOW := Lib.hid HPR.out.own
            obtain ⟨i0, hi0, hz0, hz1, hz2⟩ := info_parts infoSU
            have HI0 := Lib.hid hi0
            have HML := Lib.hid (show k + 1 ≤ maxLen by have := HK.out; have := HFIT.out.pairs; unfold maxLen; omega)
            have HBY := Lib.hid (show (k + 1) * 24 ≤ 140737488355328 by have := HK.out; have := HFIT.out.pairs; omega)
            have HSZ := Lib.hid (show W2.heap.size ≤ wr.heap.size from HPR.out.below.size)
            clear hj hjg hjl hi0
            go_wp2_with (at_builtin; refine wpList_append_lies _ (by rfl) _ _ _ (by rfl) W2.heap.size 28 i0 _ 1 24 Try.underlying27 HI0.out hz0 hz1 hz2 rfl (by omega) _ k (L.map prV) (by rfl) (HOW.out.alloc _) ⟨wr.heap.size, 0, none⟩ 1 1 [prV (m3, l)] (by rfl) (by rfl) (World.news_of_block (cs := #[prV (m3, l)]) (t := 28) (fr := (0, 0)) (heap_alloc_new wr _)) (by simp [Value.oneCell', prV]) (by omega) HML.out HBY.out (by have := HSZ.out; simp; omega) (wr.heap.size + 1) (by simp) ?_; intro g cap w3 hown3 hgrow3 hat3 hlt3; have HOWN3 := Lib.hid hown3; have HGROW3 := Lib.hid hgrow3; have HAT3 := Lib.hid hat3; clear hown3 hgrow3 hat3 hlt3)
            go_roundg g1
            case measure => omega
            case rel => exact ⟨k + 1, L ++ [(m3, l)], by simp; try exact n1, ⟨HG.out⟩, ⟨PrI.step HPR.out HK.out HL.out HLE2.out HX3.out.2.1 (fun e => by have := HOWN.out _ e; omega) HXR.out HOWN3.out HGROW3.out HAT3.out⟩⟩
        obtain ⟨t1, t2⟩ := nlt_dec hk
        have hkn : k = im.pairs.length := by have := hkg.out; omega
        subst hkn
        have HP3 := Lib.hid HX.out
        have HBA3 := Lib.hid HBA.out
        clear hk hkg hbl HX HBA hlp
        generalize wr = W3 at *
        obtain ⟨d0, d1, d2, d3, d4, d5, d6, d7, d8⟩ := (HVL.out W3 HBA3.out).cell
        dsimp only at d0 d1 d2 d3 d4 d5 d6 d7 d8
        obtain ⟨WM, hWM⟩ : ∃ W, W3.alloc (rowO .u64 22 (List.replicate im.heads.length 0)) = W := ⟨_, rfl⟩
        have HMV := Lib.hid (show WM.heap[W3.heap.size]? = some (rowO .u64 22 (part im.heads 0)) from by rw [← hWM, part_zero]; exact blk_new W3 _)
        have HMB := Lib.hid (show Below W3.heap.size W3 WM from by rw [← hWM]; exact (Below.refl _ _).alloc (Nat.le_refl _) _)
        have HMS := Lib.hid (show W3.heap.size < WM.heap.size from by rw [← hWM]; show _ < (W3.heap.push _).size; rw [Array.size_push]; omega)
        have HLE := Lib.hid (show WA.heap.size ≤ W3.heap.size from HBA3.out.size)
        have HMK := fun wx : World => mk_u64 HFIT.out.heads .i64 wx
        have hlm : im.heads.length ≤ 9223372036854775807 := by have := HFIT.out.heads; omega
        have HLM := Lib.hid (show im.heads.length ≤ 140737488355328 from by have := HFIT.out.heads; omega)
        go_wp2
        clear c0 c1 c2 c3 c4 c5 c6 c7 c8
        clear d0 d1 d2 d3 d4 d5 d6 d7 d8 hWM HMK
        generalize hm4 : W3.heap.size = m4 at *
        have HM4 := Lib.hid hm4
        clear hm4
        go_loopg [12, 92, 93, 94, 95, 96, 97, 98, 99, 100, 101, 102, 103, 104, 105, 106] im.heads.length (fun g v4 _ _ _ _ _ _ _ _ _ _ _ _ _ _ _ wi => ∃ (k : Nat), v4 = .int .i64 (k : Int) ∧ Aside0 (k + g = im.heads.length) ∧ Aside0 (Below m4 W3 wi ∧ m4 < wi.heap.size ∧ wi.heap[m4]? = some (rowO .u64 22 (part im.heads k))))
        case atStart => exact ⟨0, rfl, ⟨by omega⟩, ⟨HMB.out, HMS.out, HMV.out⟩⟩
        case round =>
          obtain ⟨k, rfl, hkg, hbl⟩ := hrel
          have HX := Lib.hid hbl.out
          have HBA := Lib.hid (show Below WA.heap.size WA wr from HBA3.out.trans (hbl.out.1.mono (by have := HLE.out; omega)))
          obtain ⟨c0, c1, c2, c3, c4, c5, c6, c7, c8⟩ := (HVL.out wr HBA.out).cell
          dsimp only at c0 c1 c2 c3 c4 c5 c6 c7 c8
          by_cases hk : k < im.heads.length
          case pos =>
            obtain ⟨t1, t2⟩ := lt_dec hk
            have hkI : (k : Int) < (im.heads.length : Int) := by omega
            obtain ⟨g1, rfl⟩ := lp_pos hkg.out hk
            have HG := Lib.hid (lp_step hkg.out)
            have n1 : wrap64 ((k : Int) + 1) = (k : Int) + 1 := up1 (by have := HLM.out; omega)
            have HK := Lib.hid hk
            obtain ⟨ad, eA, -, hx⟩ := (HVL.out wr HBA.out).im.heads (Nat.lt_of_le_of_lt (Nat.zero_le _) hk)
            dsimp only at eA
            have ck := hx k hk
            obtain ⟨e1, f1⟩ := rowO_cell hbl.out.2.2 k (by rw [part_len _ _ (Nat.le_of_lt hk)]; exact hk)
            clear hkg hbl hx hk
            rw [eA] at c7
            go_wp2
            go_roundg g1
            case measure => omega
            case rel => exact ⟨k + 1, by simp; try exact n1, ⟨HG.out⟩, ⟨HX.out.1.setCell (Nat.le_refl _) _, by simpa [World.setCell] using HX.out.2.1, rowO_put HX.out.2.2 HK.out⟩⟩
          obtain ⟨t1, t2⟩ := nlt_dec hk
          have hkn : k = im.heads.length := by have := hkg.out; omega
          subst hkn
          have HX4 := Lib.hid (show wr.heap[m4]? = some (rowO .u64 22 (im.heads)) from by have := HX.out.2.2; rwa [part_all] at this)
          have HB4 := Lib.hid HX.out.1
          have HS4 := Lib.hid HX.out.2.1
          have HBA4 := Lib.hid HBA.out
          clear hk hkg hbl HX HBA HMV HMB HMS HLE hlm HLM
          generalize wr = W4 at *
          obtain ⟨d0, d1, d2, d3, d4, d5, d6, d7, d8⟩ := (HVL.out W4 HBA4.out).cell
          dsimp only at d0 d1 d2 d3 d4 d5 d6 d7 d8
          obtain ⟨WM, hWM⟩ : ∃ W, W4.alloc (rowO .i64 3 (List.replicate im.parts.length 0)) = W := ⟨_, rfl⟩
          have HMV := Lib.hid (show WM.heap[W4.heap.size]? = some (rowO .i64 3 (part im.parts 0)) from by rw [← hWM, part_zero]; exact blk_new W4 _)
          have HMB := Lib.hid (show Below W4.heap.size W4 WM from by rw [← hWM]; exact (Below.refl _ _).alloc (Nat.le_refl _) _)
          have HMS := Lib.hid (show W4.heap.size < WM.heap.size from by rw [← hWM]; show _ < (W4.heap.push _).size; rw [Array.size_push]; omega)
          have HLE := Lib.hid (show WA.heap.size ≤ W4.heap.size from HBA4.out.size)
          have HMK := fun wx : World => mk_i64 HFIT.out.parts .i64 wx
          have hlm : im.parts.length ≤ 9223372036854775807 := by have := HFIT.out.parts; omega
          have HLM := Lib.hid (show im.parts.length ≤ 140737488355328 from by have := HFIT.out.parts; omega)
          go_wp2
          clear c0 c1 c2 c3 c4 c5 c6 c7 c8
          clear d0 d1 d2 d3 d4 d5 d6 d7 d8 hWM HMK
          generalize hm5 : W4.heap.size = m5 at *
          have HM5 := Lib.hid hm5
          clear hm5
          go_loopg [14, 111, 112, 113, 114, 115, 116, 117, 118, 119, 120, 121, 122, 123, 124, 125] im.parts.length (fun g v4 _ _ _ _ _ _ _ _ _ _ _ _ _ _ _ wi => ∃ (k : Nat), v4 = .int .i64 (k : Int) ∧ Aside0 (k + g = im.parts.length) ∧ Aside0 (Below m5 W4 wi ∧ m5 < wi.heap.size ∧ wi.heap[m5]? = some (rowO .i64 3 (part im.parts k))))
          case atStart => exact ⟨0, rfl, ⟨by omega⟩, ⟨HMB.out, HMS.out, HMV.out⟩⟩
          case round =>
            obtain ⟨k, rfl, hkg, hbl⟩ := hrel
            have HX := Lib.hid hbl.out
            have HBA := Lib.hid (show Below WA.heap.size WA wr from HBA4.out.trans (hbl.out.1.mono (by have := HLE.out; omega)))
            obtain ⟨c0, c1, c2, c3, c4, c5, c6, c7, c8⟩ := (HVL.out wr HBA.out).cell
            dsimp only at c0 c1 c2 c3 c4 c5 c6 c7 c8
            by_cases hk : k < im.parts.length
            case pos =>
              obtain ⟨t1, t2⟩ := lt_dec hk
              have hkI : (k : Int) < (im.parts.length : Int) := by omega
              obtain ⟨g1, rfl⟩ := lp_pos hkg.out hk
              have HG := Lib.hid (lp_step hkg.out)
              have n1 : wrap64 ((k : Int) + 1) = (k : Int) + 1 := up1 (by have := HLM.out; omega)
              have HK := Lib.hid hk
              obtain ⟨ad, eA, -, hx⟩ := (HVL.out wr HBA.out).im.parts (Nat.lt_of_le_of_lt (Nat.zero_le _) hk)
              dsimp only at eA
              have ck := hx k hk
              obtain ⟨e1, f1⟩ := rowO_cell hbl.out.2.2 k (by rw [part_len _ _ (Nat.le_of_lt hk)]; exact hk)
              clear hkg hbl hx hk
              rw [eA] at c8
              go_wp2
              go_roundg g1
              case measure => omega
              case rel => exact ⟨k + 1, by simp; try exact n1, ⟨HG.out⟩, ⟨HX.out.1.setCell (Nat.le_refl _) _, by simpa [World.setCell] using HX.out.2.1, rowO_put HX.out.2.2 HK.out⟩⟩
            obtain ⟨t1, t2⟩ := nlt_dec hk
            have hkn : k = im.parts.length := by have := hkg.out; omega
            subst hkn
            have HX5 := Lib.hid (show wr.heap[m5]? = some (rowO .i64 3 (im.parts)) from by have := HX.out.2.2; rwa [part_all] at this)
            have HB5 := Lib.hid HX.out.1
            have HS5 := Lib.hid HX.out.2.1
            have HBA5 := Lib.hid HBA.out
            clear hk hkg hbl HX HBA HMV HMB HMS HLE hlm HLM
            generalize wr = W5 at *
            obtain ⟨Ap, cap, hv7, hcap, hrr⟩ := HP3.out.slice
            subst hv7
            have HCAP := Lib.hid hcap
            have HRR := Lib.hid hrr
            have HCH := Lib.hid (show Below m1 WR W5 from by
              have s1 := HB1.out.size; have s2 := HB2.out.size; have s3 := HP3.out.below.size; have s4 := HB4.out.size
              have q1 := HM1.out; have q2 := HM2.out; have q4 := HM4.out; have q5 := HM5.out
              exact HB1.out.trans ((HB2.out.mono (by omega)).trans ((HP3.out.below.mono (by omega)).trans ((HB4.out.mono (by omega)).trans (HB5.out.mono (by omega))))))
            have hrv : W5.heap[w.heap.size + 1]? = some (.cells #[.int .u64 0, .int .i64 0, .int .i64 0, .int .i64 0, .slice none 0 0, .slice none 0 0, .slice none 0 0, .slice none 0 0, .slice none 0 0] 31 (0, 0)) := by
              have q1 := HM1.out; have q2 := HSR.out; have q3 := HSA.out
              rw [HCH.out.block _ (by omega), ← HSA.out]
              exact HRV.out
            have r0 := blk_cell hrv 0
            have r1 := blk_cell hrv 1
            have r2 := blk_cell hrv 2
            have r3 := blk_cell hrv 3
            have r4 := blk_cell hrv 4
            have r5 := blk_cell hrv 5
            have r6 := blk_cell hrv 6
            have r7 := blk_cell hrv 7
            have r8 := blk_cell hrv 8
            simp at r0 r1 r2 r3 r4 r5 r6 r7 r8
            have y0 := blk_frozen hrv 0
            have y1 := blk_frozen hrv 1
            have y2 := blk_frozen hrv 2
            have y3 := blk_frozen hrv 3
            have y4 := blk_frozen hrv 4
            have y5 := blk_frozen hrv 5
            have y6 := blk_frozen hrv 6
            have y7 := blk_frozen hrv 7
            have y8 := blk_frozen hrv 8
            have HRVB := Lib.hid hrv
            clear hrv hcap hrr
            go_wp2
            refine bodyPost_ret (results_cell_row (by rfl) _ _ (w.heap.size + 1) 31 _ (0, 0) _ (by rfl) (setIm_row HRVB.out) Try.underlying31 rfl infoImg) rfl ?_
            refine ⟨_, m1, m4, rfl, cpy_end HX1.out HB2.out HX2.out HP3.out.below HB4.out HX4.out HB5.out HX5.out HM1.out (by have q1 := HM1.out; have q2 := HSR.out; have q3 := HSA.out; omega) HM2.out HM4.out HM5.out HS1.out HS2.out HS4.out HS5.out HRR.out HCAP.out setIm_else.1 setIm_else.2 (setIm_below (HBL.out _ HBA5.out) (Nat.le_succ _))⟩
end
end Go.Proofs.Ytkgedpcipaogjaa.WB
end
section
namespace Go.Proofs.Ytkgedpcipaogjaa.WB
open Go Go.RowKit Go.Proofs.YtkgedpcipaogjaaW.PrintWords Go.Proofs.YtkgedpcipaogjaaW.PrintLast Go.Proofs.YtkgedpcipaogjaaW.PrintMore
set_option linter.unusedVariables false
set_option linter.unusedSimpArgs false
set_option maxRecDepth 100000 in
theorem arr4_eq (d : Nat) (a b c e : Int) (w : World) : (Op.equalIn (d + 1 + 1) 37 (.agg #[.int .u64 a, .int .u64 b, .int .u64 c, .int .u64 e]) (.agg #[.int .u64 a, .int .u64 b, .int .u64 c, .int .u64 e])).run Try.prog w = .ok true w := by
  rw [Op.equalIn]
  simp only [Sem.run_bind, run_underlying Try.underlying37, Result.andThen_ok]
  have hz : (sizeOf 22).run Try.prog w = .ok 1 w := by kernel_rfl
  have hi : ∀ x : Int, (Op.equalIn (d + 1) 22 (.int .u64 x) (.int .u64 x)).run Try.prog w = .ok true w := fun x => by
    rw [run_equalIn_int w d _ .u64 .u64 x x Try.underlying22]
    simp
  have hp : ∀ (xs : Array Value) (i : Nat) (x : Int), xs[i]? = some (.int .u64 x) → (Go.part 22 xs i).run Try.prog w = .ok (.int .u64 x) w := fun xs i x h => by
    simp [Go.part, h]
  rw [hz]
  simp only [Result.andThen_ok, Nat.mul_one]
  rw [Std.Legacy.Range.forIn_eq_forIn_range']
  simp only [Std.Legacy.Range.size, Nat.sub_zero, Nat.add_sub_cancel, Nat.div_one, List.range'_succ, List.range'_zero, List.forIn_cons, List.forIn_nil, Sem.run_bind]
  have h0 := hp #[.int .u64 a, .int .u64 b, .int .u64 c, .int .u64 e] 0 a rfl
  have h1 := hp #[.int .u64 a, .int .u64 b, .int .u64 c, .int .u64 e] 1 b rfl
  have h2 := hp #[.int .u64 a, .int .u64 b, .int .u64 c, .int .u64 e] 2 c rfl
  have h3 := hp #[.int .u64 a, .int .u64 b, .int .u64 c, .int .u64 e] 3 e rfl
  simp [h0, h1, h2, h3, hi]
end Go.Proofs.Ytkgedpcipaogjaa.WB
end
section
namespace Go.Proofs.Ytkgedpcipaogjaa.WB
open Go Go.RowKit Go.Proofs.YtkgedpcipaogjaaW.PrintWords Go.Proofs.YtkgedpcipaogjaaW.PrintLast Go.Proofs.YtkgedpcipaogjaaW.PrintMore
set_option linter.unusedVariables false
set_option linter.unusedSimpArgs false
set_option maxRecDepth 100000 in
set_option maxHeartbeats 1000000 in
theorem bsame_t {F G : Nat → Prop} {w : World} {A B : Option Addr} {ca cb : Nat} {bs : List Int} (ha : RowI F w A .u8 bs) (hb : RowI G w B .u8 bs) (hl : bs.length ≤ 140737488355328) :
    Calls Try.prog 35 #[.slice A bs.length ca, .slice B bs.length cb] w fun e w' => e = .returned (.bool true) ∧ ∃ n, w' = w.drewN n := by
  have HA := Lib.hid ha
  have HB := Lib.hid hb
  have HL := Lib.hid hl
  have t3 : ((bs.length : Int) != (bs.length : Int)) = false := by simp
  have hl9 : bs.length ≤ 9223372036854775807 := by omega
  clear ha hb hl
  go_enter Try.func35, Try.ntmps35
  go_wp2
  go_loopg [5, 11, 12, 13, 14, 15, 16, 17, 18, 19, 20, 21, 22, 23, 24, 25] bs.length (fun g v5 _ _ _ _ _ _ _ _ _ _ _ _ _ _ _ wi => ∃ (k : Nat), v5 = .int .i64 (k : Int) ∧ Aside0 (k + g = bs.length) ∧ Aside0 (∃ n, wi = w.drewN n))
  case atStart => exact ⟨0, rfl, ⟨by omega⟩, ⟨0, rfl⟩⟩
  case round =>
    obtain ⟨k, rfl, hkg, hn⟩ := hrel
    obtain ⟨n, rfl⟩ := hn.out
    by_cases hk : k < bs.length
    case neg =>
      obtain ⟨t1, t2⟩ := nlt_dec hk
      clear hk hkg
      go_wp2
      go_ret
      exact ⟨rfl, _, rfl⟩
    obtain ⟨t1, t2⟩ := lt_dec hk
    have hkI : (k : Int) < (bs.length : Int) := by omega
    obtain ⟨g1, rfl⟩ := lp_pos hkg.out hk
    have HG := Lib.hid (lp_step hkg.out)
    obtain ⟨aa, eA, -, hxa⟩ := HA.out (by omega)
    obtain ⟨ab, eB, -, hxb⟩ := HB.out (by omega)
    subst eA eB
    have a0 := hxa k hk
    have b0 := hxb k hk
    have n1 : wrap64 ((k : Int) + 1) = (k : Int) + 1 := up1 (by have := HL.out; omega)
    clear hxa hxb hk hkg
    generalize bs.getD k 0 = b at *
    go_wp2
    go_quiet (fail)
    go_wp2
    go_roundg g1
    case measure => omega
    case rel => exact ⟨k + 1, by simp; try exact n1, ⟨HG.out⟩, ⟨_, by first | rfl | exact World.drewN_drewN _ _ _⟩⟩
set_option maxRecDepth 100000 in
set_option maxHeartbeats 2000000 in
theorem psame_t {F G : Nat → Prop} {w : World} {A B : Option Addr} {ca cb : Nat} {bs : List Pg} (ha : RowP F w A bs) (hb : RowP G w B bs) (hl : bs.length ≤ 140737488355328) :
    Calls Try.prog 36 #[.slice A bs.length ca, .slice B bs.length cb] w fun e w' => e = .returned (.bool true) ∧ ∃ n, w' = w.drewN n := by
  have HA := Lib.hid ha
  have HB := Lib.hid hb
  have HL := Lib.hid hl
  have t3 : ((bs.length : Int) != (bs.length : Int)) = false := by simp
  have hl9 : bs.length ≤ 9223372036854775807 := by omega
  clear ha hb hl
  go_enter Try.func36, Try.ntmps36
  go_wp2
  go_loopg [5, 11, 12, 13, 14, 15, 16, 17, 18, 19, 20, 21, 22, 23, 24, 25] bs.length (fun g v5 _ _ _ _ _ _ _ _ _ _ _ _ _ _ _ wi => ∃ (k : Nat), v5 = .int .i64 (k : Int) ∧ Aside0 (k + g = bs.length) ∧ Aside0 (∃ n, wi = w.drewN n))
  case atStart => exact ⟨0, rfl, ⟨by omega⟩, ⟨0, rfl⟩⟩
  case round =>
    obtain ⟨k, rfl, hkg, hn⟩ := hrel
    obtain ⟨n, rfl⟩ := hn.out
    by_cases hk : k < bs.length
    case neg =>
      obtain ⟨t1, t2⟩ := nlt_dec hk
      clear hk hkg
      go_wp2
      go_ret
      exact ⟨rfl, _, rfl⟩
    obtain ⟨t1, t2⟩ := lt_dec hk
    have hkI : (k : Int) < (bs.length : Int) := by omega
    obtain ⟨g1, rfl⟩ := lp_pos hkg.out hk
    have HG := Lib.hid (lp_step hkg.out)
    obtain ⟨aa, eA, -, hxa⟩ := HA.out (by omega)
    obtain ⟨ab, eB, -, hxb⟩ := HB.out (by omega)
    subst eA eB
    obtain ⟨p0, p1, p2, p3, p4, p5, p6, p7, p8, p9, p10⟩ := rowP_page HA.out k hk
    obtain ⟨q0, q1, q2, q3, q4, q5, q6, q7, q8, q9, q10⟩ := rowP_page HB.out k hk
    have n1 : wrap64 ((k : Int) + 1) = (k : Int) + 1 := up1 (by have := HL.out; omega)
    clear hxa hxb hk hkg
    generalize bs.getD k pg0 = b at *
    obtain ⟨m0, m1, m2, m3, m4, m5, m6, m7, m8, m9, m10⟩ := b
    have HAR := fun wx => arr4_eq 9997 m7 m8 m9 m10 wx
    dsimp only at p0 p1 p2 p3 p4 p5 p6 p7 p8 p9 p10 q0 q1 q2 q3 q4 q5 q6 q7 q8 q9 q10
    go_wp2
    go_quiet (fail)
    go_wp2
    go_roundg g1
    case measure => omega
    case rel => exact ⟨k + 1, by simp; try exact n1, ⟨HG.out⟩, ⟨_, by first | rfl | exact World.drewN_drewN _ _ _⟩⟩
section
variable {F G : Nat → Prop} {im : Im} {s s' : Sl} {w : World}
set_option maxRecDepth 100000 in
set_option maxHeartbeats 8000000 in
theorem Alike_t (h : ImAt F w im s) (hF : ∀ b, F b → b < w.heap.size) (h' : ImAt G w im s') (hG : ∀ b, G b → b < w.heap.size) : Calls Try.prog 21 #[.agg (im.cells s), .agg (im.cells s')] w (DocP w (.bool true)) := by
  obtain ⟨A, a, B, b, C, c, D, d, E, e⟩ := s
  obtain ⟨A', a', B', b', C', c', D', d', E', e'⟩ := s'
  obtain ⟨WA, hWA⟩ : ∃ W, w.alloc (imO im ⟨A, a, B, b, C, c, D, d, E, e⟩) = W := ⟨_, rfl⟩
  obtain ⟨hsa, hbl, hvl⟩ := box_facts h hF hWA
  have h2 : ImAt G WA im ⟨A', a', B', b', C', c', D', d', E', e'⟩ := h'.keep (fun b hb => by rw [← hWA]; exact Below.heap_alloc w _ b (hG b hb))
  obtain ⟨WZ, hWZ⟩ : ∃ W, WA.alloc (imO im ⟨A', a', B', b', C', c', D', d', E', e'⟩) = W := ⟨_, rfl⟩
  obtain ⟨hsz, hbz, hvz⟩ := box_facts h2 (fun b hb => by have := hG b hb; omega) hWZ
  have HBL := Lib.hid (fun (wr : World) (hr : Below WZ.heap.size WZ wr) => hbl wr (hbz wr hr))
  have HVL := Lib.hid (fun (wr : World) (hr : Below WZ.heap.size WZ wr) => hvl wr (hbz wr hr))
  have HVZ := Lib.hid hvz
  have HWF := Lib.hid h.wf
  have HSZ := Lib.hid hsa
  obtain ⟨c0, c1, c2, c3, c4, c5, c6, c7, c8⟩ := (HVL.out WZ (Below.refl _ _)).cell
  obtain ⟨d0, d1, d2, d3, d4, d5, d6, d7, d8⟩ := (hvz WZ (Below.refl _ _)).cell
  dsimp only at c0 c1 c2 c3 c4 c5 c6 c7 c8 d0 d1 d2 d3 d4 d5 d6 d7 d8
  unfold imO Im.cells at hWA hWZ
  unfold Im.cells
  rw [hsa] at d0 d1 d2 d3 d4 d5 d6 d7 d8
  have HSA := Lib.hid (fun (wx : World) (n : Nat) (hx : wx = WZ.drewN n) => bsame_t (ca := a) (cb := a') (show RowI F wx A .u8 im.mem from by rw [hx]; exact (HVL.out WZ (Below.refl _ _)).im.mem) (show RowI G wx A' .u8 im.mem from by rw [hx]; exact (HVZ.out WZ (Below.refl _ _)).im.mem) (by have := HWF.out.lmem; omega))
  have HSP := Lib.hid (fun (wx : World) (n : Nat) (hx : wx = WZ.drewN n) => psame_t (ca := b) (cb := b') (show RowP F wx B im.pages from by rw [hx]; exact (HVL.out WZ (Below.refl _ _)).im.pages) (show RowP G wx B' im.pages from by rw [hx]; exact (HVZ.out WZ (Below.refl _ _)).im.pages) (by have := HWF.out.lpages; omega))
  clear h h' h2 hF hG hvl hbl hvz hbz
  have t1 : ((im.pairs.length : Int) != (im.pairs.length : Int)) = false := by simp
  have t2 : ((im.heads.length : Int) != (im.heads.length : Int)) = false := by simp
  have t3 : ((im.parts.length : Int) != (im.parts.length : Int)) = false := by simp
  go_enter Try.func21, Try.ntmps21
  go_upto_region 3 with (first
    | (go_at_call 35; refine (HSA.out _ 0 rfl).mono ?_; rintro e w4 ⟨rfl, n4, rfl⟩)
    | (go_at_call 36; refine (HSP.out _ _ rfl).mono ?_; rintro e w5 ⟨rfl, n5, rfl⟩))
  clear hWA hWZ
  go_wp2
  go_loopg [5, 6, 71, 72, 73, 74, 75, 76, 77, 78, 79, 80, 81, 82, 83, 94, 95, 96, 97, 98, 99, 100, 101, 102, 103, 104, 105, 106, 107, 108, 109, 110] im.pairs.length (fun g v5 v6 _ _ _ _ _ _ _ _ _ _ _ _ _ _ _ _ _ _ _ _ _ _ _ _ _ _ _ _ _ _ wi => ∃ (k : Nat), v5 = .int .i64 (k : Int) ∧ Aside0 (k + g = im.pairs.length) ∧ Aside0 (∃ n, wi = WZ.drewN n))
  case atStart => exact ⟨0, rfl, ⟨by omega⟩, ⟨_, by first | rfl | exact World.drewN_drewN _ _ _⟩⟩
  case round =>
    obtain ⟨k, rfl, hkg, hn⟩ := hrel
    obtain ⟨n, rfl⟩ := hn.out
    by_cases hk : k < im.pairs.length
    case pos =>
      obtain ⟨t4, t5⟩ := lt_dec hk
      have hkI : (k : Int) < (im.pairs.length : Int) := by omega
      obtain ⟨g1, rfl⟩ := lp_pos hkg.out hk
      have HG := Lib.hid (lp_step hkg.out)
      obtain ⟨aa, eA, -, hxa⟩ := (HVL.out WZ (Below.refl _ _)).im.pairs (Nat.lt_of_le_of_lt (Nat.zero_le _) hk)
      obtain ⟨ab, eB, -, hxb⟩ := (HVZ.out WZ (Below.refl _ _)).im.pairs (Nat.lt_of_le_of_lt (Nat.zero_le _) hk)
      dsimp only at eA eB
      obtain ⟨P1, q1, -, a0, hr1⟩ := hxa k hk
      obtain ⟨P2, q2, -, b0, hr2⟩ := hxb k hk
      have hll := HWF.out.lrows _ (mem_row hk)
      have n1 : wrap64 ((k : Int) + 1) = (k : Int) + 1 := up1 (by have := HWF.out.lpairs; omega)
      clear hxa hxb hk hkg hn
      generalize im.pairs.getD k [] = ls at *
      have t6 : ((ls.length : Int) != (ls.length : Int)) = false := by simp
      have hl9 : ls.length ≤ 9223372036854775807 := by omega
      rw [eA] at c6
      rw [eB] at d6
      have HR1 := Lib.hid hr1
      have HR2 := Lib.hid hr2
      have HLL := Lib.hid hll
      clear hr1 hr2 hll
      go_wp2
      go_quiet (fail)
      go_wp2
      go_loopg [6, 94, 95, 96, 97, 98, 99, 100, 101, 102, 103, 104, 105, 106, 107, 108, 109, 110] ls.length (fun g v _ _ _ _ _ _ _ _ _ _ _ _ _ _ _ _ _ wi => ∃ (j : Nat), v = .int .i64 (j : Int) ∧ Aside0 (j + g = ls.length) ∧ Aside0 (∃ n, wi = WZ.drewN n))
      case atStart => exact ⟨0, rfl, ⟨by omega⟩, ⟨_, by first | rfl | exact World.drewN_drewN _ _ _⟩⟩
      case round =>
        obtain ⟨j, rfl, hjg, hn⟩ := hrel
        obtain ⟨n, rfl⟩ := hn.out
        by_cases hj : j < ls.length
        case pos =>
          obtain ⟨t7, t8⟩ := lt_dec hj
          have hjI : (j : Int) < (ls.length : Int) := by omega
          obtain ⟨g2, rfl⟩ := lp_pos hjg.out hj
          have HG2 := Lib.hid (lp_step hjg.out)
          obtain ⟨ba, eA2, -, hya⟩ := HR1.out (Nat.lt_of_le_of_lt (Nat.zero_le _) hj)
          obtain ⟨bb, eB2, -, hyb⟩ := HR2.out (Nat.lt_of_le_of_lt (Nat.zero_le _) hj)
          subst eA2 eB2
          have a2 := hya j hj
          have b2 := hyb j hj
          have n2 : wrap64 ((j : Int) + 1) = (j : Int) + 1 := up1 (by have := HLL.out; omega)
          clear hya hyb hj hjg hn
          generalize ls.getD j 0 = y at *
          go_wp2
          go_quiet (fail)
          go_wp2
          go_roundg g2
          case measure => omega
          case rel => exact ⟨j + 1, by simp; try exact n2, ⟨HG2.out⟩, ⟨_, by first | rfl | exact World.drewN_drewN _ _ _⟩⟩
        obtain ⟨t7, t8⟩ := nlt_dec hj
        clear hj hjg hn
        go_wp2
        go_roundg g1
        case measure => omega
        case rel => exact ⟨k + 1, by simp; try exact n1, ⟨HG.out⟩, ⟨_, by first | rfl | exact World.drewN_drewN _ _ _⟩⟩
    obtain ⟨t4, t5⟩ := nlt_dec hk
    clear hk hkg hn
    go_wp2
    go_loopg [7, 118, 119, 120, 121, 122, 123, 124, 125, 126, 127, 128] im.heads.length (fun g v _ _ _ _ _ _ _ _ _ _ _ wi => ∃ (k : Nat), v = .int .i64 (k : Int) ∧ Aside0 (k + g = im.heads.length) ∧ Aside0 (∃ n, wi = WZ.drewN n))
    case atStart => exact ⟨0, rfl, ⟨by omega⟩, ⟨_, by first | rfl | exact World.drewN_drewN _ _ _⟩⟩
    case round =>
      obtain ⟨k, rfl, hkg, hn⟩ := hrel
      obtain ⟨n, rfl⟩ := hn.out
      by_cases hk : k < im.heads.length
      case pos =>
        obtain ⟨t4, t5⟩ := lt_dec hk
        have hkI : (k : Int) < (im.heads.length : Int) := by omega
        obtain ⟨g1, rfl⟩ := lp_pos hkg.out hk
        have HG := Lib.hid (lp_step hkg.out)
        obtain ⟨aa, eA, -, hxa⟩ := (HVL.out WZ (Below.refl _ _)).im.heads (Nat.lt_of_le_of_lt (Nat.zero_le _) hk)
        obtain ⟨ab, eB, -, hxb⟩ := (HVZ.out WZ (Below.refl _ _)).im.heads (Nat.lt_of_le_of_lt (Nat.zero_le _) hk)
        dsimp only at eA eB
        have a0 := hxa k hk
        have b0 := hxb k hk
        have n1 : wrap64 ((k : Int) + 1) = (k : Int) + 1 := up1 (by have := HWF.out.lheads; omega)
        clear hxa hxb hk hkg hn
        generalize im.heads.getD k 0 = b at *
        rw [eA] at c7
        rw [eB] at d7
        go_wp2
        go_quiet (fail)
        go_wp2
        go_roundg g1
        case measure => omega
        case rel => exact ⟨k + 1, by simp; try exact n1, ⟨HG.out⟩, ⟨_, by first | rfl | exact World.drewN_drewN _ _ _⟩⟩
      obtain ⟨t4, t5⟩ := nlt_dec hk
      clear hk hkg hn
      go_wp2
      go_loopg [8, 136, 137, 138, 139, 140, 141, 142, 143, 144, 145, 146] im.parts.length (fun g v _ _ _ _ _ _ _ _ _ _ _ wi => ∃ (k : Nat), v = .int .i64 (k : Int) ∧ Aside0 (k + g = im.parts.length) ∧ Aside0 (∃ n, wi = WZ.drewN n))
      case atStart => exact ⟨0, rfl, ⟨by omega⟩, ⟨_, by first | rfl | exact World.drewN_drewN _ _ _⟩⟩
      case round =>
        obtain ⟨k, rfl, hkg, hn⟩ := hrel
        obtain ⟨n, rfl⟩ := hn.out
        by_cases hk : k < im.parts.length
        case pos =>
          obtain ⟨t4, t5⟩ := lt_dec hk
          have hkI : (k : Int) < (im.parts.length : Int) := by omega
          obtain ⟨g1, rfl⟩ := lp_pos hkg.out hk
          have HG := Lib.hid (lp_step hkg.out)
          obtain ⟨aa, eA, -, hxa⟩ := (HVL.out WZ (Below.refl _ _)).im.parts (Nat.lt_of_le_of_lt (Nat.zero_le _) hk)
          obtain ⟨ab, eB, -, hxb⟩ := (HVZ.out WZ (Below.refl _ _)).im.parts (Nat.lt_of_le_of_lt (Nat.zero_le _) hk)
          dsimp only at eA eB
          have a0 := hxa k hk
          have b0 := hxb k hk
          have n1 : wrap64 ((k : Int) + 1) = (k : Int) + 1 := up1 (by have := HWF.out.lparts; omega)
          clear hxa hxb hk hkg hn
          generalize im.parts.getD k 0 = b at *
          rw [eA] at c8
          rw [eB] at d8
          go_wp2
          go_quiet (fail)
          go_wp2
          go_roundg g1
          case measure => omega
          case rel => exact ⟨k + 1, by simp; try exact n1, ⟨HG.out⟩, ⟨_, by first | rfl | exact World.drewN_drewN _ _ _⟩⟩
        obtain ⟨t4, t5⟩ := nlt_dec hk
        clear hk hkg hn
        go_wp2
        go_ret
        exact ⟨rfl, HBL.out _ (pw_below_drewN (Below.refl _ _) _)⟩
end
end Go.Proofs.Ytkgedpcipaogjaa.WB
end
section
namespace Go.Proofs.Ytkgedpcipaogjaa.WB
open Go Go.RowKit Go.Proofs.YtkgedpcipaogjaaW.PrintWords Go.Proofs.YtkgedpcipaogjaaW.PrintLast Go.Proofs.YtkgedpcipaogjaaW.PrintMore Go.Proofs.Ytkgedpcipaogjaa.Mem
set_option linter.unusedVariables false
set_option linter.unusedSimpArgs false
theorem own_obj {w : World} {base n size g cap : Nat} {e : TypeId} {xs : List Value} (h : w.ownsRow base e size (.slice (some ⟨g, 0, none⟩) n cap) n xs) : ∃ cur : Array Value, base ≤ g ∧ w.heap[g]? = some (.cells cur e (0, 0)) ∧ n ≤ cap ∧ cap ≤ maxLen ∧ cur.size = cap * size ∧ cur.toList.take (n * size) = xs := by
  rcases h.2 with ⟨e1, -⟩ | ⟨g', cap', cur, e1, h1, h2, h3, h4, h5, h6⟩
  · cases e1
  · injection e1 with e1 e2 e3
    injection e1 with e1
    injection e1 with e1 e4 e5
    subst e1 e3
    exact ⟨cur, h1, h2, h3, h4, h5, h6⟩
theorem own_put {w : World} {base n size g cap : Nat} {e : TypeId} {xs : List Value} (h : w.ownsRow base e size (.slice (some ⟨g, 0, none⟩) n cap) n xs) (j : Nat) (u : Value) : (w.setCell ⟨g, j, none⟩ u).ownsRow base e size (.slice (some ⟨g, 0, none⟩) n cap) n (xs.set j u) := by
  obtain ⟨cur, h1, h2, h3, h4, h5, h6⟩ := own_obj h
  refine ⟨by rw [List.length_set]; exact h.1, .inr ⟨g, cap, cur.setIfInBounds j u, rfl, h1, blk_put h2 j u rfl, h3, h4, by simpa using h5, ?_⟩⟩
  rw [Array.toList_setIfInBounds, List.take_set, h6]
theorem own_cell {w : World} {base n size g cap : Nat} {e : TypeId} {xs : List Value} (h : w.ownsRow base e size (.slice (some ⟨g, 0, none⟩) n cap) n xs) {j : Nat} (hj : j < n * size) : w.cell? ⟨g, j, none⟩ = xs[j]? ∧ w.frozen? ⟨g, j, none⟩ = false := by
  obtain ⟨cur, h1, h2, h3, h4, h5, h6⟩ := own_obj h
  refine ⟨(blk_cell h2 j).trans ?_, blk_frozen h2 _⟩
  rw [← h6, List.getElem?_take, if_pos hj]
  simp
theorem set_two (p q : Value) (R : List Value) (k j : Nat) (v : Value) : (p :: q :: R).set ((k + 1) * 2 + j) v = p :: q :: R.set (k * 2 + j) v := by
  rw [show (k + 1) * 2 + j = k * 2 + j + 1 + 1 by omega, List.set_cons_succ, List.set_cons_succ]
theorem bVals_set : ∀ (l : List (Int × Int)) (k : Nat) (b : Int × Int), k < l.length → ((bVals l).set (k * 2) (.int .u64 b.1)).set (k * 2 + 1) (.int .u64 b.2) = bVals (l.set k b)
  | [], k, b, h => by simp at h
  | c :: l, 0, b, _ => by
    rw [List.set_cons_zero, bVals, bVals]
    rfl
  | c :: l, k + 1, b, h => by
    rw [List.set_cons_succ, bVals, bVals, ← bVals_set l k b (by simpa using h)]
    have h1 := set_two (.int .u64 c.1) (.int .u64 c.2) (bVals l) k 0 (.int .u64 b.1)
    have h2 := set_two (.int .u64 c.1) (.int .u64 c.2) ((bVals l).set (k * 2) (.int .u64 b.1)) k 1 (.int .u64 b.2)
    simp only [Nat.add_zero] at h1
    rw [h1, h2]
def sv (bs : List (Int × Int)) (k : Nat) : List (Int × Int) := List.replicate k (7, 7) ++ bs.drop k
theorem sv_zero (bs : List (Int × Int)) : sv bs 0 = bs := by simp [sv]
theorem sv_all (bs : List (Int × Int)) : sv bs bs.length = List.replicate bs.length (7, 7) := by simp [sv]
theorem sv_len {bs : List (Int × Int)} {k : Nat} (h : k ≤ bs.length) : (sv bs k).length = bs.length := by simp [sv]; omega
theorem sv_set {bs : List (Int × Int)} {k : Nat} (h : k < bs.length) : (sv bs k).set k (7, 7) = sv bs (k + 1) := by
  unfold sv
  rw [List.set_append_right _ _ (by simp), List.length_replicate, Nat.sub_self, List.drop_eq_getElem_cons h, List.set_cons_zero, List.replicate_succ', List.append_assoc]
  rfl
structure SvI (W : World) (g n cap : Nat) (bs : List (Int × Int)) (wi : World) : Prop where
  upd : Upd (fun b => b = g) W wi
  size : wi.heap.size = W.heap.size
  own : wi.ownsRow 0 42 2 (.slice (some ⟨g, 0, none⟩) n cap) n (bVals bs)
theorem SvI.put {W : World} {g n cap k : Nat} {bs : List (Int × Int)} {wi : World} (h : SvI W g n cap (sv bs k) wi) (hk : k < bs.length) : SvI W g n cap (sv bs (k + 1)) ((wi.setCell ⟨g, k * 2, none⟩ (.int .u64 7)).setCell ⟨g, k * 2 + 1, none⟩ (.int .u64 7)) := by
  refine ⟨⟨h.upd.os, h.upd.tape, h.upd.output, by simpa [World.setCell] using h.upd.size, fun j hj hn => ?_⟩, by simpa [World.setCell] using h.size, ?_⟩
  · rw [Below.heap_setCell _ _ _ _ hn, Below.heap_setCell _ _ _ _ hn]
    exact h.upd.block j hj hn
  · have := own_put (own_put h.own (k * 2) (.int .u64 7)) (k * 2 + 1) (.int .u64 7)
    have e := bVals_set (sv bs k) k (7, 7) (by rw [sv_len (Nat.le_of_lt hk)]; exact hk)
    rw [sv_set hk] at e
    rw [← e]
    exact this
section
variable {P : Program} (w : World)
theorem run_append_two (t ty : TypeId) (base : Nat) (e : TypeId) (i : TypeInfo) (z : Value) (size bytes : Nat) (ht : P.underlying t = some (.slice e)) (hi : P.info? e = some i) (hz : i.zero = some z)
    (hsize : i.size = size) (hby : i.bytes = bytes) (hzs : z.cells.size = size) (hsz : 0 < size)
    (v : Value) (n : Nat) (xs : List Value) (hown : w.ownsRow base e size v n xs)
    (ad : Addr) (m c : Nat) (news : List Value) (hl : news.length = m * size) (hnews : ∀ j u, news[j]? = some u → w.cell? (ad.add j) = some u) (h1 : ∀ u ∈ news, u.oneCell' = true)
    (hm : 0 < m) (h63 : n + m ≤ maxLen) (hbytes : (n + m) * bytes ≤ 140737488355328) (hbase : base ≤ w.heap.size) :
    ∃ g cap w', (Builtin.append_ #[t, t] ty #[v, .slice (some ad) m c]).run P w = .ok (.slice (some ⟨g, 0, none⟩) (n + m) cap) w' ∧
      w'.ownsRow base e size (.slice (some ⟨g, 0, none⟩) (n + m) cap) (n + m) (xs ++ news) ∧ (v = .slice (some ⟨g, 0, none⟩) n cap ∧ w.grownBy w' (some g) ∨ g = w.heap.size ∧ w.grownBy w' none) := by
  obtain ⟨g, cap, w', hr, h2, h3, h4, h5⟩ := run_append_lies (P := P) w t ty base e i z size bytes ht hi hz hsize hby hzs hsz v n xs hown ad m c news hl hnews h1 hm h63 hbytes hbase _ rfl
  refine ⟨g, cap, w', hr, h2, ?_⟩
  have hmx : n + m ≤ 9223372036854775807 := by simp only [maxLen] at h63; omega
  rcases hown.2 with ⟨rfl, rfl⟩ | ⟨g0, cap0, cur, rfl, hb0, hg0, hc1, hc2, hc3, hc4⟩
  · rcases h4 with h4 | h4
    · cases h4
    · exact .inr ⟨h4, h3⟩
  · subst hsize
    subst hby
    by_cases hroom : n + m ≤ cap0
    · have hfit : n * i.size + news.length ≤ cur.size := by rw [hl, hc3, ← Nat.add_mul]; exact Nat.mul_le_mul_right _ hroom
      have hr2 := run_append_room (P := P) w t ty e i ht hi g0 n cap0 cur hg0 ad m c news hl hnews h1 hroom hfit
      rw [hr] at hr2
      injection hr2 with e1 e2
      injection e1 with e1 e3 e4
      injection e1 with e1
      injection e1 with e1 e5 e6
      subst e1 e4
      exact .inl ⟨rfl, h3⟩
    · have hr2 := run_append_grow (P := P) w t ty e i z ht hi hz ⟨g0, 0, none⟩ n cap0 xs hown.1 (hown.cells (g := g0) rfl) ad m c news hl hnews (by omega) (by omega) (growslice_fits (by omega) hbytes)
      rw [hr] at hr2
      injection hr2 with e1 e2
      injection e1 with e1 e3 e4
      injection e1 with e1
      injection e1 with e1 e5 e6
      subst e2
      exact .inr ⟨e1, ⟨rfl, rfl, rfl, by simp, fun k hk _ => Below.heap_alloc w.drew _ k hk⟩⟩
theorem wpList_append_two {ops : Array Oper} {rest : List Oper} {o : Oper} {a : Act} {Q : Exit → Act → World → Prop} (hgd : o.guard = none) (s x : Operand) (t : TypeId)
    (ho : o.op = .call { callee := .builtin .append, args := #[s, x], argTypes := #[t, t] })
    (base : Nat) (e : TypeId) (i : TypeInfo) (z : Value) (size bytes : Nat) (ht : P.underlying t = some (.slice e)) (hi : P.info? e = some i) (hz : i.zero = some z)
    (hsize : i.size = size) (hby : i.bytes = bytes) (hzs : z.cells.size = size) (hsz : 0 < size)
    (v : Value) (n : Nat) (xs : List Value) (hs : a.eval s = v) (hown : w.ownsRow base e size v n xs)
    (ad : Addr) (m c : Nat) (news : List Value) (hx : a.eval x = .slice (some ad) m c) (hl : news.length = m * size) (hnews : ∀ j u, news[j]? = some u → w.cell? (ad.add j) = some u) (h1 : ∀ u ∈ news, u.oneCell' = true)
    (hm : 0 < m) (h63 : n + m ≤ maxLen) (hbytes : (n + m) * bytes ≤ 140737488355328) (hbase : base ≤ w.heap.size)
    (h : ∀ g cap w', w'.ownsRow base e size (.slice (some ⟨g, 0, none⟩) (n + m) cap) (n + m) (xs ++ news) → (v = .slice (some ⟨g, 0, none⟩) n cap ∧ w.grownBy w' (some g) ∨ g = w.heap.size ∧ w.grownBy w' none) → wpList P ops Q rest (a.put o.dst (.slice (some ⟨g, 0, none⟩) (n + m) cap)) w') : wpList P ops Q (o :: rest) a w := by
  refine wpList_plain hgd fun K hK => ?_
  obtain ⟨g, cap, w', hr, h2, h3⟩ := run_append_two (P := P) w t o.type base e i z size bytes ht hi hz hsize hby hzs hsz v n xs hown ad m c news hl hnews h1 hm h63 hbytes hbase
  unfold Oper.wp execOp
  simp only [ho, resolve, invoke, builtin, Sem.run_bind, Sem.run_pure, Result.andThen_ok, List.map_toArray, List.map_cons, List.map_nil, hs, hx, hr]
  exact hK _ _ (h g cap w' h2 h3)
end
structure GvI (W : World) (va vg : Value) (n j : Nat) (wi : World) : Prop where
  upd : Upd (fun b => va.ownBlock = some b) W wi
  a : wi.ownsRow 0 42 2 va n (bVals (List.replicate n (7, 7)))
  g : wi.ownsRow 0 42 2 vg (n + j) (bVals (List.replicate (n + j) (7, 7)))
  at_ : vg.ownBlock = va.ownBlock ∨ ∀ q, vg.ownBlock = some q → W.heap.size ≤ q
theorem own_prefix {w : World} {base n j size g cap cap' : Nat} {e : TypeId} {xs ys : List Value} (h : w.ownsRow base e size (.slice (some ⟨g, 0, none⟩) (n + j) cap) (n + j) (xs ++ ys)) (hx : xs.length = n * size) (hc : cap' = cap) (hn : n ≤ cap') : w.ownsRow base e size (.slice (some ⟨g, 0, none⟩) n cap') n xs := by
  subst hc
  obtain ⟨cur, h1, h2, h3, h4, h5, h6⟩ := own_obj h
  refine ⟨hx, .inr ⟨g, cap', cur, rfl, h1, h2, hn, h4, h5, ?_⟩⟩
  have e : (cur.toList.take ((n + j) * size)).take (n * size) = xs := by
    rw [h6, ← hx]
    exact List.take_left
  rw [← e, List.take_take, Nat.min_eq_left (Nat.mul_le_mul_right _ (Nat.le_add_right _ _))]
theorem rep_one (n j : Nat) : bVals (List.replicate (n + j) (7, 7)) ++ [Value.int .u64 7, .int .u64 7] = bVals (List.replicate (n + (j + 1)) (7, 7)) := by
  have e : n + (j + 1) = (n + j) + 1 := by omega
  rw [e, List.replicate_succ', bVals_app]
  rfl
theorem rep_more (n j : Nat) : bVals (List.replicate n (7, 7)) ++ bVals (List.replicate j (7, 7)) = bVals (List.replicate (n + j) (7, 7)) := by
  rw [← bVals_app, List.replicate_append_replicate]
theorem GvI.step {W : World} {va vg : Value} {n j g cap : Nat} {wi w3 : World} {o : Obj} (h : GvI W va vg n j wi)
    (hown : w3.ownsRow 0 42 2 (.slice (some ⟨g, 0, none⟩) (n + j + 1) cap) (n + j + 1) (bVals (List.replicate (n + j) (7, 7)) ++ [Value.int .u64 7, .int .u64 7]))
    (hg : vg = .slice (some ⟨g, 0, none⟩) (n + j) cap ∧ (wi.alloc o).grownBy w3 (some g) ∨ g = (wi.alloc o).heap.size ∧ (wi.alloc o).grownBy w3 none) : GvI W va (.slice (some ⟨g, 0, none⟩) (n + (j + 1)) cap) n (j + 1) w3 := by
  have hsz : (wi.alloc o).heap.size = wi.heap.size + 1 := by simp
  have hu := h.upd
  have hul := h.upd.size
  have keep : ∀ k, k < wi.heap.size → (wi.alloc o).heap[k]? = wi.heap[k]? := fun k hk => Below.heap_alloc wi o k hk
  rw [rep_one] at hown
  rw [show n + j + 1 = n + (j + 1) by omega] at hown
  have ha' : (wi.alloc o).ownsRow 0 42 2 va n (bVals (List.replicate n (7, 7))) := h.a.alloc o
  rcases hg with ⟨hv, hgr⟩ | ⟨hv, hgr⟩
  · have hgs := hgr.size
    have hgo : vg.ownBlock = some g := by rw [hv]; rfl
    refine ⟨⟨hgr.os.trans hu.os, hgr.tape.trans hu.tape, hgr.output.trans hu.output, by omega, fun k hk hn => ?_⟩, ?_, hown, ?_⟩
    · have hne : some k ≠ some g := by
        intro e
        rcases h.at_ with h1 | h1
        · exact hn (by rw [← h1, hgo, ← e])
        · have := h1 g hgo
          injection e with e
          omega
      rw [hgr.block k (by omega) hne, keep k (by omega)]
      exact hu.block k hk hn
    · by_cases hsame : va.ownBlock = some g
      · rcases h.a.2 with ⟨hva, -⟩ | ⟨g1, cap1, cur1, hva, hb1, hg1, hc1, hc2, hc3, hc4⟩
        · rw [hva] at hsame; cases hsame
        · rw [hva] at hsame ⊢
          injection hsame with hsame
          have hsame : g1 = g := hsame
          subst hsame
          have hgw := h.g
          rw [hv] at hgw
          obtain ⟨cur2, -, hx2, -, -, hx5, -⟩ := own_obj hgw
          rw [hg1] at hx2
          injection hx2 with hx2
          injection hx2 with hx2
          subst hx2
          have hcc : cap1 = cap := by omega
          refine own_prefix (j := j + 1) (cap := cap) (ys := bVals (List.replicate (j + 1) (7, 7))) ?_ (by simpa using h.a.1) hcc hc1
          rw [rep_more]
          exact hown
      · exact ha'.kept hgr (.inr hsame)
    · rcases h.at_ with h1 | h1
      · left
        rw [← h1, hgo]
        rfl
      · right
        intro q hq
        injection hq with hq
        have := h1 g hgo
        have hq : g = q := hq
        omega
  · have hgs := hgr.size
    refine ⟨⟨hgr.os.trans hu.os, hgr.tape.trans hu.tape, hgr.output.trans hu.output, by omega, fun k hk hn => ?_⟩, ?_, hown, ?_⟩
    · rw [hgr.block k (by omega) (by intro e; cases e), keep k (by omega)]
      exact hu.block k hk hn
    · refine ha'.kept hgr ?_
      cases e : va.ownBlock with
      | none => exact .inl rfl
      | some q => exact .inr (by intro h; cases h)
    · right
      intro q hq
      injection hq with hq
      have hq : g = q := hq
      omega
end Go.Proofs.Ytkgedpcipaogjaa.WB
end
