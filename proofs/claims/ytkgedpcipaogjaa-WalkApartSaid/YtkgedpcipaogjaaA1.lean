/- Part 1 of what the rows of this seat rest on: words of the print that they need; how images, spaces, sets lie in memory; the functions walked. -/
import Derived.Lib.Hide
import Derived.Test.YtkgedpcipaogjaaProg
import Derived.WalkKit
import Derived.WalkLawsBesides
import Derived.Below
import Derived.Defers
import Derived.Recover
import Derived.Deep.Draws
import Derived.Deep.AppendLies
import Derived.Maps.AppendAt
import Derived.OwnWalk
import Derived.Laws.BytesArg
import Derived.Laws.MakeOwn
import Derived.Laws.OwnMore
import Derived.Deep.OwnRows
import Derived.Tactics
import Derived.Lib.ConvBytes
import Derived.Laws.Slices
import Derived.KernelRfl
import Derived.RowKit3
import Derived.Deep.LoopGhost
import Derived.Deep.QuietTactic
import Derived.BigQuiet
import Derived.WideLaws
import Derived.Deep.DeepCutAuto
import Derived.Deep.CutBlock
import Derived.Deep.RegionHeld3
import Derived.Laws.Rows
import Derived.Lib.AppendStr
import Derived.ArgAppend
import Derived.Laws.IdiomCopy
import Derived.RowKit
import Derived.OrdersHeld
import Derived.Laws.BitsLemmas
import Derived.Laws.EntriesVeiled
import Derived.SizedLaws
import Derived.ChangeSlices
import Derived.Laws.StructEq
import Derived.WalkSpells
import Derived.Laws.CopyOwn
import Derived.BigRegion
import Derived.Laws.Bits64
import Derived.Laws.Bits64b
import Derived.Lib.ItoaNum
import Derived.Deep.RegionLaw
import Derived.StillTailTactics
import Derived.Deep.Quiet
import Derived.RegionTactic
import Derived.StillTail
import Derived.ProofKit
import Derived.OpenShut
import Derived.Lib.SmallJoins
import Derived.Deep.Slices
import Derived.Test.YtkgedpcipaogjaaZ1
import Derived.Test.YtkgedpcipaogjaaZ2
import Derived.Test.YtkgedpcipaogjaaZ3
import Derived.Test.YtkgedpcipaogjaaZ4
import Derived.Test.YtkgedpcipaogjaaZ5
import Derived.Test.YtkgedpcipaogjaaZ6
import Derived.Test.YtkgedpcipaogjaaZ7
import Derived.Test.YtkgedpcipaogjaaZ8
import Derived.Test.YtkgedpcipaogjaaZ9
import Derived.Test.YtkgedpcipaogjaaZ10
import Derived.Test.YtkgedpcipaogjaaZ11
import Derived.Test.YtkgedpcipaogjaaZ12
section
set_option linter.unusedVariables false
namespace Go.Proofs.Ytkgedpcipaogjaa.WB
structure Tile (im : Im) (i : Nat) : Prop where
  slab : (im.pg i).kd = 4 → (im.pg i).od = 0
  head : (im.pg i).kd = 0 ∨ (im.pg i).kd = 2 → i % 2 ^ (im.pg i).od.toNat = 0 ∧ plainB (im.pg i) = true ∧ ∀ j, 1 ≤ j → j < 2 ^ (im.pg i).od.toNat → (im.pg (i + j)).kd = (im.pg i).kd + 1 ∧ (im.pg (i + j)).od = (im.pg i).od ∧ plainB (im.pg (i + j)) = true
  rest : (im.pg i).kd = 1 ∨ (im.pg i).kd = 3 → ∃ h, h < i ∧ (im.pg h).kd + 1 = (im.pg i).kd ∧ (im.pg h).od = (im.pg i).od ∧ i < h + 2 ^ (im.pg h).od.toNat
  kinds : (im.pg i).kd = 0 ∨ (im.pg i).kd = 1 ∨ (im.pg i).kd = 2 ∨ (im.pg i).kd = 3 ∨ (im.pg i).kd = 4
theorem run_tiles {im : Im} : ∀ (d at_ : Nat), im.n < at_ + d → runF im d at_ = none → ∀ i, at_ ≤ i → i < im.n → Tile im i
  | 0, at_, hd, _, i, h1, h2 => by omega
  | d + 1, at_, hd, h, i, h1, h2 => by
    unfold runF at h
    rw [if_pos (by omega)] at h
    by_cases hk : (im.pg at_).kd = 4
    · rw [if_pos hk] at h
      by_cases ho : (im.pg at_).od = 0
      · rw [if_pos ho] at h
        by_cases e : i = at_
        · subst e
          exact ⟨fun _ => ho, fun h => by omega, fun h => by omega, by omega⟩
        · exact run_tiles d (at_ + 1) (by omega) h i (by omega) h2
      · rw [if_neg ho] at h; cases h
    · rw [if_neg hk] at h
      by_cases hc : ((im.pg at_).kd = 0 ∨ (im.pg at_).kd = 2) ∧ at_ % 2 ^ (im.pg at_).od.toNat = 0 ∧ plainB (im.pg at_) = true
      · rw [if_pos hc] at h
        have hp : 0 < 2 ^ (im.pg at_).od.toNat := Nat.pow_pos (by decide)
        cases hs : scan (fun i => if (im.pg (at_ + i)).kd = (im.pg at_).kd + 1 ∧ (im.pg (at_ + i)).od = (im.pg at_).od ∧ plainB (im.pg (at_ + i)) = true then none else some ((at_ + i : Nat) : Int)) (2 ^ (im.pg at_).od.toNat - 1) 1 with
        | some p => rw [hs] at h; cases h
        | none =>
          rw [hs] at h
          rw [scan_none] at hs
          have hr : ∀ j, 1 ≤ j → j < 2 ^ (im.pg at_).od.toNat → (im.pg (at_ + j)).kd = (im.pg at_).kd + 1 ∧ (im.pg (at_ + j)).od = (im.pg at_).od ∧ plainB (im.pg (at_ + j)) = true := by
            intro j j1 j2
            have := hs j j1 (by omega)
            by_cases e : (im.pg (at_ + j)).kd = (im.pg at_).kd + 1 ∧ (im.pg (at_ + j)).od = (im.pg at_).od ∧ plainB (im.pg (at_ + j)) = true
            · exact e
            · rw [if_neg e] at this; cases this
          by_cases e : i = at_
          · subst e
            exact ⟨fun h => by omega, fun _ => ⟨hc.2.1, hc.2.2, hr⟩, fun h => by omega, by omega⟩
          · by_cases e2 : i < at_ + 2 ^ (im.pg at_).od.toNat
            · have := hr (i - at_) (by omega) (by omega)
              rw [show at_ + (i - at_) = i by omega] at this
              exact ⟨fun h => by omega, fun h => by omega, fun _ => ⟨at_, by omega, by omega, by omega, by omega⟩, by omega⟩
            · exact run_tiles d _ (by omega) h i (by omega) h2
      · rw [if_neg hc] at h; cases h
theorem tiles {im : Im} (h : R4 im = none) {i : Nat} (hi : i < im.n) : Tile im i := run_tiles _ 0 (by omega) h i (Nat.zero_le _) hi
theorem mem_cellBs {im : Im} {i : Nat} {b : Int × Int} : ∀ {m : Nat}, b ∈ cellBs im i m ↔ ∃ c, c < m ∧ (im.pg i).bit c = true ∧ b = (im.base + 4096 * (i : Int) + (c : Int) * (cellZ (im.pg i) : Int), (cellZ (im.pg i) : Int))
  | 0 => by simp [cellBs]
  | m + 1 => by
    rw [cellBs, List.mem_append, mem_cellBs]
    constructor
    · rintro (⟨c, h1, h2⟩ | h)
      · exact ⟨c, by omega, h2⟩
      · split at h
        · exact ⟨m, by omega, by assumption, by simpa using h⟩
        · cases h
    · rintro ⟨c, h1, h2, h3⟩
      by_cases e : c = m
      · subst e
        right
        rw [if_pos h2, h3]
        simp
      · exact Or.inl ⟨c, by omega, h2, h3⟩
theorem mem_blocksTo {im : Im} {b : Int × Int} : ∀ {m : Nat}, b ∈ blocksTo im m ↔ ∃ i, i < m ∧ b ∈ pageBs im i
  | 0 => by simp [blocksTo]
  | m + 1 => by
    rw [blocksTo, List.mem_append, mem_blocksTo]
    constructor
    · rintro (⟨c, h1, h2⟩ | h)
      · exact ⟨c, by omega, h2⟩
      · exact ⟨m, by omega, h⟩
    · rintro ⟨c, h1, h2⟩
      by_cases e : c = m
      · subst e; exact Or.inr h2
      · exact Or.inl ⟨c, by omega, h2⟩
structure BlkOk (im : Im) (o : Nat) (b : Int × Int) : Prop where
  size : ∃ k : Nat, 4 ≤ k ∧ k ≤ 12 + o ∧ b.2 = (2 ^ k : Nat) ∧ b.1 % (2 ^ k : Nat) = 0
  low : im.base ≤ b.1
  top : b.1 + b.2 ≤ im.base + im.mem.length
def Before (a b : Int × Int) : Prop := a.1 + a.2 ≤ b.1 ∧ (a.1 / 4096 = b.1 / 4096 → a.2 = b.2)
structure Base4 (im : Im) (o r : Nat) : Prop where
  geo : Geo im o r
  rng : ∀ i, i < im.n → Rng im.order ((im.n : Int) - 1) (im.pg i)
  tile : ∀ i, i < im.n → Tile im i
theorem base4 {im : Im} (hw : im.Wf) (h1 : R1 im = none) (h2 : R2 im = none) (h3 : R3 im = none) (h4 : R4 im = none) : ∃ o r, Base4 im o r := by
  obtain ⟨o, r, g⟩ := geo_of hw h1 h2
  exact ⟨o, r, g, fun i hi => rangeB_t (R3_none.1 h3 i hi), fun i hi => tiles h4 hi⟩
theorem emod_pow {x : Int} {a b : Nat} (hab : a ≤ b) (h : x % (2 ^ b : Nat) = 0) : x % (2 ^ a : Nat) = 0 := by
  have h1 : ((2 ^ a : Nat) : Int) ∣ ((2 ^ b : Nat) : Int) := Int.natCast_dvd_natCast.2 (pow_dvd hab)
  exact Int.emod_eq_zero_of_dvd (Int.dvd_trans h1 (Int.dvd_of_emod_eq_zero h))
theorem page_blk {im : Im} {o r : Nat} (g : Base4 im o r) {i : Nat} (hi : i < im.n) {b : Int × Int} (hb : b ∈ pageBs im i) : BlkOk im o b ∧ im.base + 4096 * (i : Int) ≤ b.1 ∧ b.1 < im.base + 4096 * ((i : Int) + 1) ∧
    ((im.pg i).kd = 2 ∧ b.2 = 4096 * ((2 ^ (im.pg i).od.toNat : Nat) : Int) ∧ b.1 = im.base + 4096 * (i : Int) ∨ (im.pg i).kd = 4 ∧ b.1 + b.2 ≤ im.base + 4096 * ((i : Int) + 1)) := by
  have hm := g.geo.mem
  rw [← g.geo.n] at hm
  have hr := g.rng i hi
  have ht := g.tile i hi
  have hbR := g.geo.baseR
  have e12 : 4096 * 2 ^ o = 2 ^ (12 + o) := by rw [Nat.pow_add]
  rw [e12] at hbR
  have hb12 := emod_pow (a := 12) (b := 12 + o) (by omega) hbR
  unfold pageBs at hb
  by_cases h2 : (im.pg i).kd = 2
  · rw [if_pos h2] at hb
    simp only [List.mem_singleton] at hb
    subst hb
    obtain ⟨k, hk⟩ : ∃ k : Nat, (im.pg i).od = k := ⟨(im.pg i).od.toNat, by have := hr.od; omega⟩
    have hko : k ≤ o := by have := hr.od; rw [g.geo.order] at this; omega
    obtain ⟨t1, t2, t3⟩ := ht.head (Or.inr h2)
    rw [hk, Int.toNat_natCast] at t1 ⊢
    have hf := g.geo.fits hko hi t1
    have e2 : (4096 : Int) * 2 ^ k = ((2 ^ (12 + k) : Nat) : Int) := by rw [Nat.pow_add]; simp
    have e3 : (2 : Nat) ^ (12 + k) = 4096 * 2 ^ k := by rw [Nat.pow_add]
    have hp : 0 < 2 ^ k := Nat.pow_pos (by decide)
    refine ⟨⟨⟨12 + k, by omega, by omega, e2, ?_⟩, by dsimp only; omega, ?_⟩, Int.le_refl _, by dsimp only; omega, Or.inl ⟨h2, by dsimp only; rw [e2, e3]; simp, rfl⟩⟩
    · dsimp only
      have a1 := emod_pow (a := 12 + k) (b := 12 + o) (by omega) hbR
      have a2 : (((i : Nat) : Int) * 4096) % ((2 ^ (12 + k) : Nat) : Int) = 0 := by
        obtain ⟨c, hc⟩ := Nat.dvd_of_mod_eq_zero t1
        apply Int.emod_eq_zero_of_dvd
        rw [e3]
        exact ⟨c, by rw [hc]; simp only [Int.natCast_mul, Int.cast_ofNat_Int]; generalize ((2 ^ k : Nat) : Int) = z; rw [Int.mul_comm (z * c) 4096, Int.mul_assoc]⟩
      generalize ((2 ^ (12 + k) : Nat) : Int) = z at *
      rw [Int.mul_comm 4096, Int.add_emod, a1, a2]
      simp
    · dsimp only
      rw [e2, e3, hm]
      generalize 2 ^ k = z at *
      omega
  · rw [if_neg h2] at hb
    by_cases h4 : (im.pg i).kd = 4
    · rw [if_pos h4, mem_cellBs] at hb
      obtain ⟨c, hc, -, rfl⟩ := hb
      obtain ⟨k, hk, hk7, n1, n2, n3⟩ := cell_page hr.cl.1 hr.cl.2
      unfold cellZ
      have hz : (c + 1) * (16 * 2 ^ (im.pg i).cl.toNat) ≤ 4096 := by rw [← n3]; exact Nat.mul_le_mul_right _ hc
      rw [n2] at hz ⊢
      rw [Nat.add_mul, Nat.one_mul] at hz
      have hzp : 0 < 2 ^ (4 + k) := Nat.pow_pos (by decide)
      have hcm : (c : Int) * ((2 ^ (4 + k) : Nat) : Int) = ((c * 2 ^ (4 + k) : Nat) : Int) := by simp
      have c1 : 0 ≤ (c : Int) * ((2 ^ (4 + k) : Nat) : Int) := by rw [hcm]; exact Int.natCast_nonneg _
      have c2 : (c : Int) * ((2 ^ (4 + k) : Nat) : Int) + ((2 ^ (4 + k) : Nat) : Int) ≤ 4096 := by rw [hcm]; omega
      have c3 : 0 < ((2 ^ (4 + k) : Nat) : Int) := by omega
      refine ⟨⟨⟨4 + k, by omega, by omega, rfl, ?_⟩, ?_, ?_⟩, ?_, ?_, Or.inr ⟨h4, ?_⟩⟩
      · dsimp only
        have a1 := emod_pow (a := 4 + k) (b := 12 + o) (by omega) hbR
        have a2 : (4096 * (i : Int)) % ((2 ^ (4 + k) : Nat) : Int) = 0 := by
          apply Int.emod_eq_zero_of_dvd
          refine Int.dvd_trans ?_ (Int.dvd_mul_right _ _)
          have : (2 ^ (4 + k)) ∣ (2 ^ 12) := pow_dvd (by omega)
          exact Int.natCast_dvd_natCast.2 this
        generalize ((2 ^ (4 + k) : Nat) : Int) = z at *
        rw [Int.add_mul_emod_self_right, Int.add_emod, a1, a2]
        simp
      all_goals (dsimp only; omega)
    · rw [if_neg h4] at hb; cases hb
theorem cell_pair (im : Im) (i : Nat) : ∀ m, List.Pairwise Before (cellBs im i m)
  | 0 => List.Pairwise.nil
  | m + 1 => by
    rw [cellBs, List.pairwise_append]
    refine ⟨cell_pair im i m, ?_, ?_⟩
    · split
      · exact List.pairwise_singleton _ _
      · exact List.Pairwise.nil
    · intro a ha b hb
      split at hb
      · simp only [List.mem_singleton] at hb
        subst hb
        obtain ⟨c, hc, -, rfl⟩ := mem_cellBs.1 ha
        refine ⟨?_, fun _ => rfl⟩
        dsimp only
        have : ((c + 1 : Nat) : Int) * (cellZ (im.pg i) : Int) ≤ (m : Int) * (cellZ (im.pg i) : Int) := Int.mul_le_mul_of_nonneg_right (by omega) (by omega)
        rw [Int.natCast_add, Int.add_mul] at this
        simp only [Int.cast_ofNat_Int, Int.one_mul] at this
        omega
      · cases hb
theorem page_pair (im : Im) (i : Nat) : List.Pairwise Before (pageBs im i) := by
  unfold pageBs
  split
  · exact List.pairwise_singleton _ _
  · split
    · exact cell_pair im i _
    · exact List.Pairwise.nil
theorem blocks_pair {im : Im} {o r : Nat} (g : Base4 im o r) : ∀ m, m ≤ im.n → List.Pairwise Before (blocksTo im m)
  | 0, _ => List.Pairwise.nil
  | m + 1, hm => by
    rw [blocksTo, List.pairwise_append]
    refine ⟨blocks_pair g m (by omega), page_pair im m, ?_⟩
    intro a ha b hb
    obtain ⟨j, hj, haj⟩ := mem_blocksTo.1 ha
    obtain ⟨b1, b2, b3, b4⟩ := page_blk g (i := m) (by omega) hb
    obtain ⟨a1, a2, a3, a4⟩ := page_blk g (i := j) (by omega) haj
    have hend : a.1 + a.2 ≤ im.base + 4096 * (m : Int) := by
      rcases a4 with ⟨k2, s2, s3⟩ | ⟨k4, s2⟩
      · have ht := g.tile j (by omega)
        by_cases hlt : m < j + 2 ^ (im.pg j).od.toNat
        · have := ((ht.head (Or.inr k2)).2.2 (m - j) (by omega) (by omega)).1
          rw [show j + (m - j) = m by omega] at this
          omega
        · rw [s2, s3]
          generalize 2 ^ (im.pg j).od.toNat = z at *
          omega
      · omega
    refine ⟨by omega, fun e => ?_⟩
    have hb := g.geo.base
    omega
theorem blocks_ok {im : Im} {o r : Nat} (g : Base4 im o r) {b : Int × Int} (hb : b ∈ im.blocks) : BlkOk im o b := by
  obtain ⟨i, hi, hbi⟩ := mem_blocksTo.1 hb
  exact (page_blk g hi hbi).1
end Go.Proofs.Ytkgedpcipaogjaa.WB
end
section
namespace Go.Proofs.Ytkgedpcipaogjaa.WB
open Go Go.RowKit Go.Proofs.YtkgedpcipaogjaaW.PrintWords Go.Proofs.YtkgedpcipaogjaaW.PrintLast Go.Proofs.YtkgedpcipaogjaaW.PrintMore
set_option linter.unusedVariables false
set_option linter.unusedSimpArgs false
theorem told_len {im : Im} (hw : im.Wf) : im.told.length ≤ 262144 := by
  unfold Im.told
  by_cases hz : im.check.1 = 0
  · rw [if_pos hz]
    have hs := check_zero hz
    obtain ⟨o, r, hg⟩ := geo_of hw (hs 0 (by decide)) (hs 1 (by decide))
    have h1 := blocksTo_len im im.n
    have h2 := hg.n1024
    unfold Im.blocks
    omega
  · rw [if_neg hz]
    exact Nat.zero_le _
end Go.Proofs.Ytkgedpcipaogjaa.WB
end
section
namespace Go.Proofs.Ytkgedpcipaogjaa.WB
open Go Go.RowKit Go.Proofs.YtkgedpcipaogjaaW.PrintWords Go.Proofs.YtkgedpcipaogjaaW.PrintLast Go.Proofs.YtkgedpcipaogjaaW.PrintMore
set_option linter.unusedVariables false
set_option linter.unusedSimpArgs false
def endOf (bs : List (Int × Int)) (base : Int) : Nat → Int
  | 0 => base
  | k + 1 => (bs.getD k (0, 0)).1 + (bs.getD k (0, 0)).2
theorem pair_at {bs : List (Int × Int)} (h : List.Pairwise Before bs) {i j : Nat} (hij : i < j) (hj : j < bs.length) : Before (bs.getD i (0, 0)) (bs.getD j (0, 0)) := by
  rw [List.getD_eq_getElem?_getD, List.getD_eq_getElem?_getD, List.getElem?_eq_getElem hj, List.getElem?_eq_getElem (by omega)]
  exact List.pairwise_iff_getElem.1 h i j (by omega) hj hij
theorem mem_getD {bs : List (Int × Int)} {k : Nat} (hk : k < bs.length) : bs.getD k (0, 0) ∈ bs := by
  rw [List.getD_eq_getElem?_getD, List.getElem?_eq_getElem hk]
  exact List.getElem_mem hk
structure BkNum (base mem : Int) (o : Nat) (rz p z : Int) : Prop where
  z16 : decide (z < 16) = false
  zr : decide (z > rz) = false
  m1 : IntKind.u64.wrap (z - 1) = z - 1
  an : Go.bits .and .u64 z (z - 1) = 0
  z0 : ¬ z = 0
  md : p % z = 0
  mt : Int.tmod p z = 0
  w0 : IntKind.u64.wrap (0 : Int) = 0
  s1 : IntKind.u64.wrap (p - base) = p - base
  s2 : IntKind.u64.wrap mem = mem
  s3 : IntKind.u64.wrap (mem - z) = mem - z
  gt : decide (p - base > mem - z) = false
  e1 : IntKind.u64.wrap (p + z) = p + z
  q1 : 0 ≤ p
  q2 : p ≤ 9223372036854775808
  q3 : 0 < z
theorem bk_num {im : Im} {o r : Nat} (g : Geo im o r) {b : Int × Int} (h : BlkOk im o b) : BkNum im.base (im.mem.length : Int) o ((4096 * 2 ^ o : Nat) : Int) b.1 b.2 := by
  obtain ⟨k, hk4, hk, hz, hm⟩ := h.size
  have hlow := h.low
  have htop := h.top
  have hb0 := g.base0
  have ht := g.top
  have hpk : (2 : Nat) ^ 4 ≤ 2 ^ k := Nat.pow_le_pow_right (by decide) hk4
  have hko : (2 : Nat) ^ k ≤ 2 ^ (12 + o) := Nat.pow_le_pow_right (by decide) hk
  have hr : (2 : Nat) ^ (12 + o) = 4096 * 2 ^ o := by rw [Nat.pow_add]
  have ho8 : (2 : Nat) ^ o ≤ 2 ^ 8 := Nat.pow_le_pow_right (by decide) g.o8
  have han : (2 ^ k) &&& (2 ^ k - 1) = 0 := by rw [Nat.and_two_pow_sub_one_eq_mod]; exact Nat.mod_self _
  rw [← hz] at hm
  obtain ⟨p, z⟩ := b
  dsimp only at *
  rw [hr] at hko
  generalize (2 : Nat) ^ k = y at *
  generalize 4096 * 2 ^ o = rz at *
  generalize im.mem.length = ml at *
  generalize im.base = ba at *
  clear hr hk4 hk
  subst hz
  have hy : y < 18446744073709551616 := by omega
  refine ⟨decide_eq_false (by omega), decide_eq_false (by omega), wrap_u64_in (by omega) (by omega), ?_, by omega, hm, by rw [Int.tmod_eq_emod_of_nonneg (by omega)]; exact hm, rfl, wrap_u64_in (by omega) (by omega), wrap_u64_in (by omega) (by omega), wrap_u64_in (by omega) (by omega), decide_eq_false (by omega), wrap_u64_in (by omega) (by omega), by omega, by omega, by omega⟩
  rw [show ((y : Int) - 1) = ((y - 1 : Nat) : Int) by omega, Go.u64_and_nat _ _ (by omega) (by omega), han]
  rfl
theorem quo_pg {p : Int} (h : 0 ≤ p) (h2 : p ≤ 9223372036854775808) : Int.tdiv p 4096 = p / 4096 ∧ IntKind.u64.wrap (p / 4096) = p / 4096 := by
  have he : Int.tdiv p 4096 = p / 4096 := Int.tdiv_eq_ediv_of_nonneg h
  exact ⟨he, wrap_u64_in (by omega) (by omega)⟩
theorem nz_j {k : Nat} (h : 0 < k) : ∃ j, k = j + 1 := ⟨k - 1, by omega⟩
theorem sub_j {j k n : Nat} (h : k = j + 1) (hk : k < n) (hn : n ≤ 262144) : decide ((k : Int) > 0) = true ∧ (0 : Int) < (k : Int) ∧ IntKind.i64.wrap ((k : Int) - 1) = (j : Int) ∧ j < n ∧ (j : Int) < (n : Int) :=
  ⟨decide_eq_true (by omega), by omega, by rw [i64_w]; unfold wrap64; omega, by omega, by omega⟩
section
variable {F : Nat → Prop} {im : Im} {s : Sl} {w : World}
set_option maxRecDepth 100000 in
set_option maxHeartbeats 8000000 in
theorem apart_core (h : ImAt F w im s) (hF : ∀ b, F b → b < w.heap.size) : Calls Try.prog 7 #[.agg (im.cells s)] w (DocP w (.bool true)) := by
  obtain ⟨A, a, B, b, C, c, D, d, E, e⟩ := s
  obtain ⟨WA, hWA⟩ : ∃ W, w.alloc (imO im ⟨A, a, B, b, C, c, D, d, E, e⟩) = W := ⟨_, rfl⟩
  obtain ⟨hsa, hbl, hvl⟩ := box_facts h hF hWA
  have HBL := Lib.hid hbl
  have HVL := Lib.hid hvl
  have HFA := Lib.hid (show ∀ b, F b → b < WA.heap.size from fun b hb => by have := hF b hb; omega)
  have HWF := Lib.hid h.wf
  have hl := len_i64 h.wf
  obtain ⟨c0, c1, c2, c3, c4, c5, c6, c7, c8⟩ := (hvl WA (Below.refl _ _)).cell
  dsimp only at c0 c1 c2 c3 c4 c5 c6 c7 c8
  unfold imO Im.cells at hWA
  unfold Im.cells
  clear h hF hvl hbl
  have HAW := Lib.hid awake_ok
  have HF2 := Lib.hid (fun (wx : World) (hx : Below WA.heap.size WA wx) => (show ∀ b, F b → b < wx.heap.size from fun b hb => Nat.lt_of_lt_of_le (HFA.out b hb) hx.size))
  have HBK := Lib.hid (fun (wx : World) (hx : Below WA.heap.size WA wx) => Blocks_c (HVL.out wx hx).im (HF2.out wx hx))
  have HTL := Lib.hid (told_len HWF.out)
  have HSO := Lib.hid (show im.told ≠ [] → Sound im from fun hne => by
    unfold Im.told at hne
    by_cases hz : im.check.1 = 0
    · exact check_zero hz
    · rw [if_neg hz] at hne; exact absurd rfl hne)
  have HTB := Lib.hid (show im.told = im.blocks ∨ im.told = [] from by
    unfold Im.told
    by_cases hz : im.check.1 = 0
    · exact .inl (if_pos hz)
    · exact .inr (if_neg hz))
  unfold Im.cells at HBK
  dsimp only at HBK
  clear hl
  go_enter Try.func7, Try.ntmps7
  go_upto_region 6 with (first
    | (go_at_call 11; refine (HAW.out _).mono ?_; rintro e w4 ⟨rfl, hb4⟩; have HB4 := Lib.hid hb4; obtain ⟨d0, d1, d2, d3, d4, d5, d6, d7, d8⟩ := (HVL.out w4 HB4.out).cell; dsimp only at d0 d1 d2 d3 d4 d5 d6 d7 d8; clear hb4 c0 c1 c2 c3 c4 c5 c6 c7 c8)
    | (go_at_call 12; refine (HBK.out w4 HB4.out).mono ?_; rintro e w5 ⟨A1, cap1, rfl, hc1, hr1, hb5⟩; have HR1 := Lib.hid hr1; have HB5 := Lib.hid (HB4.out.trans (hb5.mono HB4.out.size)); obtain ⟨e0, e1, e2, e3, e4, e5, e6, e7, e8⟩ := (HVL.out w5 HB5.out).cell; dsimp only at e0 e1 e2 e3 e4 e5 e6 e7 e8; obtain ⟨W6, hW6⟩ : ∃ W, w5.alloc (.cells #[.int .u64 im.base, .int .i64 im.limit, .int .i64 im.order] 24) = W := ⟨_, rfl⟩; have HV6 := Lib.hid (show W6.heap[w5.heap.size]? = some (.cells #[.int .u64 im.base, .int .i64 im.limit, .int .i64 im.order] 24 (0, 0)) from by rw [← hW6]; exact blk_new w5 _); have HB6 := Lib.hid (show Below w5.heap.size w5 W6 from by rw [← hW6]; exact (Below.refl _ _).alloc (Nat.le_refl _) _); have k0 := blk_cell HV6.out 0; have k1 := blk_cell HV6.out 1; have k2 := blk_cell HV6.out 2; clear hc1 hr1 hb5 d0 d1 d2 d3 d4 d5 d6 d7 d8))
  have HBA := Lib.hid (show Below WA.heap.size WA W6 from HB5.out.trans (HB6.out.mono HB5.out.size))
  have HRW := Lib.hid (show RowB (Old W6) W6 A1 im.told from (HR1.out.keep (fun b hb => HB6.out.block b hb.2)).mono (fun b hb => Nat.lt_of_lt_of_le hb.2 HB6.out.size))
  clear e0 e1 e2 e3 e4 e5 e6 e7 e8 k0 k1 k2 hW6 hWA
  generalize w5.heap.size = cb at *
  obtain ⟨bs, hbs⟩ : ∃ bs, im.told = bs := ⟨_, rfl⟩
  rw [hbs] at HRW HTL HSO HTB
  have HBSE := Lib.hid hbs
  have HALL := Lib.hid (show 0 < bs.length → ∃ o r, Geo im o r ∧ (∀ b ∈ bs, BlkOk im o b) ∧ List.Pairwise Before bs from fun h0 => by
    have hs := HSO.out (fun e => by rw [e] at h0; cases h0)
    obtain ⟨o, r, g⟩ := base4 HWF.out (hs 0 (by decide)) (hs 1 (by decide)) (hs 2 (by decide)) (hs 3 (by decide))
    rcases HTB.out with e | e
    · exact ⟨o, r, g.geo, fun b hb => blocks_ok g (e ▸ hb), by rw [e]; exact blocks_pair g _ (Nat.le_refl _)⟩
    · rw [e] at h0; cases h0)
  have hl9 : bs.length ≤ 9223372036854775807 := by have := HTL.out; omega
  rw [hbs]
  clear hbs HSO HTB
  go_wp2
  trace_state
  go_loopg [5, 6, 7, 16, 17, 18, 19, 20, 21, 22, 23, 24, 25, 26, 27, 28, 29, 30, 31, 32, 33, 34, 35, 36, 37, 38, 39, 40, 41, 42, 43, 44, 45, 46, 47, 48, 49, 50, 51, 52, 53, 54, 55, 56, 57, 58, 59, 60, 61, 62, 63, 64, 65, 66, 67, 68, 69, 70, 71, 72, 73, 74, 75, 76, 77, 78, 79, 80, 81, 82, 83, 84, 85, 86, 87, 88, 89, 90, 91, 92, 93, 94, 95, 96, 97, 98, 99, 100, 101, 102, 103, 104] bs.length (fun g v5 v6 _ _ _ _ _ _ _ _ _ _ _ _ _ _ _ _ _ _ _ _ _ _ _ _ _ _ _ _ _ _ _ _ _ _ _ _ _ _ _ _ _ _ _ _ _ _ _ _ _ _ _ _ _ _ _ _ _ _ _ _ _ _ _ _ _ _ _ _ _ _ _ _ _ _ _ _ _ _ _ _ _ _ _ _ _ _ _ _ _ _ wi => ∃ (k : Nat), v6 = .int .i64 (k : Int) ∧ v5 = .int .u64 (endOf bs im.base k) ∧ Aside0 (k + g = bs.length) ∧ Aside0 (Below W6.heap.size W6 wi))
  case atStart => exact ⟨0, rfl, rfl, ⟨by omega⟩, ⟨Below.refl _ _⟩⟩
  case round =>
    obtain ⟨k, rfl, rfl, hkg, hbl⟩ := hrel
    by_cases hk : k < bs.length
    case neg =>
      obtain ⟨t1, t2⟩ := nlt_dec hk
      have HBW := Lib.hid hbl.out
      clear hk hkg hbl
      go_wp2
      go_ret
      exact ⟨rfl, HBL.out _ (HBA.out.trans (HBW.out.mono HBA.out.size))⟩
    obtain ⟨t1, t2⟩ := lt_dec hk
    have hkI : (k : Int) < (bs.length : Int) := by omega
    obtain ⟨g1, rfl⟩ := lp_pos hkg.out hk
    have HG := Lib.hid (lp_step hkg.out)
    obtain ⟨o, r, hgeo, hall, hpw⟩ := HALL.out (by omega)
    have hm := mem_getD hk
    have hbn := bk_num hgeo (hall _ hm)
    have HO8 := Lib.hid hgeo.o8
    have HOE := Lib.hid hgeo.order
    have HRR := Lib.hid (fun (wx : World) => show Calls Try.prog 20 #[.agg #[.int .u64 im.base, .int .i64 im.limit, .int .i64 im.order]] wx fun e w' => e = .returned (.int .u64 ((4096 * 2 ^ o : Nat) : Int)) ∧ Below wx.heap.size wx w' from by rw [hgeo.order]; exact R_d hgeo.o8 im.base im.limit wx)
    have hend : endOf bs im.base k ≤ (bs.getD k (0, 0)).1 := by
      cases k with
      | zero => exact (hall _ hm).low
      | succ j => exact (pair_at hpw (Nat.lt_succ_self j) hk).1
    have HPRE := Lib.hid (show ∀ j, k = j + 1 → (bs.getD j (0, 0)).1 / 4096 = (bs.getD k (0, 0)).1 / 4096 → (bs.getD j (0, 0)).2 = (bs.getD k (0, 0)).2 from fun j hj => by
      subst hj
      exact (pair_at hpw (Nat.lt_succ_self j) hk).2)
    have HEN := Lib.hid (show endOf bs im.base (k + 1) = (bs.getD k (0, 0)).1 + (bs.getD k (0, 0)).2 from rfl)
    have HP0 := Lib.hid (show ∀ j, j < k → 0 ≤ (bs.getD j (0, 0)).1 ∧ (bs.getD j (0, 0)).1 ≤ 9223372036854775808 from fun j hj => by have hn := bk_num hgeo (hall _ (mem_getD (Nat.lt_trans hj hk))); exact ⟨hn.q1, hn.q2⟩)
    obtain ⟨aa, eA, haF, hxa⟩ := (HRW.out.keep (w' := wr) (fun b hb => hbl.out.block b hb)) (by omega)
    subst eA
    obtain ⟨a0, a1⟩ := hxa k hk
    have HAF := Lib.hid haF
    have HXA := Lib.hid hxa
    have HBW := Lib.hid hbl.out
    have HK := Lib.hid hk
    have n1 : wrap64 ((k : Int) + 1) = (k : Int) + 1 := up1 (by have := HTL.out; omega)
    obtain ⟨endk, hek⟩ : ∃ e, endOf bs im.base k = e := ⟨_, rfl⟩
    rw [hek] at hend ⊢
    have elt : decide ((bs.getD k (0, 0)).1 < endk) = false := decide_eq_false (by omega)
    obtain ⟨b, hb⟩ : ∃ b, bs.getD k (0, 0) = b := ⟨_, rfl⟩
    rw [hb] at hbn HPRE HEN a0 a1 elt
    obtain ⟨p, z⟩ := b
    dsimp only at hbn HPRE HEN a0 a1 elt
    clear hkg hbl hgeo hall hpw hm hend hxa haF hek hb
    obtain ⟨v1, v2, v3, v4, v5, v6, v7, v8, v9, v10, v11, v12, v13, v14, v15, v16⟩ := hbn
    generalize ((4096 * 2 ^ o : Nat) : Int) = rz at *
    obtain ⟨W1, hW1⟩ : ∃ W, wr.alloc (.cells #[.int .u64 p, .int .u64 z] 42) = W := ⟨_, rfl⟩
    have hv1 : W1.heap[wr.heap.size]? = some (.cells #[.int .u64 p, .int .u64 z] 42 (0, 0)) := by rw [← hW1]; exact blk_new wr _
    have HB1 := Lib.hid (show Below wr.heap.size wr W1 from by rw [← hW1]; exact (Below.refl _ _).alloc (Nat.le_refl _) _)
    have hlt1 : wr.heap.size < W1.heap.size := by rw [← hW1]; show wr.heap.size < (wr.heap.push _).size; rw [Array.size_push]; omega
    have HPB := Lib.hid (fun (wx : World) (hx : Gr W1 wx) => show wx.heap[wr.heap.size]? = some (.cells #[.int .u64 p, .int .u64 z] 42 (0, 0)) from (hx.block _ hlt1).trans hv1)
    have HB16 := Lib.hid (show Below W6.heap.size W6 W1 from HBW.out.trans (HB1.out.mono HBW.out.size))
    have HCB := Lib.hid (fun (wx : World) (hx : Gr W1 wx) => show wx.heap[cb]? = some (.cells #[.int .u64 im.base, .int .i64 im.limit, .int .i64 im.order] 24 (0, 0)) from by
      have hlt : cb < W6.heap.size := by
        rcases Nat.lt_or_ge cb W6.heap.size with hh | hh
        · exact hh
        · have := HV6.out; rw [Array.getElem?_eq_none hh] at this; cases this
      exact ((HB16.out.trans (hx.mono HB16.out.size)).block _ hlt).trans HV6.out)
    have HVX := Lib.hid (fun (wx : World) (hx : Gr W1 wx) => (HVL.out wx (HBA.out.trans ((HB16.out.trans (hx.mono HB16.out.size)).mono HBA.out.size))).cell)
    have HBX := Lib.hid (fun (wx : World) (hx : Gr W1 wx) => show Below WA.heap.size WA wx from HBA.out.trans ((HB16.out.trans (hx.mono HB16.out.size)).mono HBA.out.size))
    have HXX := Lib.hid (fun (wx : World) (hx : Gr W1 wx) (i : Nat) (hi : i < bs.length) => show wx.cell? (aa.add (i * 2)) = some (.int .u64 (bs.getD i (0, 0)).1) ∧ wx.cell? ⟨(aa.add (i * 2)).block, (aa.add (i * 2)).off + 1, none⟩ = some (.int .u64 (bs.getD i (0, 0)).2) from by
      obtain ⟨aa', eA, -, hxa⟩ := (HRW.out.keep (w' := wx) (fun b hb => (HB16.out.trans (hx.mono HB16.out.size)).block b hb)) (by omega)
      cases eA
      exact hxa i hi)
    go_wp2
    clear hW1 a0 a1 hv1 hlt1
    generalize wr.heap.size = vb at *
    refine qg_region (by kernel_rfl) (by kernel_rfl) ?_
    iterate 1 (refine qg_want (by kernel_rfl) (fun K hK => ?_); go_simp; (first | refine ⟨_, fun _ _ => rfl, hK _ ?_⟩ | refine hK _ ?_); clear hK K)
    iterate 1 (refine qg_want (by kernel_rfl) (fun K hK => ?_); go_simp; apply Exists.intro; refine ⟨fun wx hx => ?_, hK _ ?_⟩; ((have y0 := blk_cell (HPB.out wx hx) 0; have y1 := blk_cell (HPB.out wx hx) 1; have k0 := blk_cell (HCB.out wx hx) 0; have k1 := blk_cell (HCB.out wx hx) 1; have k2 := blk_cell (HCB.out wx hx) 2; obtain ⟨d0, d1, d2, d3, d4, d5, d6, d7, d8⟩ := HVX.out wx hx; try dsimp only at d0 d1 d2 d3 d4 d5 d6 d7 d8); go_simp; try rfl); clear hK K)
    iterate 3 (refine qg_want (by kernel_rfl) (fun K hK => ?_); go_simp; (first | refine ⟨_, fun _ _ => rfl, hK _ ?_⟩ | refine hK _ ?_); clear hK K)
    iterate 2 (refine qg_want (by kernel_rfl) (fun K hK => ?_); go_simp; apply Exists.intro; refine ⟨fun wx hx => ?_, hK _ ?_⟩; ((have y0 := blk_cell (HPB.out wx hx) 0; have y1 := blk_cell (HPB.out wx hx) 1; have k0 := blk_cell (HCB.out wx hx) 0; have k1 := blk_cell (HCB.out wx hx) 1; have k2 := blk_cell (HCB.out wx hx) 2; obtain ⟨d0, d1, d2, d3, d4, d5, d6, d7, d8⟩ := HVX.out wx hx; try dsimp only at d0 d1 d2 d3 d4 d5 d6 d7 d8); go_simp; try rfl); clear hK K)
    (refine qg_want (by kernel_rfl) (fun K hK => ?_); go_simp; apply Exists.intro; refine ⟨fun wx hx => qg_calls hx (HRR.out wx), hK _ ?_⟩; clear hK K)
    iterate 4 (refine qg_want (by kernel_rfl) (fun K hK => ?_); go_simp; (first | refine ⟨_, fun _ _ => rfl, hK _ ?_⟩ | refine hK _ ?_); clear hK K)
    iterate 1 (refine qg_want (by kernel_rfl) (fun K hK => ?_); go_simp; apply Exists.intro; refine ⟨fun wx hx => ?_, hK _ ?_⟩; ((have y0 := blk_cell (HPB.out wx hx) 0; have y1 := blk_cell (HPB.out wx hx) 1; have k0 := blk_cell (HCB.out wx hx) 0; have k1 := blk_cell (HCB.out wx hx) 1; have k2 := blk_cell (HCB.out wx hx) 2; obtain ⟨d0, d1, d2, d3, d4, d5, d6, d7, d8⟩ := HVX.out wx hx; try dsimp only at d0 d1 d2 d3 d4 d5 d6 d7 d8); go_simp; try rfl); clear hK K)
    iterate 1 (refine qg_want (by kernel_rfl) (fun K hK => ?_); go_simp; (first | refine ⟨_, fun _ _ => rfl, hK _ ?_⟩ | refine hK _ ?_); clear hK K)
    iterate 1 (refine qg_want (by kernel_rfl) (fun K hK => ?_); go_simp; apply Exists.intro; refine ⟨fun wx hx => ?_, hK _ ?_⟩; ((have y0 := blk_cell (HPB.out wx hx) 0; have y1 := blk_cell (HPB.out wx hx) 1; have k0 := blk_cell (HCB.out wx hx) 0; have k1 := blk_cell (HCB.out wx hx) 1; have k2 := blk_cell (HCB.out wx hx) 2; obtain ⟨d0, d1, d2, d3, d4, d5, d6, d7, d8⟩ := HVX.out wx hx; try dsimp only at d0 d1 d2 d3 d4 d5 d6 d7 d8); go_simp; try rfl); clear hK K)
    iterate 6 (refine qg_want (by kernel_rfl) (fun K hK => ?_); go_simp; (first | refine ⟨_, fun _ _ => rfl, hK _ ?_⟩ | refine hK _ ?_); clear hK K)
    iterate 1 (refine qg_want (by kernel_rfl) (fun K hK => ?_); go_simp; apply Exists.intro; refine ⟨fun wx hx => ?_, hK _ ?_⟩; ((have y0 := blk_cell (HPB.out wx hx) 0; have y1 := blk_cell (HPB.out wx hx) 1; have k0 := blk_cell (HCB.out wx hx) 0; have k1 := blk_cell (HCB.out wx hx) 1; have k2 := blk_cell (HCB.out wx hx) 2; obtain ⟨d0, d1, d2, d3, d4, d5, d6, d7, d8⟩ := HVX.out wx hx; try dsimp only at d0 d1 d2 d3 d4 d5 d6 d7 d8); go_simp; try rfl); clear hK K)
    iterate 1 (refine qg_want (by kernel_rfl) (fun K hK => ?_); go_simp; (first | refine ⟨_, fun _ _ => rfl, hK _ ?_⟩ | refine hK _ ?_); clear hK K)
    iterate 1 (refine qg_want (by kernel_rfl) (fun K hK => ?_); go_simp; apply Exists.intro; refine ⟨fun wx hx => ?_, hK _ ?_⟩; ((have y0 := blk_cell (HPB.out wx hx) 0; have y1 := blk_cell (HPB.out wx hx) 1; have k0 := blk_cell (HCB.out wx hx) 0; have k1 := blk_cell (HCB.out wx hx) 1; have k2 := blk_cell (HCB.out wx hx) 2; obtain ⟨d0, d1, d2, d3, d4, d5, d6, d7, d8⟩ := HVX.out wx hx; try dsimp only at d0 d1 d2 d3 d4 d5 d6 d7 d8); go_simp; try rfl); clear hK K)
    iterate 5 (refine qg_want (by kernel_rfl) (fun K hK => ?_); go_simp; (first | refine ⟨_, fun _ _ => rfl, hK _ ?_⟩ | refine hK _ ?_); clear hK K)
    iterate 1 (refine qg_want (by kernel_rfl) (fun K hK => ?_); go_simp; apply Exists.intro; refine ⟨fun wx hx => ?_, hK _ ?_⟩; ((have y0 := blk_cell (HPB.out wx hx) 0; have y1 := blk_cell (HPB.out wx hx) 1; have k0 := blk_cell (HCB.out wx hx) 0; have k1 := blk_cell (HCB.out wx hx) 1; have k2 := blk_cell (HCB.out wx hx) 2; obtain ⟨d0, d1, d2, d3, d4, d5, d6, d7, d8⟩ := HVX.out wx hx; try dsimp only at d0 d1 d2 d3 d4 d5 d6 d7 d8); go_simp; try rfl); clear hK K)
    iterate 5 (refine qg_want (by kernel_rfl) (fun K hK => ?_); go_simp; (first | refine ⟨_, fun _ _ => rfl, hK _ ?_⟩ | refine hK _ ?_); clear hK K)
    iterate 1 (refine qg_want (by kernel_rfl) (fun K hK => ?_); go_simp; apply Exists.intro; refine ⟨fun wx hx => ?_, hK _ ?_⟩; ((have y0 := blk_cell (HPB.out wx hx) 0; have y1 := blk_cell (HPB.out wx hx) 1; have k0 := blk_cell (HCB.out wx hx) 0; have k1 := blk_cell (HCB.out wx hx) 1; have k2 := blk_cell (HCB.out wx hx) 2; obtain ⟨d0, d1, d2, d3, d4, d5, d6, d7, d8⟩ := HVX.out wx hx; try dsimp only at d0 d1 d2 d3 d4 d5 d6 d7 d8); go_simp; try rfl); clear hK K)
    iterate 1 (refine qg_want (by kernel_rfl) (fun K hK => ?_); go_simp; (first | refine ⟨_, fun _ _ => rfl, hK _ ?_⟩ | refine hK _ ?_); clear hK K)
    iterate 1 (refine qg_want (by kernel_rfl) (fun K hK => ?_); go_simp; apply Exists.intro; refine ⟨fun wx hx => ?_, hK _ ?_⟩; ((have y0 := blk_cell (HPB.out wx hx) 0; have y1 := blk_cell (HPB.out wx hx) 1; have k0 := blk_cell (HCB.out wx hx) 0; have k1 := blk_cell (HCB.out wx hx) 1; have k2 := blk_cell (HCB.out wx hx) 2; obtain ⟨d0, d1, d2, d3, d4, d5, d6, d7, d8⟩ := HVX.out wx hx; try dsimp only at d0 d1 d2 d3 d4 d5 d6 d7 d8); go_simp; try rfl); clear hK K)
    iterate 2 (refine qg_want (by kernel_rfl) (fun K hK => ?_); go_simp; (first | refine ⟨_, fun _ _ => rfl, hK _ ?_⟩ | refine hK _ ?_); clear hK K)
    iterate 1 (refine qg_want (by kernel_rfl) (fun K hK => ?_); go_simp; apply Exists.intro; refine ⟨fun wx hx => ?_, hK _ ?_⟩; ((have y0 := blk_cell (HPB.out wx hx) 0; have y1 := blk_cell (HPB.out wx hx) 1; have k0 := blk_cell (HCB.out wx hx) 0; have k1 := blk_cell (HCB.out wx hx) 1; have k2 := blk_cell (HCB.out wx hx) 2; obtain ⟨d0, d1, d2, d3, d4, d5, d6, d7, d8⟩ := HVX.out wx hx; try dsimp only at d0 d1 d2 d3 d4 d5 d6 d7 d8); go_simp; try rfl); clear hK K)
    iterate 3 (refine qg_want (by kernel_rfl) (fun K hK => ?_); go_simp; (first | refine ⟨_, fun _ _ => rfl, hK _ ?_⟩ | refine hK _ ?_); clear hK K)
    iterate 1 (refine qg_want (by kernel_rfl) (fun K hK => ?_); go_simp; apply Exists.intro; refine ⟨fun wx hx => ?_, hK _ ?_⟩; ((have y0 := blk_cell (HPB.out wx hx) 0; have y1 := blk_cell (HPB.out wx hx) 1; have k0 := blk_cell (HCB.out wx hx) 0; have k1 := blk_cell (HCB.out wx hx) 1; have k2 := blk_cell (HCB.out wx hx) 2; obtain ⟨d0, d1, d2, d3, d4, d5, d6, d7, d8⟩ := HVX.out wx hx; try dsimp only at d0 d1 d2 d3 d4 d5 d6 d7 d8); go_simp; try rfl); clear hK K)
    iterate 3 (refine qg_want (by kernel_rfl) (fun K hK => ?_); go_simp; (first | refine ⟨_, fun _ _ => rfl, hK _ ?_⟩ | refine hK _ ?_); clear hK K)
    refine qg_nil (fun w9 hw9 => ?_)
    have HW9 := Lib.hid hw9
    clear hw9
    go_wp2
    rcases Nat.eq_zero_or_pos k with h0 | h0
    · subst h0
      clear HPRE HP0 HRW
      have g0 : decide ((0 : Int) > 0) = false := rfl
      refine qg_region (by kernel_rfl) (by kernel_rfl) ?_
      iterate 3 (refine qg_want (by kernel_rfl) (fun K hK => ?_); go_simp; (first | refine ⟨_, fun _ _ => rfl, hK _ ?_⟩ | refine hK _ ?_); clear hK K)
      iterate 11 (refine qg_skip (by kernel_rfl) ?_; simp only [Act.put, List.setIfInBounds_toArray, List.set_cons_succ, List.set_cons_zero])
      iterate 2 (refine qg_want (by kernel_rfl) (fun K hK => ?_); go_simp; (first | refine ⟨_, fun _ _ => rfl, hK _ ?_⟩ | refine hK _ ?_); clear hK K)
      iterate 9 (refine qg_skip (by kernel_rfl) ?_; simp only [Act.put, List.setIfInBounds_toArray, List.set_cons_succ, List.set_cons_zero])
      iterate 1 (refine qg_want (by kernel_rfl) (fun K hK => ?_); go_simp; (first | refine ⟨_, fun _ _ => rfl, hK _ ?_⟩ | refine hK _ ?_); clear hK K)
      refine qg_nil (fun w9 hw9 => ?_)
      have HW10 := Lib.hid (show Gr W1 w9 from HW9.out.trans (hw9.mono HW9.out.size))
      have y0 := blk_cell (HPB.out w9 HW10.out) 0
      have y1 := blk_cell (HPB.out w9 HW10.out) 1
      clear hw9
      go_wp2
      go_roundg g1
      case measure => omega
      case rel => exact ⟨0 + 1, by simp, by simp; try exact HEN.out.symm, ⟨HG.out⟩, ⟨HB16.out.trans (HW10.out.mono HB16.out.size)⟩⟩
    · obtain ⟨j, hkj⟩ := nz_j h0
      obtain ⟨g0, g1', s0, hj, hjI⟩ := sub_j hkj HK.out HTL.out
      have HXJ := Lib.hid (fun (wx : World) (hx : Gr W1 wx) => HXX.out wx hx j hj)
      obtain ⟨HJ0, HJ1⟩ := HP0.out j (by rw [hkj]; exact Nat.lt_succ_self j)
      have HJJ := HPRE.out j hkj
      clear HPRE HP0 HRW HXX hkj
      generalize bs.getD j (0, 0) = b' at *
      obtain ⟨p', z'⟩ := b'
      dsimp only at HJ0 HJ1 HJJ HXJ
      obtain ⟨x1, x2⟩ := quo_pg HJ0 HJ1
      obtain ⟨x3, x4⟩ := quo_pg v14 v15
      obtain ⟨q', hq'⟩ : ∃ q, p' / 4096 = q := ⟨_, rfl⟩
      obtain ⟨q, hq⟩ : ∃ q, p / 4096 = q := ⟨_, rfl⟩
      rw [hq'] at x1 x2 HJJ
      rw [hq] at x3 x4 HJJ
      clear hq hq'
      by_cases he : q' = q
      case neg =>
        have e1 : decide (q' = q) = false := decide_eq_false he
        have e2 : (q' == q) = false := by simpa using he
        clear HJJ
        refine qg_region (by kernel_rfl) (by kernel_rfl) ?_
        iterate 8 (refine qg_want (by kernel_rfl) (fun K hK => ?_); go_simp; (first | refine ⟨_, fun _ _ => rfl, hK _ ?_⟩ | refine hK _ ?_); clear hK K)
        iterate 1 (refine qg_want (by kernel_rfl) (fun K hK => ?_); go_simp; apply Exists.intro; refine ⟨fun wx hx => ?_, hK _ ?_⟩; ((have hzz : Gr W1 wx := HW9.out.trans (hx.mono HW9.out.size); have y0 := blk_cell (HPB.out wx hzz) 0; have y1 := blk_cell (HPB.out wx hzz) 1; obtain ⟨z0, z1⟩ := HXJ.out wx hzz); go_simp; try rfl); clear hK K)
        iterate 2 (refine qg_want (by kernel_rfl) (fun K hK => ?_); go_simp; (first | refine ⟨_, fun _ _ => rfl, hK _ ?_⟩ | refine hK _ ?_); clear hK K)
        iterate 1 (refine qg_want (by kernel_rfl) (fun K hK => ?_); go_simp; apply Exists.intro; refine ⟨fun wx hx => ?_, hK _ ?_⟩; ((have hzz : Gr W1 wx := HW9.out.trans (hx.mono HW9.out.size); have y0 := blk_cell (HPB.out wx hzz) 0; have y1 := blk_cell (HPB.out wx hzz) 1; obtain ⟨z0, z1⟩ := HXJ.out wx hzz); go_simp; try rfl); clear hK K)
        iterate 4 (refine qg_want (by kernel_rfl) (fun K hK => ?_); go_simp; (first | refine ⟨_, fun _ _ => rfl, hK _ ?_⟩ | refine hK _ ?_); clear hK K)
        iterate 9 (refine qg_skip (by kernel_rfl) ?_; simp only [Act.put, List.setIfInBounds_toArray, List.set_cons_succ, List.set_cons_zero])
        iterate 1 (refine qg_want (by kernel_rfl) (fun K hK => ?_); go_simp; (first | refine ⟨_, fun _ _ => rfl, hK _ ?_⟩ | refine hK _ ?_); clear hK K)
        refine qg_nil (fun w9 hw9 => ?_)
        have HW10 := Lib.hid (show Gr W1 w9 from HW9.out.trans (hw9.mono HW9.out.size))
        have y0 := blk_cell (HPB.out w9 HW10.out) 0
        have y1 := blk_cell (HPB.out w9 HW10.out) 1
        clear hw9
        go_wp2
        go_roundg g1
        case measure => omega
        case rel => exact ⟨k + 1, by simp; try exact n1, by simp; try exact HEN.out.symm, ⟨HG.out⟩, ⟨HB16.out.trans (HW10.out.mono HB16.out.size)⟩⟩
      case pos =>
        have hzz := HJJ he
        have e3 : (z' != z) = false := by rw [hzz]; simp
        have e4 : decide (z' = z) = true := decide_eq_true hzz
        subst he
        subst hzz
        clear HJJ
        refine qg_region (by kernel_rfl) (by kernel_rfl) ?_
        iterate 8 (refine qg_want (by kernel_rfl) (fun K hK => ?_); go_simp; (first | refine ⟨_, fun _ _ => rfl, hK _ ?_⟩ | refine hK _ ?_); clear hK K)
        iterate 1 (refine qg_want (by kernel_rfl) (fun K hK => ?_); go_simp; apply Exists.intro; refine ⟨fun wx hx => ?_, hK _ ?_⟩; ((have hzz : Gr W1 wx := HW9.out.trans (hx.mono HW9.out.size); have y0 := blk_cell (HPB.out wx hzz) 0; have y1 := blk_cell (HPB.out wx hzz) 1; obtain ⟨z0, z1⟩ := HXJ.out wx hzz); go_simp; try rfl); clear hK K)
        iterate 2 (refine qg_want (by kernel_rfl) (fun K hK => ?_); go_simp; (first | refine ⟨_, fun _ _ => rfl, hK _ ?_⟩ | refine hK _ ?_); clear hK K)
        iterate 1 (refine qg_want (by kernel_rfl) (fun K hK => ?_); go_simp; apply Exists.intro; refine ⟨fun wx hx => ?_, hK _ ?_⟩; ((have hzz : Gr W1 wx := HW9.out.trans (hx.mono HW9.out.size); have y0 := blk_cell (HPB.out wx hzz) 0; have y1 := blk_cell (HPB.out wx hzz) 1; obtain ⟨z0, z1⟩ := HXJ.out wx hzz); go_simp; try rfl); clear hK K)
        iterate 9 (refine qg_want (by kernel_rfl) (fun K hK => ?_); go_simp; (first | refine ⟨_, fun _ _ => rfl, hK _ ?_⟩ | refine hK _ ?_); clear hK K)
        iterate 1 (refine qg_want (by kernel_rfl) (fun K hK => ?_); go_simp; apply Exists.intro; refine ⟨fun wx hx => ?_, hK _ ?_⟩; ((have hzz : Gr W1 wx := HW9.out.trans (hx.mono HW9.out.size); have y0 := blk_cell (HPB.out wx hzz) 0; have y1 := blk_cell (HPB.out wx hzz) 1; obtain ⟨z0, z1⟩ := HXJ.out wx hzz); go_simp; try rfl); clear hK K)
        iterate 1 (refine qg_want (by kernel_rfl) (fun K hK => ?_); go_simp; (first | refine ⟨_, fun _ _ => rfl, hK _ ?_⟩ | refine hK _ ?_); clear hK K)
        iterate 1 (refine qg_want (by kernel_rfl) (fun K hK => ?_); go_simp; apply Exists.intro; refine ⟨fun wx hx => ?_, hK _ ?_⟩; ((have hzz : Gr W1 wx := HW9.out.trans (hx.mono HW9.out.size); have y0 := blk_cell (HPB.out wx hzz) 0; have y1 := blk_cell (HPB.out wx hzz) 1; obtain ⟨z0, z1⟩ := HXJ.out wx hzz); go_simp; try rfl); clear hK K)
        iterate 2 (refine qg_want (by kernel_rfl) (fun K hK => ?_); go_simp; (first | refine ⟨_, fun _ _ => rfl, hK _ ?_⟩ | refine hK _ ?_); clear hK K)
        refine qg_nil (fun w9 hw9 => ?_)
        have HW10 := Lib.hid (show Gr W1 w9 from HW9.out.trans (hw9.mono HW9.out.size))
        have y0 := blk_cell (HPB.out w9 HW10.out) 0
        have y1 := blk_cell (HPB.out w9 HW10.out) 1
        clear hw9
        go_wp2
        go_roundg g1
        case measure => omega
        case rel => exact ⟨k + 1, by simp; try exact n1, by simp; try exact HEN.out.symm, ⟨HG.out⟩, ⟨HB16.out.trans (HW10.out.mono HB16.out.size)⟩⟩
end
end Go.Proofs.Ytkgedpcipaogjaa.WB
end
