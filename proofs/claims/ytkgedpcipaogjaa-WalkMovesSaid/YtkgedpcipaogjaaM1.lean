/- Part 1 of what the rows of this seat rest on: words of the print that they need; how images, spaces, sets lie in memory; the functions walked. -/
import Derived.Lib.Hide
import Derived.Test.YtkgedpcipaogjaaProg
import Derived.WalkKit
import Derived.WalkLawsBesides
import Derived.Below
import Derived.Defers
import Derived.Recover
import Derived.Deep.Draws
import Derived.Deep.AppendLies
import Derived.Maps.AppendAt
import Derived.OwnWalk
import Derived.Laws.BytesArg
import Derived.Laws.MakeOwn
import Derived.Laws.OwnMore
import Derived.Deep.OwnRows
import Derived.Tactics
import Derived.Lib.ConvBytes
import Derived.Laws.Slices
import Derived.KernelRfl
import Derived.RowKit3
import Derived.Deep.LoopGhost
import Derived.Deep.QuietTactic
import Derived.BigQuiet
import Derived.WideLaws
import Derived.Deep.DeepCutAuto
import Derived.Deep.CutBlock
import Derived.Deep.RegionHeld3
import Derived.Laws.Rows
import Derived.Lib.AppendStr
import Derived.ArgAppend
import Derived.Laws.IdiomCopy
import Derived.RowKit
import Derived.OrdersHeld
import Derived.Laws.BitsLemmas
import Derived.Laws.EntriesVeiled
import Derived.SizedLaws
import Derived.ChangeSlices
import Derived.Laws.StructEq
import Derived.WalkSpells
import Derived.Laws.CopyOwn
import Derived.BigRegion
import Derived.Laws.Bits64
import Derived.Laws.Bits64b
import Derived.Lib.ItoaNum
import Derived.Deep.RegionLaw
import Derived.StillTailTactics
import Derived.Deep.Quiet
import Derived.RegionTactic
import Derived.StillTail
import Derived.ProofKit
import Derived.OpenShut
import Derived.Lib.SmallJoins
import Derived.Deep.Slices
import Derived.Test.YtkgedpcipaogjaaZ1
import Derived.Test.YtkgedpcipaogjaaZ2
import Derived.Test.YtkgedpcipaogjaaZ3
import Derived.Test.YtkgedpcipaogjaaZ4
import Derived.Test.YtkgedpcipaogjaaZ5
import Derived.Test.YtkgedpcipaogjaaZ6
import Derived.Test.YtkgedpcipaogjaaZ7
import Derived.Test.YtkgedpcipaogjaaZ8
import Derived.Test.YtkgedpcipaogjaaZ9
import Derived.Test.YtkgedpcipaogjaaZ10
import Derived.Test.YtkgedpcipaogjaaZ11
import Derived.Test.YtkgedpcipaogjaaZ12
section
set_option linter.unusedVariables false
namespace Go.Proofs.Ytkgedpcipaogjaa.WB
structure Tile (im : Im) (i : Nat) : Prop where
  slab : (im.pg i).kd = 4 → (im.pg i).od = 0
  head : (im.pg i).kd = 0 ∨ (im.pg i).kd = 2 → i % 2 ^ (im.pg i).od.toNat = 0 ∧ plainB (im.pg i) = true ∧ ∀ j, 1 ≤ j → j < 2 ^ (im.pg i).od.toNat → (im.pg (i + j)).kd = (im.pg i).kd + 1 ∧ (im.pg (i + j)).od = (im.pg i).od ∧ plainB (im.pg (i + j)) = true
  rest : (im.pg i).kd = 1 ∨ (im.pg i).kd = 3 → ∃ h, h < i ∧ (im.pg h).kd + 1 = (im.pg i).kd ∧ (im.pg h).od = (im.pg i).od ∧ i < h + 2 ^ (im.pg h).od.toNat
  kinds : (im.pg i).kd = 0 ∨ (im.pg i).kd = 1 ∨ (im.pg i).kd = 2 ∨ (im.pg i).kd = 3 ∨ (im.pg i).kd = 4
theorem run_tiles {im : Im} : ∀ (d at_ : Nat), im.n < at_ + d → runF im d at_ = none → ∀ i, at_ ≤ i → i < im.n → Tile im i
  | 0, at_, hd, _, i, h1, h2 => by omega
  | d + 1, at_, hd, h, i, h1, h2 => by
    unfold runF at h
    rw [if_pos (by omega)] at h
    by_cases hk : (im.pg at_).kd = 4
    · rw [if_pos hk] at h
      by_cases ho : (im.pg at_).od = 0
      · rw [if_pos ho] at h
        by_cases e : i = at_
        · subst e
          exact ⟨fun _ => ho, fun h => by omega, fun h => by omega, by omega⟩
        · exact run_tiles d (at_ + 1) (by omega) h i (by omega) h2
      · rw [if_neg ho] at h; cases h
    · rw [if_neg hk] at h
      by_cases hc : ((im.pg at_).kd = 0 ∨ (im.pg at_).kd = 2) ∧ at_ % 2 ^ (im.pg at_).od.toNat = 0 ∧ plainB (im.pg at_) = true
      · rw [if_pos hc] at h
        have hp : 0 < 2 ^ (im.pg at_).od.toNat := Nat.pow_pos (by decide)
        cases hs : scan (fun i => if (im.pg (at_ + i)).kd = (im.pg at_).kd + 1 ∧ (im.pg (at_ + i)).od = (im.pg at_).od ∧ plainB (im.pg (at_ + i)) = true then none else some ((at_ + i : Nat) : Int)) (2 ^ (im.pg at_).od.toNat - 1) 1 with
        | some p => rw [hs] at h; cases h
        | none =>
          rw [hs] at h
          rw [scan_none] at hs
          have hr : ∀ j, 1 ≤ j → j < 2 ^ (im.pg at_).od.toNat → (im.pg (at_ + j)).kd = (im.pg at_).kd + 1 ∧ (im.pg (at_ + j)).od = (im.pg at_).od ∧ plainB (im.pg (at_ + j)) = true := by
            intro j j1 j2
            have := hs j j1 (by omega)
            by_cases e : (im.pg (at_ + j)).kd = (im.pg at_).kd + 1 ∧ (im.pg (at_ + j)).od = (im.pg at_).od ∧ plainB (im.pg (at_ + j)) = true
            · exact e
            · rw [if_neg e] at this; cases this
          by_cases e : i = at_
          · subst e
            exact ⟨fun h => by omega, fun _ => ⟨hc.2.1, hc.2.2, hr⟩, fun h => by omega, by omega⟩
          · by_cases e2 : i < at_ + 2 ^ (im.pg at_).od.toNat
            · have := hr (i - at_) (by omega) (by omega)
              rw [show at_ + (i - at_) = i by omega] at this
              exact ⟨fun h => by omega, fun h => by omega, fun _ => ⟨at_, by omega, by omega, by omega, by omega⟩, by omega⟩
            · exact run_tiles d _ (by omega) h i (by omega) h2
      · rw [if_neg hc] at h; cases h
theorem tiles {im : Im} (h : R4 im = none) {i : Nat} (hi : i < im.n) : Tile im i := run_tiles _ 0 (by omega) h i (Nat.zero_le _) hi
theorem mem_cellBs {im : Im} {i : Nat} {b : Int × Int} : ∀ {m : Nat}, b ∈ cellBs im i m ↔ ∃ c, c < m ∧ (im.pg i).bit c = true ∧ b = (im.base + 4096 * (i : Int) + (c : Int) * (cellZ (im.pg i) : Int), (cellZ (im.pg i) : Int))
  | 0 => by simp [cellBs]
  | m + 1 => by
    rw [cellBs, List.mem_append, mem_cellBs]
    constructor
    · rintro (⟨c, h1, h2⟩ | h)
      · exact ⟨c, by omega, h2⟩
      · split at h
        · exact ⟨m, by omega, by assumption, by simpa using h⟩
        · cases h
    · rintro ⟨c, h1, h2, h3⟩
      by_cases e : c = m
      · subst e
        right
        rw [if_pos h2, h3]
        simp
      · exact Or.inl ⟨c, by omega, h2, h3⟩
theorem mem_blocksTo {im : Im} {b : Int × Int} : ∀ {m : Nat}, b ∈ blocksTo im m ↔ ∃ i, i < m ∧ b ∈ pageBs im i
  | 0 => by simp [blocksTo]
  | m + 1 => by
    rw [blocksTo, List.mem_append, mem_blocksTo]
    constructor
    · rintro (⟨c, h1, h2⟩ | h)
      · exact ⟨c, by omega, h2⟩
      · exact ⟨m, by omega, h⟩
    · rintro ⟨c, h1, h2⟩
      by_cases e : c = m
      · subst e; exact Or.inr h2
      · exact Or.inl ⟨c, by omega, h2⟩
structure BlkOk (im : Im) (o : Nat) (b : Int × Int) : Prop where
  size : ∃ k : Nat, 4 ≤ k ∧ k ≤ 12 + o ∧ b.2 = (2 ^ k : Nat) ∧ b.1 % (2 ^ k : Nat) = 0
  low : im.base ≤ b.1
  top : b.1 + b.2 ≤ im.base + im.mem.length
structure Base4 (im : Im) (o r : Nat) : Prop where
  geo : Geo im o r
  rng : ∀ i, i < im.n → Rng im.order ((im.n : Int) - 1) (im.pg i)
  tile : ∀ i, i < im.n → Tile im i
theorem base4 {im : Im} (hw : im.Wf) (h1 : R1 im = none) (h2 : R2 im = none) (h3 : R3 im = none) (h4 : R4 im = none) : ∃ o r, Base4 im o r := by
  obtain ⟨o, r, g⟩ := geo_of hw h1 h2
  exact ⟨o, r, g, fun i hi => rangeB_t (R3_none.1 h3 i hi), fun i hi => tiles h4 hi⟩
theorem emod_pow {x : Int} {a b : Nat} (hab : a ≤ b) (h : x % (2 ^ b : Nat) = 0) : x % (2 ^ a : Nat) = 0 := by
  have h1 : ((2 ^ a : Nat) : Int) ∣ ((2 ^ b : Nat) : Int) := Int.natCast_dvd_natCast.2 (pow_dvd hab)
  exact Int.emod_eq_zero_of_dvd (Int.dvd_trans h1 (Int.dvd_of_emod_eq_zero h))
theorem page_blk {im : Im} {o r : Nat} (g : Base4 im o r) {i : Nat} (hi : i < im.n) {b : Int × Int} (hb : b ∈ pageBs im i) : BlkOk im o b ∧ im.base + 4096 * (i : Int) ≤ b.1 ∧ b.1 < im.base + 4096 * ((i : Int) + 1) ∧
    ((im.pg i).kd = 2 ∧ b.2 = 4096 * ((2 ^ (im.pg i).od.toNat : Nat) : Int) ∧ b.1 = im.base + 4096 * (i : Int) ∨ (im.pg i).kd = 4 ∧ b.1 + b.2 ≤ im.base + 4096 * ((i : Int) + 1)) := by
  have hm := g.geo.mem
  rw [← g.geo.n] at hm
  have hr := g.rng i hi
  have ht := g.tile i hi
  have hbR := g.geo.baseR
  have e12 : 4096 * 2 ^ o = 2 ^ (12 + o) := by rw [Nat.pow_add]
  rw [e12] at hbR
  have hb12 := emod_pow (a := 12) (b := 12 + o) (by omega) hbR
  unfold pageBs at hb
  by_cases h2 : (im.pg i).kd = 2
  · rw [if_pos h2] at hb
    simp only [List.mem_singleton] at hb
    subst hb
    obtain ⟨k, hk⟩ : ∃ k : Nat, (im.pg i).od = k := ⟨(im.pg i).od.toNat, by have := hr.od; omega⟩
    have hko : k ≤ o := by have := hr.od; rw [g.geo.order] at this; omega
    obtain ⟨t1, t2, t3⟩ := ht.head (Or.inr h2)
    rw [hk, Int.toNat_natCast] at t1 ⊢
    have hf := g.geo.fits hko hi t1
    have e2 : (4096 : Int) * 2 ^ k = ((2 ^ (12 + k) : Nat) : Int) := by rw [Nat.pow_add]; simp
    have e3 : (2 : Nat) ^ (12 + k) = 4096 * 2 ^ k := by rw [Nat.pow_add]
    have hp : 0 < 2 ^ k := Nat.pow_pos (by decide)
    refine ⟨⟨⟨12 + k, by omega, by omega, e2, ?_⟩, by dsimp only; omega, ?_⟩, Int.le_refl _, by dsimp only; omega, Or.inl ⟨h2, by dsimp only; rw [e2, e3]; simp, rfl⟩⟩
    · dsimp only
      have a1 := emod_pow (a := 12 + k) (b := 12 + o) (by omega) hbR
      have a2 : (((i : Nat) : Int) * 4096) % ((2 ^ (12 + k) : Nat) : Int) = 0 := by
        obtain ⟨c, hc⟩ := Nat.dvd_of_mod_eq_zero t1
        apply Int.emod_eq_zero_of_dvd
        rw [e3]
        exact ⟨c, by rw [hc]; simp only [Int.natCast_mul, Int.cast_ofNat_Int]; generalize ((2 ^ k : Nat) : Int) = z; rw [Int.mul_comm (z * c) 4096, Int.mul_assoc]⟩
      generalize ((2 ^ (12 + k) : Nat) : Int) = z at *
      rw [Int.mul_comm 4096, Int.add_emod, a1, a2]
      simp
    · dsimp only
      rw [e2, e3, hm]
      generalize 2 ^ k = z at *
      omega
  · rw [if_neg h2] at hb
    by_cases h4 : (im.pg i).kd = 4
    · rw [if_pos h4, mem_cellBs] at hb
      obtain ⟨c, hc, -, rfl⟩ := hb
      obtain ⟨k, hk, hk7, n1, n2, n3⟩ := cell_page hr.cl.1 hr.cl.2
      unfold cellZ
      have hz : (c + 1) * (16 * 2 ^ (im.pg i).cl.toNat) ≤ 4096 := by rw [← n3]; exact Nat.mul_le_mul_right _ hc
      rw [n2] at hz ⊢
      rw [Nat.add_mul, Nat.one_mul] at hz
      have hzp : 0 < 2 ^ (4 + k) := Nat.pow_pos (by decide)
      have hcm : (c : Int) * ((2 ^ (4 + k) : Nat) : Int) = ((c * 2 ^ (4 + k) : Nat) : Int) := by simp
      have c1 : 0 ≤ (c : Int) * ((2 ^ (4 + k) : Nat) : Int) := by rw [hcm]; exact Int.natCast_nonneg _
      have c2 : (c : Int) * ((2 ^ (4 + k) : Nat) : Int) + ((2 ^ (4 + k) : Nat) : Int) ≤ 4096 := by rw [hcm]; omega
      have c3 : 0 < ((2 ^ (4 + k) : Nat) : Int) := by omega
      refine ⟨⟨⟨4 + k, by omega, by omega, rfl, ?_⟩, ?_, ?_⟩, ?_, ?_, Or.inr ⟨h4, ?_⟩⟩
      · dsimp only
        have a1 := emod_pow (a := 4 + k) (b := 12 + o) (by omega) hbR
        have a2 : (4096 * (i : Int)) % ((2 ^ (4 + k) : Nat) : Int) = 0 := by
          apply Int.emod_eq_zero_of_dvd
          refine Int.dvd_trans ?_ (Int.dvd_mul_right _ _)
          have : (2 ^ (4 + k)) ∣ (2 ^ 12) := pow_dvd (by omega)
          exact Int.natCast_dvd_natCast.2 this
        generalize ((2 ^ (4 + k) : Nat) : Int) = z at *
        rw [Int.add_mul_emod_self_right, Int.add_emod, a1, a2]
        simp
      all_goals (dsimp only; omega)
    · rw [if_neg h4] at hb; cases hb
theorem blocks_ok {im : Im} {o r : Nat} (g : Base4 im o r) {b : Int × Int} (hb : b ∈ im.blocks) : BlkOk im o b := by
  obtain ⟨i, hi, hbi⟩ := mem_blocksTo.1 hb
  exact (page_blk g hi hbi).1
end Go.Proofs.Ytkgedpcipaogjaa.WB
end
section
set_option linter.unusedVariables false
namespace Go.Proofs.Ytkgedpcipaogjaa.WB
def putB (mem : List Int) (off : Nat) (x : Int) : Nat → List Int
  | 0 => mem
  | k + 1 => (putB mem off x k).set (off + k) (x / 256 ^ k % 256)
theorem putB_len (mem : List Int) (off : Nat) (x : Int) : ∀ k, (putB mem off x k).length = mem.length
  | 0 => rfl
  | k + 1 => by rw [putB, List.length_set, putB_len mem off x k]
theorem putB_get {mem : List Int} {off : Nat} {x : Int} (j : Nat) : ∀ {k : Nat}, off + k ≤ mem.length → (putB mem off x k).getD j 0 = if off ≤ j ∧ j < off + k then x / 256 ^ (j - off) % 256 else mem.getD j 0
  | 0, _ => by rw [putB, if_neg (by omega)]
  | k + 1, h => by
    rw [putB]
    by_cases e : j = off + k
    · subst e
      rw [List.getD_eq_getElem?_getD, List.getElem?_set_self (by rw [putB_len]; omega), if_pos (by omega), show off + k - off = k by omega]
      rfl
    · rw [List.getD_eq_getElem?_getD, List.getElem?_set_ne (by omega), ← List.getD_eq_getElem?_getD, putB_get j (by omega)]
      by_cases c : off ≤ j ∧ j < off + k
      · rw [if_pos c, if_pos (by omega)]
      · rw [if_neg c, if_neg (by omega)]
theorem psum_congr {m m' : List Int} {off : Nat} : ∀ {k : Nat}, (∀ i, i < k → m.getD (off + i) 0 = m'.getD (off + i) 0) → psum m off k = psum m' off k
  | 0, _ => rfl
  | k + 1, h => by rw [psum, psum, psum_congr (k := k) (fun i hi => h i (by omega)), h k (by omega)]
theorem psum_put {mem : List Int} {off : Nat} {x : Int} (hx : 0 ≤ x) {n : Nat} (h : off + n ≤ mem.length) : ∀ {k : Nat}, k ≤ n → psum (putB mem off x n) off k = x % 256 ^ k
  | 0, _ => by simp [psum]
  | k + 1, hk => by
    rw [psum, psum_put hx h (k := k) (by omega), putB_get _ h, if_pos (by omega), show off + k - off = k by omega]
    have e : (256 : Int) ^ (k + 1) = 256 ^ k * 256 := Int.pow_succ ..
    have hp : (0 : Int) < 256 ^ k := Int.pow_pos (by decide)
    rw [e]
    generalize (256 : Int) ^ k = q at *
    have h1 := Int.emod_add_mul_ediv x q
    have h2 := Int.emod_add_mul_ediv (x / q) 256
    have h3 : x / (q * 256) = x / q / 256 := (Int.ediv_ediv_of_nonneg (by omega)).symm
    have h4 := Int.emod_add_mul_ediv x (q * 256)
    rw [h3] at h4
    have h5 : x / q * q = (x / q % 256) * q + 256 * (x / q / 256) * q := by
      conv => lhs; rw [← h2]
      rw [Int.add_mul]
    have h6 : q * 256 * (x / q / 256) = 256 * (x / q / 256) * q := by
      rw [Int.mul_comm q 256, Int.mul_assoc, Int.mul_comm q, ← Int.mul_assoc]
    have h7 : q * (x / q) = x / q * q := Int.mul_comm _ _
    omega
theorem wordM_put {mem : List Int} {off : Nat} {x : Int} (hx : U64 x) (h : off + 8 ≤ mem.length) : wordM (putB mem off x 8) off = x := by
  unfold wordM
  rw [psum_put hx.1 h (Nat.le_refl _)]
  exact Int.emod_eq_of_lt hx.1 hx.2
theorem wordM_far {mem : List Int} {off o2 : Nat} {x : Int} (h : off + 8 ≤ mem.length) (hd : o2 + 8 ≤ off ∨ off + 8 ≤ o2) : wordM (putB mem off x 8) o2 = wordM mem o2 := by
  unfold wordM
  refine psum_congr (fun i hi => ?_)
  rw [putB_get _ h, if_neg (by omega)]
def shiftM (mem : List Int) (off : Nat) (d : Int) : List Int := if wordM mem off = 0 then mem else putB mem off ((wordM mem off + d) % 18446744073709551616) 8
def sh (d w : Int) : Int := if w = 0 then 0 else (w + d) % 18446744073709551616
theorem sh_u {d w : Int} : U64 (sh d w) := by
  unfold sh U64
  split
  · omega
  · omega
theorem psum_shift {mem : List Int} {o : Nat} {d : Int} (hu : U64 (wordM mem o)) (h : o + 8 ≤ mem.length) : wordM (shiftM mem o d) o = sh d (wordM mem o) := by
  unfold shiftM sh
  by_cases e : wordM mem o = 0
  · rw [if_pos e, if_pos e, e]
  · rw [if_neg e, if_neg e]
    exact wordM_put (by unfold U64; omega) h
theorem shiftM_len (mem : List Int) (o : Nat) (d : Int) : (shiftM mem o d).length = mem.length := by
  unfold shiftM
  split
  · rfl
  · exact putB_len _ _ _ _
theorem shiftM_far {mem : List Int} {o o2 : Nat} {d : Int} (h : o + 8 ≤ mem.length) (hd : o2 + 8 ≤ o ∨ o + 8 ≤ o2) : wordM (shiftM mem o d) o2 = wordM mem o2 := by
  unfold shiftM
  split
  · rfl
  · exact wordM_far h hd
theorem putB_byte {mem : List Int} (hm : ∀ x ∈ mem, 0 ≤ x ∧ x < 256) (o : Nat) (v : Int) : ∀ k, ∀ x ∈ putB mem o v k, 0 ≤ x ∧ x < 256
  | 0 => hm
  | k + 1 => by
    intro x hx
    rw [putB] at hx
    rcases List.mem_or_eq_of_mem_set hx with h | h
    · exact putB_byte hm o v k x h
    · omega
theorem shiftM_byte {mem : List Int} (hm : ∀ x ∈ mem, 0 ≤ x ∧ x < 256) (o : Nat) (d : Int) : ∀ x ∈ shiftM mem o d, 0 ≤ x ∧ x < 256 := by
  unfold shiftM
  split
  · exact hm
  · exact putB_byte hm _ _ _
def moveM (d : Int) (mem : List Int) (l : List Nat) : List Int := l.foldl (fun m o => shiftM m o d) mem
theorem moveM_app (d : Int) (mem : List Int) (l m : List Nat) : moveM d mem (l ++ m) = moveM d (moveM d mem l) m := by
  unfold moveM
  rw [List.foldl_append]
theorem moveM_len (d : Int) : ∀ (l : List Nat) (mem : List Int), (moveM d mem l).length = mem.length
  | [], _ => rfl
  | o :: l, mem => by
    have := moveM_len d l (shiftM mem o d)
    rw [shiftM_len] at this
    exact this
theorem moveM_byte (d : Int) : ∀ (l : List Nat) {mem : List Int}, (∀ x ∈ mem, 0 ≤ x ∧ x < 256) → ∀ x ∈ moveM d mem l, 0 ≤ x ∧ x < 256
  | [], _, h => h
  | o :: l, mem, h => moveM_byte d l (shiftM_byte h o d)
def Far (a b : Nat) : Prop := a + 8 ≤ b ∨ b + 8 ≤ a
theorem moveM_far (d : Int) : ∀ (l : List Nat) {mem : List Int} {o : Nat}, (∀ a ∈ l, a + 8 ≤ mem.length) → (∀ a ∈ l, Far a o) → wordM (moveM d mem l) o = wordM mem o
  | [], _, _, _, _ => rfl
  | a :: l, mem, o, h1, h2 => by
    have e : moveM d mem (a :: l) = moveM d (shiftM mem a d) l := rfl
    have ha := h2 a List.mem_cons_self
    rw [e, moveM_far d l (fun b hb => by rw [shiftM_len]; exact h1 b (List.mem_cons_of_mem _ hb)) (fun b hb => h2 b (List.mem_cons_of_mem _ hb))]
    refine shiftM_far (h1 a List.mem_cons_self) ?_
    unfold Far at ha
    omega
theorem moveM_at (d : Int) : ∀ (l : List Nat) {mem : List Int} {o : Nat}, (∀ x ∈ mem, 0 ≤ x ∧ x < 256) → (∀ a ∈ l, a + 8 ≤ mem.length) → List.Pairwise Far l → o ∈ l → wordM (moveM d mem l) o = sh d (wordM mem o)
  | [], _, _, _, _, _, h => by cases h
  | a :: l, mem, o, hb, h1, h2, ho => by
    have e : moveM d mem (a :: l) = moveM d (shiftM mem a d) l := rfl
    rw [List.pairwise_cons] at h2
    have hl : ∀ b ∈ l, b + 8 ≤ (shiftM mem a d).length := fun b hb => by rw [shiftM_len]; exact h1 b (List.mem_cons_of_mem _ hb)
    rw [e]
    rcases List.mem_cons.1 ho with rfl | ho
    · rw [moveM_far d l hl (fun b hb => by have := h2.1 b hb; unfold Far at *; omega)]
      exact psum_shift (wordM_bd hb _) (h1 _ List.mem_cons_self)
    · rw [moveM_at d l (shiftM_byte hb a d) hl h2.2 ho]
      have := h2.1 o ho
      rw [shiftM_far (h1 a List.mem_cons_self) (by unfold Far at this; omega)]
def cellPl (im : Im) (i : Nat) : Nat → List Nat
  | 0 => []
  | c + 1 => cellPl im i c ++ if (im.pg i).bit c = true then [] else [4096 * i + cellZ (im.pg i) * c]
def pagePl (im : Im) (i : Nat) : List Nat :=
  (if (im.pg i).kd = 0 then [4096 * i, 4096 * i + 8] else []) ++ (if (im.pg i).kd = 4 then cellPl im i (cellsN (im.pg i).cl) else [])
def placesTo (im : Im) : Nat → List Nat
  | 0 => []
  | i + 1 => placesTo im i ++ pagePl im i
theorem mem_cellPl {im : Im} {i : Nat} {o : Nat} : ∀ {m : Nat}, o ∈ cellPl im i m ↔ ∃ c, c < m ∧ (im.pg i).bit c = false ∧ o = 4096 * i + cellZ (im.pg i) * c
  | 0 => by simp [cellPl]
  | m + 1 => by
    rw [cellPl, List.mem_append, mem_cellPl]
    constructor
    · rintro (⟨c, h1, h2⟩ | h)
      · exact ⟨c, by omega, h2⟩
      · split at h
        · cases h
        · exact ⟨m, by omega, by simpa using (by assumption : ¬ (im.pg i).bit m = true), by simpa using h⟩
    · rintro ⟨c, h1, h2, h3⟩
      by_cases e : c = m
      · subst e
        right
        rw [if_neg (by rw [h2]; decide), h3]
        simp
      · exact Or.inl ⟨c, by omega, h2, h3⟩
theorem mem_placesTo {im : Im} {o : Nat} : ∀ {m : Nat}, o ∈ placesTo im m ↔ ∃ i, i < m ∧ o ∈ pagePl im i
  | 0 => by simp [placesTo]
  | m + 1 => by
    rw [placesTo, List.mem_append, mem_placesTo]
    constructor
    · rintro (⟨c, h1, h2⟩ | h)
      · exact ⟨c, by omega, h2⟩
      · exact ⟨m, by omega, h⟩
    · rintro ⟨c, h1, h2⟩
      by_cases e : c = m
      · subst e; exact Or.inr h2
      · exact Or.inl ⟨c, by omega, h2⟩
theorem cell_in {im : Im} {o r : Nat} (g : Base4 im o r) {i c : Nat} (hi : i < im.n) (hc : c < cellsN (im.pg i).cl) : cellZ (im.pg i) * c + cellZ (im.pg i) ≤ 4096 ∧ 16 ≤ cellZ (im.pg i) ∧ cellZ (im.pg i) ∣ 4096 := by
  have hr := g.rng i hi
  obtain ⟨k, -, hk7, n1, n2, n3⟩ := cell_page hr.cl.1 hr.cl.2
  have hz : cellZ (im.pg i) = 2 ^ (4 + k) := n2
  have h16 : 2 ^ 4 ≤ 2 ^ (4 + k) := Nat.pow_le_pow_right (by decide) (by omega)
  have h1 : (c + 1) * cellZ (im.pg i) ≤ 4096 := by
    rw [← n3]
    exact Nat.mul_le_mul_right _ hc
  rw [Nat.succ_mul, Nat.mul_comm] at h1
  exact ⟨h1, by rw [hz]; omega, by rw [← n3]; exact Nat.dvd_mul_left _ _⟩
theorem pagePl_in {im : Im} {o r : Nat} (g : Base4 im o r) {i a : Nat} (hi : i < im.n) (ha : a ∈ pagePl im i) : 4096 * i ≤ a ∧ a + 8 ≤ 4096 * (i + 1) := by
  unfold pagePl at ha
  rcases List.mem_append.1 ha with h | h
  · split at h
    · simp only [List.mem_cons, List.not_mem_nil, or_false] at h
      omega
    · cases h
  · split at h
    · obtain ⟨c, hc, -, rfl⟩ := mem_cellPl.1 h
      obtain ⟨h1, h2, -⟩ := cell_in g hi hc
      generalize cellZ (im.pg i) * c = m at *
      omega
    · cases h
theorem cellPl_pair {im : Im} {o r : Nat} (g : Base4 im o r) {i : Nat} (hi : i < im.n) : ∀ m, m ≤ cellsN (im.pg i).cl → List.Pairwise Far (cellPl im i m)
  | 0, _ => List.Pairwise.nil
  | m + 1, hm => by
    rw [cellPl, List.pairwise_append]
    refine ⟨cellPl_pair g hi m (by omega), by split <;> simp, ?_⟩
    intro a ha b hb
    split at hb
    · cases hb
    · obtain ⟨c, hc, -, rfl⟩ := mem_cellPl.1 ha
      rw [List.mem_singleton] at hb
      subst hb
      obtain ⟨h1, h2, -⟩ := cell_in g hi (c := c) (by omega)
      have := Nat.mul_le_mul_left (cellZ (im.pg i)) hc
      rw [Nat.mul_succ] at this
      left
      omega
theorem pagePl_pair {im : Im} {o r : Nat} (g : Base4 im o r) {i : Nat} (hi : i < im.n) : List.Pairwise Far (pagePl im i) := by
  unfold pagePl
  by_cases h0 : (im.pg i).kd = 0
  · rw [if_pos h0, if_neg (by omega), List.append_nil]
    simp [Far]
  · rw [if_neg h0, List.nil_append]
    split
    · exact cellPl_pair g hi _ (Nat.le_refl _)
    · exact List.Pairwise.nil
theorem places_pair {im : Im} {o r : Nat} (g : Base4 im o r) : ∀ m, m ≤ im.n → List.Pairwise Far (placesTo im m)
  | 0, _ => List.Pairwise.nil
  | m + 1, hm => by
    rw [placesTo, List.pairwise_append]
    refine ⟨places_pair g m (by omega), pagePl_pair g (by omega), ?_⟩
    intro a ha b hb
    obtain ⟨i, hi, hai⟩ := mem_placesTo.1 ha
    have h1 := pagePl_in g (by omega) hai
    have h2 := pagePl_in g (by omega) hb
    left
    omega
def Im.move (im : Im) (d : Int) : Im := { im with base := im.base + d, heads := im.heads.map (sh d), mem := moveM d im.mem (placesTo im im.n) }
theorem places_in {im : Im} {o r : Nat} (g : Base4 im o r) : ∀ a ∈ placesTo im im.n, a + 8 ≤ im.mem.length := by
  intro a ha
  obtain ⟨i, hi, hai⟩ := mem_placesTo.1 ha
  have h1 := pagePl_in g hi hai
  have := g.geo.mem
  have := g.geo.n
  omega
theorem move_word {im : Im} (hw : im.Wf) {o r : Nat} (g : Base4 im o r) (d : Int) {a : Nat} (ha : a ∈ placesTo im im.n) : wordM (im.move d).mem a = sh d (wordM im.mem a) :=
  moveM_at d _ hw.mem (places_in g) (places_pair g _ (Nat.le_refl _)) ha
theorem free_places {im : Im} {i : Nat} (hi : i < im.n) (hk : (im.pg i).kd = 0) : 4096 * i ∈ placesTo im im.n ∧ 4096 * i + 8 ∈ placesTo im im.n := by
  refine ⟨mem_placesTo.2 ⟨i, hi, ?_⟩, mem_placesTo.2 ⟨i, hi, ?_⟩⟩ <;>
  · unfold pagePl
    rw [if_pos hk]
    simp
theorem cell_places {im : Im} {i c : Nat} (hi : i < im.n) (hk : (im.pg i).kd = 4) (hc : c < cellsN (im.pg i).cl) (hb : (im.pg i).bit c = false) : 4096 * i + c * cellZ (im.pg i) ∈ placesTo im im.n := by
  refine mem_placesTo.2 ⟨i, hi, ?_⟩
  unfold pagePl
  rw [if_pos hk]
  refine List.mem_append_right _ (mem_cellPl.2 ⟨c, hc, hb, by rw [Nat.mul_comm c]⟩)
structure Mv (im : Im) (d : Int) : Prop where
  d0 : 0 ≤ d
  d4 : d % 4096 = 0
  lim : d ≤ 9223372036854775807
theorem free_idx_at {im : Im} {k : Nat} {p : Int} (h1 : im.base ≤ p) (h2 : p - im.base < im.mem.length) (h3 : p % 4096 = 0) (h4 : im.openB ((p - im.base) / 4096).toNat k = true) : (freeL im k).idx p = some ((p - im.base) / 4096).toNat := if_pos ⟨h1, h2, h3, h4⟩
theorem move_fol {im : Im} (hw : im.Wf) {o r : Nat} (g : Base4 im o r) {d : Int} (hd : Mv im d) (k : Nat) : ∀ (t : Nat) (p b : Int) (acc rr : List Nat), (freeL im k).fol t p b acc = some rr → (freeL (im.move d) k).fol t (sh d p) (sh d b) acc = some rr
  | 0, _, _, _, _, h => by cases h
  | t + 1, p, b, acc, rr, h => by
    rw [Ln.fol] at h ⊢
    have n0 : (freeL im k).nul = 0 := rfl
    have n1 : (freeL (im.move d) k).nul = 0 := rfl
    rw [n0] at h
    rw [n1]
    by_cases hp : p = 0
    · rw [if_pos hp] at h
      rw [if_pos (by unfold sh; rw [if_pos hp])]
      exact h
    · rw [if_neg hp] at h
      cases hq : (freeL im k).idx p with
      | none => rw [hq] at h; cases h
      | some i =>
        rw [hq] at h
        simp only at h
        by_cases hc : acc.contains i = false ∧ (freeL im k).pv i = b
        · rw [if_pos hc] at h
          have hok := (freeL_ok g.geo k).idx_ok p i hq
          have hin : im.base ≤ p ∧ p - im.base < im.mem.length ∧ p % 4096 = 0 ∧ im.openB ((p - im.base) / 4096).toNat k = true ∧ ((p - im.base) / 4096).toNat = i := by
            simp only [freeL] at hq
            split at hq
            · rename_i hh
              injection hq with hq
              exact ⟨hh.1, hh.2.1, hh.2.2.1, hh.2.2.2, hq⟩
            · cases hq
          have htop := g.geo.top
          have hb0 := g.geo.base0
          have hd0 := hd.d0
          have hd4 := hd.d4
          have hdl := hd.lim
          have hsh : sh d p = p + d := by
            unfold sh
            rw [if_neg hp]
            omega
          have hidx : (freeL (im.move d) k).idx (sh d p) = some i := by
            have e1 : (im.move d).mem.length = im.mem.length := moveM_len _ _ _
            have e2 : p + d - (im.move d).base = p - im.base := by show p + d - (im.base + d) = _; omega
            rw [hsh, free_idx_at (by show im.base + d ≤ p + d; omega) (by rw [e2, e1]; exact hin.2.1) (by omega) (by rw [e2]; exact hin.2.2.2.1), e2, hin.2.2.2.2]
          rw [if_neg (by rw [hsh]; omega), hidx]
          simp only
          have hk := (open_t.1 hok.2).1
          have hfp := free_places hok.1 hk
          have hpv : (freeL (im.move d) k).pv i = sh d ((freeL im k).pv i) := move_word hw g d hfp.2
          have hnx : (freeL (im.move d) k).nx i = sh d ((freeL im k).nx i) := move_word hw g d hfp.1
          rw [hpv, hnx, if_pos ⟨hc.1, by rw [hc.2]⟩]
          exact move_fol hw g hd k t _ _ _ _ h
        · rw [if_neg hc] at h; cases h
theorem move_free {im : Im} (hw : im.Wf) {o r : Nat} (g : Base4 im o r) {d : Int} (hd : Mv im d) (k : Nat) {h : Int} (hh : (freeL im k).folB h = true) : (freeL (im.move d) k).folB (sh d h) = true := by
  unfold Ln.folB at hh ⊢
  have hn : (freeL (im.move d) k).n = (freeL im k).n := rfl
  have hb : (freeL (im.move d) k).bnul = sh d (freeL im k).bnul := by
    show (0 : Int) = sh d 0
    unfold sh
    rw [if_pos rfl]
  have ha : (freeL (im.move d) k).all = (freeL im k).all := rfl
  rw [hn, hb, ha]
  cases hf : (freeL im k).fol ((freeL im k).n + 1) h (freeL im k).bnul [] with
  | none => rw [hf] at hh; cases hh
  | some rr =>
    rw [hf] at hh
    rw [move_fol hw g hd k _ _ _ _ _ hf]
    exact hh
theorem cfol_imp {n : Nat} {lv : Nat → Bool} {nx ny : Nat → Nx} (h : ∀ c, c < n → lv c = false → nx c = ny c ∨ nx c = .bad) : ∀ d i acc r, cfol n lv nx d i acc = some r → cfol n lv ny d i acc = some r
  | 0, _, _, _, hr => by cases hr
  | d + 1, i, acc, r, hr => by
    rw [cfol] at hr ⊢
    by_cases hi : i = -1
    · rw [if_pos hi] at hr ⊢
      exact hr
    · rw [if_neg hi] at hr ⊢
      by_cases hc : 0 ≤ i ∧ i < n ∧ lv i.toNat = false ∧ acc.contains i.toNat = false
      · rw [if_pos hc] at hr ⊢
        rcases h i.toNat (by omega) hc.2.2.1 with e | e
        · rw [← e]
          cases hq : nx i.toNat with
          | fin => rw [hq] at hr; exact hr
          | bad => rw [hq] at hr; cases hr
          | onto j => rw [hq] at hr; exact cfol_imp h d j _ _ hr
        · rw [e] at hr; cases hr
      · rw [if_neg hc] at hr; cases hr
theorem move_nx {im : Im} (hw : im.Wf) {o r : Nat} (g : Base4 im o r) {d : Int} (hd : Mv im d) {i : Nat} (hi : i < im.n) (hk : (im.pg i).kd = 4) {c : Nat} (hc : c < cellsN (im.pg i).cl) (hb : (im.pg i).bit c = false) : nxC im i c = nxC (im.move d) i c ∨ nxC im i c = .bad := by
  have e := move_word hw g d (cell_places hi hk hc hb)
  have ep : (im.move d).pg i = im.pg i := rfl
  have eb : (im.move d).base = im.base + d := rfl
  have hu := wordM_bd hw.mem (4096 * i + c * cellZ (im.pg i))
  obtain ⟨-, hz, hzd⟩ := cell_in g hi hc
  unfold nxC
  rw [ep, e, eb]
  have htop := g.geo.top
  have hm := g.geo.mem
  have hn := g.geo.n
  have hb0 := g.geo.base0
  have hd0 := hd.d0
  have hd4 := hd.d4
  have hdl := hd.lim
  generalize wordM im.mem (4096 * i + c * cellZ (im.pg i)) = w at *
  by_cases hw0 : w = 0
  · left
    rw [if_pos hw0, if_pos (by unfold sh; rw [if_pos hw0])]
  · rw [if_neg hw0]
    by_cases hin : im.base + 4096 * (i : Int) ≤ w ∧ w - (im.base + 4096 * (i : Int)) < 4096 ∧ w % (cellZ (im.pg i) : Nat) = 0
    · left
      have hsh : sh d w = w + d := by
        unfold sh
        rw [if_neg hw0]
        omega
      have hdz : d % (cellZ (im.pg i) : Nat) = 0 := by
        have h1 : ((cellZ (im.pg i) : Nat) : Int) ∣ 4096 := by
          have := Int.natCast_dvd_natCast.2 hzd
          simpa using this
        exact Int.emod_eq_zero_of_dvd (Int.dvd_trans h1 (Int.dvd_of_emod_eq_zero hd4))
      have hmod : (w + d) % (cellZ (im.pg i) : Nat) = 0 := by
        rw [Int.add_emod, hin.2.2, hdz]
        simp
      rw [if_pos hin, hsh, if_neg (by omega), if_pos ⟨by omega, by omega, hmod⟩, show w + d - (im.base + d + 4096 * (i : Int)) = w - (im.base + 4096 * (i : Int)) by omega]
    · right
      rw [if_neg hin]
theorem move_cells {im : Im} (hw : im.Wf) {o r : Nat} (g : Base4 im o r) {d : Int} (hd : Mv im d) {i : Nat} (hi : i < im.n) (hk : (im.pg i).kd = 4) (h : cellsB im i = true) : cellsB (im.move d) i = true := by
  unfold cellsB at h ⊢
  have ep : (im.move d).pg i = im.pg i := rfl
  rw [ep]
  cases hf : cfol (cellsN (im.pg i).cl) (im.pg i).bit (nxC im i) (cellsN (im.pg i).cl + 1) (im.pg i).fs [] with
  | none => rw [hf] at h; cases h
  | some rr =>
    rw [hf] at h
    rw [cfol_imp (ny := nxC (im.move d) i) (fun c hc hb => move_nx hw g hd hi hk hc hb) _ _ _ _ hf]
    exact h
theorem move_run (im : Im) (d : Int) : ∀ t at_, runF (im.move d) t at_ = runF im t at_
  | 0, _ => rfl
  | t + 1, at_ => by
    rw [runF, runF, move_run im d t (at_ + 1), move_run im d t (at_ + 2 ^ ((im.move d).pg at_).od.toNat)]
    rfl
theorem move_sound {im : Im} (hw : im.Wf) (hs : Sound im) {o r : Nat} (g : Base4 im o r) {d : Int} (hd : Mv im d) (hm : mayB (im.base + d) im.limit im.order = true) : Sound (im.move d) := by
  intro k hk
  match k with
  | 0 => exact R1_none.2 hm
  | 1 =>
    have h := hs 1 (by omega)
    have e : R2 (im.move d) = R2 im := by
      unfold R2
      have e1 : (im.move d).mem.length = im.mem.length := moveM_len _ _ _
      have e2 : (im.move d).heads.length = im.heads.length := by simp [Im.move]
      rw [e1, e2]
      rfl
    exact e.trans h
  | 2 => exact hs 2 (by omega)
  | 3 => exact (move_run im d _ _).trans (hs 3 (by omega))
  | 4 => exact hs 4 (by omega)
  | 5 => exact hs 5 (by omega)
  | 6 => exact hs 6 (by omega)
  | 7 =>
    have h : R8 im = none := hs 7 (by omega)
    show R8 (im.move d) = none
    unfold R8 at h ⊢
    have el : (im.move d).heads.length = im.heads.length := by simp [Im.move]
    rw [scan_none] at h ⊢
    intro i h1 h2
    rw [el] at h2
    have := h i h1 h2
    by_cases e : (freeL im i).folB (im.heads.getD i 0) = true
    · have eh : (im.move d).heads.getD i 0 = sh d (im.heads.getD i 0) := by
        simp only [Im.move, List.getD_eq_getElem?_getD, List.getElem?_map]
        rw [List.getElem?_eq_getElem (by omega)]
        rfl
      rw [eh, if_pos (move_free hw g hd i e)]
    · rw [if_neg e] at this; cases this
  | 8 =>
    have h : R9 im = none := hs 8 (by omega)
    show R9 (im.move d) = none
    unfold R9 at h ⊢
    rw [scan_none] at h ⊢
    intro i h1 h2
    have en : (im.move d).n = im.n := rfl
    have ep : (im.move d).pg i = im.pg i := rfl
    rw [en] at h2
    have := h i h1 h2
    rw [ep]
    refine if_neg ?_
    rintro ⟨hk4, hcb⟩
    have hb : cellsB im i = true := by
      by_cases e : cellsB im i = true
      · exact e
      · rw [if_pos ⟨hk4, by simpa using e⟩] at this; cases this
    rw [move_cells hw g hd (by omega) hk4 hb] at hcb
    cases hcb
  | 9 => exact hs 9 (by omega)
  | 10 => exact hs 10 (by omega)
theorem move_cellBs (im : Im) (d : Int) (i : Nat) : ∀ m, cellBs (im.move d) i m = (cellBs im i m).map (fun b => (b.1 + d, b.2))
  | 0 => rfl
  | m + 1 => by
    rw [cellBs, cellBs, move_cellBs im d i m, List.map_append]
    have ep : (im.move d).pg i = im.pg i := rfl
    have eb : (im.move d).base = im.base + d := rfl
    rw [ep, eb]
    congr 1
    split
    · simp only [List.map_cons, List.map_nil]
      congr 2
      omega
    · rfl
theorem move_blocksTo (im : Im) (d : Int) : ∀ m, blocksTo (im.move d) m = (blocksTo im m).map (fun b => (b.1 + d, b.2))
  | 0 => rfl
  | m + 1 => by
    rw [blocksTo, blocksTo, move_blocksTo im d m, List.map_append]
    congr 1
    have ep : (im.move d).pg m = im.pg m := rfl
    have eb : (im.move d).base = im.base + d := rfl
    unfold pageBs
    rw [ep, eb, move_cellBs]
    split
    · simp only [List.map_cons, List.map_nil]
      congr 2
      omega
    · split
      · rfl
      · rfl
theorem move_blocks (im : Im) (d : Int) : (im.move d).blocks = im.blocks.map (fun b => (b.1 + d, b.2)) := move_blocksTo im d im.n
end Go.Proofs.Ytkgedpcipaogjaa.WB
end
section
namespace Go.Proofs.Ytkgedpcipaogjaa.WB
open Go Go.RowKit Go.Proofs.YtkgedpcipaogjaaW.PrintWords Go.Proofs.YtkgedpcipaogjaaW.PrintLast Go.Proofs.YtkgedpcipaogjaaW.PrintMore
set_option linter.unusedVariables false
set_option linter.unusedSimpArgs false
theorem told_len {im : Im} (hw : im.Wf) : im.told.length ≤ 262144 := by
  unfold Im.told
  by_cases hz : im.check.1 = 0
  · rw [if_pos hz]
    have hs := check_zero hz
    obtain ⟨o, r, hg⟩ := geo_of hw (hs 0 (by decide)) (hs 1 (by decide))
    have h1 := blocksTo_len im im.n
    have h2 := hg.n1024
    unfold Im.blocks
    omega
  · rw [if_neg hz]
    exact Nat.zero_le _
end Go.Proofs.Ytkgedpcipaogjaa.WB
end
section
namespace Go.Proofs.Ytkgedpcipaogjaa.WB
open Go Go.RowKit Go.Proofs.YtkgedpcipaogjaaW.PrintWords Go.Proofs.YtkgedpcipaogjaaW.PrintLast Go.Proofs.YtkgedpcipaogjaaW.PrintMore
set_option linter.unusedVariables false
set_option linter.unusedSimpArgs false
theorem mem_getD {bs : List (Int × Int)} {k : Nat} (hk : k < bs.length) : bs.getD k (0, 0) ∈ bs := by
  rw [List.getD_eq_getElem?_getD, List.getElem?_eq_getElem hk]
  exact List.getElem_mem hk
end Go.Proofs.Ytkgedpcipaogjaa.WB
end
section
namespace Go.Proofs.Ytkgedpcipaogjaa.WB
open Go Go.RowKit Go.Proofs.YtkgedpcipaogjaaW.PrintWords Go.Proofs.YtkgedpcipaogjaaW.PrintLast Go.Proofs.YtkgedpcipaogjaaW.PrintMore
set_option linter.unusedVariables false
set_option linter.unusedSimpArgs false
def rowO (kd : IntKind) (t : TypeId) (L : List Int) : Obj := .cells (L.map (Value.int kd ·)).toArray t (0, 0)
def part (xs : List Int) (k : Nat) : List Int := xs.take k ++ List.replicate (xs.length - k) 0
theorem part_zero (xs : List Int) : part xs 0 = List.replicate xs.length 0 := by simp [part]
theorem part_all (xs : List Int) : part xs xs.length = xs := by simp [part]
theorem part_len (xs : List Int) (k : Nat) (h : k ≤ xs.length) : (part xs k).length = xs.length := by simp [part]; omega
theorem part_set (xs : List Int) (k : Nat) (h : k < xs.length) : (part xs k).set k (xs.getD k 0) = part xs (k + 1) := by
  have e : xs.length - k = (xs.length - (k + 1)) + 1 := by omega
  unfold part
  rw [List.set_append_right _ _ (by simp; omega), e, List.replicate_succ, List.length_take, Nat.min_eq_left (by omega), Nat.sub_self, List.set_cons_zero, List.take_add_one, List.getElem?_eq_getElem h, List.getD_eq_getElem?_getD, List.getElem?_eq_getElem h, List.append_assoc]
  rfl
theorem made_row (kd : IntKind) (t : TypeId) (n : Nat) : Obj.cells (madeCells #[.int kd 0] n) t (0, 0) = rowO kd t (List.replicate n 0) := by
  unfold rowO
  congr 1
  apply Array.toList_inj.1
  rw [toList_madeCells_one]
  simp
theorem rowO_put {w : World} {m : Nat} {kd : IntKind} {t : TypeId} {xs : List Int} {k : Nat} (h : w.heap[m]? = some (rowO kd t (part xs k))) (hk : k < xs.length) : (w.setCell ⟨m, k, none⟩ (.int kd (xs.getD k 0))).heap[m]? = some (rowO kd t (part xs (k + 1))) := by
  rw [← part_set xs k hk]
  unfold rowO at h ⊢
  refine blk_put h k _ ?_
  simp [List.map_set]
theorem rowO_cell {w : World} {m : Nat} {kd : IntKind} {t : TypeId} {L : List Int} (h : w.heap[m]? = some (rowO kd t L)) (k : Nat) (hk : k < L.length) : w.cell? ⟨m, k, none⟩ = some (.int kd (L.getD k 0)) ∧ w.frozen? ⟨m, k, none⟩ = false := by
  unfold rowO at h
  refine ⟨?_, blk_frozen h _⟩
  rw [blk_cell h]
  simp [List.getD_eq_getElem?_getD, List.getElem?_eq_getElem hk]
theorem rowO_row {w : World} {m : Nat} {kd : IntKind} {t : TypeId} {L : List Int} (h : w.heap[m]? = some (rowO kd t L)) : RowI (fun b => b = m) w (some ⟨m, 0, none⟩) kd L := by
  refine fun _ => ⟨_, rfl, rfl, fun i hi => ?_⟩
  have e5 : (⟨m, 0, none⟩ : Addr).add i = ⟨m, i, none⟩ := by unfold Addr.add; split <;> simp_all
  rw [e5]
  exact (rowO_cell h i hi).1
theorem infoI64 : (Try.prog.info? 3).map (fun i => (i.zero, i.size, i.bytes)) = some (some (.int .i64 0), 1, 8) := by kernel_rfl
theorem mk_u8 {n : Nat} (hn : n ≤ 140737488355328) (kl : IntKind) (w : World) : (Instr.makeSlice 25 (.int kl (n : Int)) (.int kl (n : Int))).run Try.prog w = .ok (.slice (some ⟨w.heap.size, 0, none⟩) n n) (w.alloc (rowO .u8 5 (List.replicate n 0))) := by
  obtain ⟨i, hi, h1, h2, h3⟩ := info_parts infoU8
  have := run_make (P := Try.prog) w 25 5 i (.int .u8 0) Try.underlying25 hi h1 kl kl (n : Int) (n : Int) (by omega) (Int.le_refl _) (by rw [h3]; omega) (by omega)
  rw [this, h2, ← made_row]
  simp [Value.cells]
theorem mk_u64 {n : Nat} (hn : n * 8 ≤ 140737488355328) (kl : IntKind) (w : World) : (Instr.makeSlice 28 (.int kl (n : Int)) (.int kl (n : Int))).run Try.prog w = .ok (.slice (some ⟨w.heap.size, 0, none⟩) n n) (w.alloc (rowO .u64 22 (List.replicate n 0))) := by
  obtain ⟨i, hi, h1, h2, h3⟩ := info_parts infoU64
  have := run_make (P := Try.prog) w 28 22 i (.int .u64 0) Try.underlying28 hi h1 kl kl (n : Int) (n : Int) (by omega) (Int.le_refl _) (by rw [h3]; omega) (by omega)
  rw [this, h2, ← made_row]
  simp [Value.cells]
theorem mk_i64 {n : Nat} (hn : n * 8 ≤ 140737488355328) (kl : IntKind) (w : World) : (Instr.makeSlice 29 (.int kl (n : Int)) (.int kl (n : Int))).run Try.prog w = .ok (.slice (some ⟨w.heap.size, 0, none⟩) n n) (w.alloc (rowO .i64 3 (List.replicate n 0))) := by
  obtain ⟨i, hi, h1, h2, h3⟩ := info_parts infoI64
  have := run_make (P := Try.prog) w 29 3 i (.int .i64 0) Try.underlying29 hi h1 kl kl (n : Int) (n : Int) (by omega) (Int.le_refl _) (by rw [h3]; omega) (by omega)
  rw [this, h2, ← made_row]
  simp [Value.cells]
def rowP (t : TypeId) (L : List Pg) : Obj := .cells (pgVals L).toArray t (0, 0)
def partP (xs : List Pg) (k : Nat) : List Pg := xs.take k ++ List.replicate (xs.length - k) pg0
theorem partP_zero (xs : List Pg) : partP xs 0 = List.replicate xs.length pg0 := by simp [partP]
theorem partP_all (xs : List Pg) : partP xs xs.length = xs := by simp [partP]
theorem partP_len (xs : List Pg) (k : Nat) (h : k ≤ xs.length) : (partP xs k).length = xs.length := by simp [partP]; omega
theorem partP_set (xs : List Pg) (k : Nat) (h : k < xs.length) : (partP xs k).set k (xs.getD k pg0) = partP xs (k + 1) := by
  have e : xs.length - k = (xs.length - (k + 1)) + 1 := by omega
  unfold partP
  rw [List.set_append_right _ _ (by simp; omega), e, List.replicate_succ, List.length_take, Nat.min_eq_left (by omega), Nat.sub_self, List.set_cons_zero, List.take_add_one, List.getElem?_eq_getElem h, List.getD_eq_getElem?_getD, List.getElem?_eq_getElem h, List.append_assoc]
  rfl
theorem pgz_get : ∀ (n x : Nat), (pgVals (List.replicate n pg0))[x]? = if x < n * 11 then pg0.cells[x % 11]? else none
  | 0, x => by simp [pgVals]
  | n + 1, x => by
    rw [List.replicate_succ, pgVals]
    by_cases hx : x < 11
    · rw [List.getElem?_append_left (by rw [cells_len]; exact hx), if_pos (by omega), Nat.mod_eq_of_lt hx]
    · rw [List.getElem?_append_right (by rw [cells_len]; omega), cells_len, pgz_get n (x - 11)]
      have e : (x - 11) % 11 = x % 11 := by omega
      rw [e]
      by_cases h2 : x < (n + 1) * 11
      · rw [if_pos h2, if_pos (by omega)]
      · rw [if_neg h2, if_neg (by omega)]
theorem pgz_one : ∀ y : Nat, y < 11 → some ((Value.agg #[.int .i64 0, .int .i64 0, .int .i64 0, .int .i64 0, .int .i64 0, .int .i64 0, .int .i64 0, .int .u64 0, .int .u64 0, .int .u64 0, .int .u64 0]).cells[y]!) = pg0.cells[y]?
  | 0, _ => rfl
  | 1, _ => rfl
  | 2, _ => rfl
  | 3, _ => rfl
  | 4, _ => rfl
  | 5, _ => rfl
  | 6, _ => rfl
  | 7, _ => rfl
  | 8, _ => rfl
  | 9, _ => rfl
  | 10, _ => rfl
  | n + 11, h => absurd h (by omega)
theorem mk_pg {n : Nat} (hn : n * 88 ≤ 140737488355328) (kl : IntKind) (w : World) : (Instr.makeSlice 26 (.int kl (n : Int)) (.int kl (n : Int))).run Try.prog w = .ok (.slice (some ⟨w.heap.size, 0, none⟩) n n) (w.alloc (rowP 39 (List.replicate n pg0))) := by
  obtain ⟨i, hi, h1, h2, h3⟩ := info_parts infoPg
  have := run_make (P := Try.prog) w 26 39 i _ Try.underlying26 hi h1 kl kl (n : Int) (n : Int) (by omega) (Int.le_refl _) (by rw [h3]; omega) (by omega)
  rw [this, h2]
  have e : madeCells (Value.agg #[.int .i64 0, .int .i64 0, .int .i64 0, .int .i64 0, .int .i64 0, .int .i64 0, .int .i64 0, .int .u64 0, .int .u64 0, .int .u64 0, .int .u64 0]).cells ((n : Int).toNat * 11) = (pgVals (List.replicate n pg0)).toArray := by
    apply Array.toList_inj.1
    apply List.ext_getElem?
    intro x
    rw [pgz_get]
    simp only [madeCells, Int.toNat_natCast]
    by_cases hx : x < n * 11
    · rw [if_pos hx]
      have h11 : x % 11 < 11 := Nat.mod_lt _ (by decide)
      simp only [Array.toList_map, List.getElem?_map, Array.toList_range, List.getElem?_range hx, Option.map_some]
      exact pgz_one _ h11
    · rw [if_neg hx]
      simp; omega
  rw [e]
  simp [rowP]
theorem pgVals_at : ∀ (l : List Pg) (i j : Nat), i < l.length → j < 11 → (pgVals l)[i * 11 + j]? = (l.getD i pg0).cells[j]?
  | [], i, j, h, _ => by simp at h
  | p :: l, 0, j, _, hj => by
    rw [pgVals, List.getElem?_append_left (by rw [cells_len]; omega)]
    simp
  | p :: l, i + 1, j, h, hj => by
    rw [pgVals, List.getElem?_append_right (by rw [cells_len]; omega), cells_len, show (i + 1) * 11 + j - 11 = i * 11 + j by omega, pgVals_at l i j (by simpa using h) hj]
    rfl
theorem set_r (p : Pg) (R : List Value) (k j : Nat) (v : Value) : (p.cells ++ R).set ((k + 1) * 11 + j) v = p.cells ++ R.set (k * 11 + j) v := by
  rw [List.set_append_right _ _ (by rw [cells_len]; omega), cells_len, show (k + 1) * 11 + j - 11 = k * 11 + j by omega]
def setPg (R : List Value) (k : Nat) (p : Pg) : List Value := ((((((((((R.set (k * 11 + 0) (.int .i64 p.kd)).set (k * 11 + 1) (.int .i64 p.od)).set (k * 11 + 2) (.int .i64 p.cl)).set (k * 11 + 3) (.int .i64 p.lv)).set (k * 11 + 4) (.int .i64 p.nx)).set (k * 11 + 5) (.int .i64 p.pv)).set (k * 11 + 6) (.int .i64 p.fs)).set (k * 11 + 7) (.int .u64 p.b0)).set (k * 11 + 8) (.int .u64 p.b1)).set (k * 11 + 9) (.int .u64 p.b2)).set (k * 11 + 10) (.int .u64 p.b3)
theorem setPg_eq : ∀ (l : List Pg) (k : Nat) (p : Pg), k < l.length → setPg (pgVals l) k p = pgVals (l.set k p)
  | [], k, p, h => by simp at h
  | q :: l, 0, p, _ => by
    unfold setPg
    rw [List.set_cons_zero, pgVals, pgVals]
    simp [Pg.cells]
  | q :: l, k + 1, p, h => by
    rw [List.set_cons_succ, pgVals, pgVals, ← setPg_eq l k p (by simpa using h)]
    unfold setPg
    simp only [set_r]
theorem rowP_cell {w : World} {m : Nat} {t : TypeId} {L : List Pg} (h : w.heap[m]? = some (rowP t L)) (k : Nat) (hk : k < L.length) (j : Nat) (hj : j < 11) : w.cell? ⟨m, k * 11 + j, none⟩ = (L.getD k pg0).cells[j]? ∧ w.frozen? ⟨m, k * 11 + j, none⟩ = false := by
  unfold rowP at h
  refine ⟨?_, blk_frozen h _⟩
  rw [blk_cell h, List.getElem?_toArray]
  exact pgVals_at L k j hk hj
theorem partP_at (xs : List Pg) (k : Nat) (h : k < xs.length) : (partP xs k).getD k pg0 = pg0 := by
  unfold partP
  rw [List.getD_eq_getElem?_getD, List.getElem?_append_right (by simp; omega), List.length_take, Nat.min_eq_left (by omega), Nat.sub_self, List.getElem?_replicate]
  split <;> rfl
theorem partP_cell {w : World} {m : Nat} {t : TypeId} {xs : List Pg} {k : Nat} (h : w.heap[m]? = some (rowP t (partP xs k))) (hk : k < xs.length) (j : Nat) (hj : j < 11) : w.cell? ⟨m, k * 11 + j, none⟩ = pg0.cells[j]? ∧ w.frozen? ⟨m, k * 11 + j, none⟩ = false := by
  have := rowP_cell h k (by rw [partP_len _ _ (Nat.le_of_lt hk)]; exact hk) j hj
  rwa [partP_at xs k hk] at this
theorem partP_cells {w : World} {m : Nat} {t : TypeId} {xs : List Pg} {k : Nat} (h : w.heap[m]? = some (rowP t (partP xs k))) (hk : k < xs.length) :
    (w.cell? ⟨m, k * 11, none⟩ = some (.int .i64 0) ∧ w.frozen? ⟨m, k * 11, none⟩ = false) ∧ (w.cell? ⟨m, k * 11 + 1, none⟩ = some (.int .i64 0) ∧ w.frozen? ⟨m, k * 11 + 1, none⟩ = false) ∧ (w.cell? ⟨m, k * 11 + 2, none⟩ = some (.int .i64 0) ∧ w.frozen? ⟨m, k * 11 + 2, none⟩ = false) ∧ (w.cell? ⟨m, k * 11 + 3, none⟩ = some (.int .i64 0) ∧ w.frozen? ⟨m, k * 11 + 3, none⟩ = false) ∧ (w.cell? ⟨m, k * 11 + 4, none⟩ = some (.int .i64 0) ∧ w.frozen? ⟨m, k * 11 + 4, none⟩ = false) ∧ (w.cell? ⟨m, k * 11 + 5, none⟩ = some (.int .i64 0) ∧ w.frozen? ⟨m, k * 11 + 5, none⟩ = false) ∧ (w.cell? ⟨m, k * 11 + 6, none⟩ = some (.int .i64 0) ∧ w.frozen? ⟨m, k * 11 + 6, none⟩ = false) ∧ (w.cell? ⟨m, k * 11 + 7, none⟩ = some (.int .u64 0) ∧ w.frozen? ⟨m, k * 11 + 7, none⟩ = false) ∧ (w.cell? ⟨m, k * 11 + 8, none⟩ = some (.int .u64 0) ∧ w.frozen? ⟨m, k * 11 + 8, none⟩ = false) ∧ (w.cell? ⟨m, k * 11 + 9, none⟩ = some (.int .u64 0) ∧ w.frozen? ⟨m, k * 11 + 9, none⟩ = false) ∧ (w.cell? ⟨m, k * 11 + 10, none⟩ = some (.int .u64 0) ∧ w.frozen? ⟨m, k * 11 + 10, none⟩ = false) :=
  ⟨partP_cell h hk 0 (by decide), partP_cell h hk 1 (by decide), partP_cell h hk 2 (by decide), partP_cell h hk 3 (by decide), partP_cell h hk 4 (by decide), partP_cell h hk 5 (by decide), partP_cell h hk 6 (by decide), partP_cell h hk 7 (by decide), partP_cell h hk 8 (by decide), partP_cell h hk 9 (by decide), partP_cell h hk 10 (by decide)⟩
def World.setPg (w : World) (m k : Nat) (p : Pg) : World := ((((((((((w.setCell ⟨m, k * 11, none⟩ (.int .i64 p.kd)).setCell ⟨m, k * 11 + 1, none⟩ (.int .i64 p.od)).setCell ⟨m, k * 11 + 2, none⟩ (.int .i64 p.cl)).setCell ⟨m, k * 11 + 3, none⟩ (.int .i64 p.lv)).setCell ⟨m, k * 11 + 4, none⟩ (.int .i64 p.nx)).setCell ⟨m, k * 11 + 5, none⟩ (.int .i64 p.pv)).setCell ⟨m, k * 11 + 6, none⟩ (.int .i64 p.fs)).setCell ⟨m, k * 11 + 7, none⟩ (.int .u64 p.b0)).setCell ⟨m, k * 11 + 8, none⟩ (.int .u64 p.b1)).setCell ⟨m, k * 11 + 9, none⟩ (.int .u64 p.b2)).setCell ⟨m, k * 11 + 10, none⟩ (.int .u64 p.b3)
theorem put_row {w : World} {m x : Nat} {t : TypeId} {R : List Value} {v : Value} (h : w.heap[m]? = some (.cells R.toArray t (0, 0))) (hx : x < R.length) : (w.setCell ⟨m, x, none⟩ v).heap[m]? = some (.cells (R.set x v).toArray t (0, 0)) :=
  blk_put h x v (by simp)
theorem putP {W w : World} {m k : Nat} {t : TypeId} {xs : List Pg} {p : Pg} (hb : Below m W w) (hs : m < w.heap.size) (h : w.heap[m]? = some (rowP t (partP xs k))) (hk : k < xs.length) (hp : xs.getD k pg0 = p) : Below m W (World.setPg w m k p) ∧ m < (World.setPg w m k p).heap.size ∧ (World.setPg w m k p).heap[m]? = some (rowP t (partP xs (k + 1))) := by
  have hl : (pgVals (partP xs k)).length = xs.length * 11 := by rw [pgVals_len, partP_len _ _ (Nat.le_of_lt hk)]
  have e : pgVals (partP xs (k + 1)) = WB.setPg (pgVals (partP xs k)) k p := by
    rw [setPg_eq _ _ _ (by rw [partP_len _ _ (Nat.le_of_lt hk)]; exact hk), ← hp, partP_set xs k hk]
  unfold rowP at h ⊢
  rw [e]
  refine ⟨?_, ?_, ?_⟩
  · unfold World.setPg
    exact ((((((((((hb.setCell (Nat.le_refl _) _).setCell (Nat.le_refl _) _).setCell (Nat.le_refl _) _).setCell (Nat.le_refl _) _).setCell (Nat.le_refl _) _).setCell (Nat.le_refl _) _).setCell (Nat.le_refl _) _).setCell (Nat.le_refl _) _).setCell (Nat.le_refl _) _).setCell (Nat.le_refl _) _).setCell (Nat.le_refl _) _
  · simpa [World.setPg, World.setCell] using hs
  · unfold World.setPg WB.setPg
    refine put_row (put_row (put_row (put_row (put_row (put_row (put_row (put_row (put_row (put_row (put_row h ?_) ?_) ?_) ?_) ?_) ?_) ?_) ?_) ?_) ?_) ?_ <;> simp only [List.length_set, hl] <;> omega
theorem mem_row {rs : List (List Int)} {k : Nat} (hk : k < rs.length) : rs.getD k [] ∈ rs := by
  rw [List.getD_eq_getElem?_getD, List.getElem?_eq_getElem hk]
  exact List.getElem_mem hk
def prV (x : Nat × List Int) : Value := .slice (some ⟨x.1, 0, none⟩) x.2.length x.2.length
structure PrI (W : World) (rs : List (List Int)) (v : Value) (k : Nat) (L : List (Nat × List Int)) (wi : World) : Prop where
  rows : L.map (·.2) = rs.take k
  len : L.length = k
  below : Below W.heap.size W wi
  own : wi.ownsRow W.heap.size 28 1 v k (L.map prV)
  at_ : ∀ x ∈ L, W.heap.size ≤ x.1 ∧ x.1 < wi.heap.size ∧ v.ownBlock ≠ some x.1 ∧ wi.heap[x.1]? = some (rowO .u64 22 x.2)
theorem PrI.nil (W : World) (rs : List (List Int)) : PrI W rs (.slice none 0 0) 0 [] W := ⟨by simp, rfl, Below.refl _ _, World.ownsRow_nil _ _ _ _, fun x hx => by cases hx⟩
theorem PrI.later {W w w' : World} {rs : List (List Int)} {v : Value} {k : Nat} {L : List (Nat × List Int)} (h : PrI W rs v k L w) (hb : Below w.heap.size w w') : PrI W rs v k L w' :=
  ⟨h.rows, h.len, h.below.trans (hb.mono h.below.size), own_below h.own hb, fun x hx => by obtain ⟨a, b, c, d⟩ := h.at_ x hx; exact ⟨a, Nat.lt_of_lt_of_le b hb.size, c, (hb.block _ b).trans d⟩⟩
theorem PrI.step {W w1 w3 : World} {rs : List (List Int)} {v : Value} {k : Nat} {L : List (Nat × List Int)} {p g cap : Nat} {row : List Int} {o3 : Obj} (h : PrI W rs v k L w1) (hk : k < rs.length) (hrow : rs.getD k [] = row) (hpW : W.heap.size ≤ p) (hp : p < w1.heap.size) (hnp : v.ownBlock ≠ some p) (hx : w1.heap[p]? = some (rowO .u64 22 row))
    (hown : w3.ownsRow W.heap.size 28 1 (.slice (some ⟨g, 0, none⟩) (k + 1) cap) (k + 1) (L.map prV ++ [prV (p, row)])) (hgrow : (w1.alloc o3).grownBy w3 v.ownBlock) (hat : v.ownBlock = some g ∨ g = w1.heap.size + 1) :
    PrI W rs (.slice (some ⟨g, 0, none⟩) (k + 1) cap) (k + 1) (L ++ [(p, row)]) w3 := by
  have hs1 : (w1.alloc o3).heap.size = w1.heap.size + 1 := by simp
  have hs3 := hgrow.size
  have keep : ∀ b, b < w1.heap.size → v.ownBlock ≠ some b → w3.heap[b]? = w1.heap[b]? := fun b hb hne => by
    rw [hgrow.block b (by omega) (fun e => hne e.symm), Below.heap_alloc _ _ _ hb]
  refine ⟨?_, by rw [List.length_append, h.len]; rfl, below_grown (h.below.alloc h.below.size _) hgrow (fun g hg => (own_lt h.own hg).1), ?_, fun x hxm => ?_⟩
  · rw [List.map_append, h.rows, List.take_add_one, List.getElem?_eq_getElem hk]
    rw [List.getD_eq_getElem?_getD, List.getElem?_eq_getElem hk] at hrow
    rw [← hrow]
    rfl
  · rw [List.map_append]
    exact hown
  · have hg : (Value.slice (some ⟨g, 0, none⟩) (k + 1) cap).ownBlock = some g := rfl
    rw [hg]
    rcases List.mem_append.1 hxm with hxl | hxl
    · obtain ⟨a, b, c, d⟩ := h.at_ x hxl
      refine ⟨a, by omega, fun e => ?_, (keep _ b c).trans d⟩
      injection e with e
      rcases hat with hat | hat
      · exact c (by rw [hat, e])
      · omega
    · rw [List.mem_singleton.1 hxl]
      refine ⟨hpW, by omega, fun e => ?_, (keep _ hp hnp).trans hx⟩
      injection e with e
      rcases hat with hat | hat
      · exact hnp (by rw [hat, e])
      · omega
theorem PrI.slice {W wi : World} {rs : List (List Int)} {v : Value} {L : List (Nat × List Int)} (h : PrI W rs v rs.length L wi) :
    ∃ A cap, v = .slice A rs.length cap ∧ rs.length ≤ cap ∧ RowR (fun b => W.heap.size ≤ b ∧ b < wi.heap.size) wi A rs := by
  have hL : L.map (·.2) = rs := by rw [h.rows, List.take_length]
  have hlen := h.len
  rcases h.own.2 with ⟨hv, h0⟩ | ⟨g, cap, cur, hv, hb, hg, hc1, hc2, hc3, hc4⟩
  · exact ⟨none, 0, by rw [hv, h0], by omega, fun hp => by omega⟩
  · refine ⟨some ⟨g, 0, none⟩, cap, hv, hc1, fun _ => ⟨⟨g, 0, none⟩, rfl, ⟨hb, blk_lt hg⟩, fun i hi => ?_⟩⟩
    have hx : (L.map prV)[i]? = some (prV (L[i]'(by omega))) := by rw [List.getElem?_map, List.getElem?_eq_getElem (by omega)]; rfl
    rw [← hc4, List.getElem?_take, if_pos (by omega)] at hx
    have e : (⟨g, 0, none⟩ : Addr).add i = ⟨g, i, none⟩ := by unfold Addr.add; split <;> simp_all
    have hr : (L.map (·.2)).getD i [] = (L[i]'(by omega)).2 := by
      rw [List.getD_eq_getElem?_getD, List.getElem?_map, List.getElem?_eq_getElem (by omega)]
      rfl
    rw [hL] at hr
    obtain ⟨q1, q2, q3, q4⟩ := h.at_ _ (List.getElem_mem (show i < L.length by omega))
    rw [e, hr]
    exact ⟨_, _, Nat.le_refl _, (blk_cell hg _).trans (by simpa [prV] using hx), (rowO_row q4).mono (fun b hb => by rw [hb]; exact ⟨q1, q2⟩)⟩
theorem setIm_row {w : World} {g : Nat} {t : TypeId} {c0 c1 c2 c3 c4 c5 c6 c7 c8 v0 v1 v2 v3 v4 v5 v6 v7 v8 : Value} (h : w.heap[g]? = some (.cells #[c0, c1, c2, c3, c4, c5, c6, c7, c8] t (0, 0))) :
    (((((((((w.setCell ⟨g, 0, none⟩ v0).setCell ⟨g, 1, none⟩ v1).setCell ⟨g, 2, none⟩ v2).setCell ⟨g, 3, none⟩ v3).setCell ⟨g, 4, none⟩ v4).setCell ⟨g, 5, none⟩ v5).setCell ⟨g, 6, none⟩ v6).setCell ⟨g, 7, none⟩ v7).setCell ⟨g, 8, none⟩ v8).heap[g]? = some (.cells #[v0, v1, v2, v3, v4, v5, v6, v7, v8] t (0, 0)) := by
  have h0 : (w.setCell ⟨g, 0, none⟩ v0).heap[g]? = some (.cells #[v0, c1, c2, c3, c4, c5, c6, c7, c8] t (0, 0)) := blk_put h 0 v0 (by rfl)
  have h1 : ((w.setCell ⟨g, 0, none⟩ v0).setCell ⟨g, 1, none⟩ v1).heap[g]? = some (.cells #[v0, v1, c2, c3, c4, c5, c6, c7, c8] t (0, 0)) := blk_put h0 1 v1 (by rfl)
  have h2 : (((w.setCell ⟨g, 0, none⟩ v0).setCell ⟨g, 1, none⟩ v1).setCell ⟨g, 2, none⟩ v2).heap[g]? = some (.cells #[v0, v1, v2, c3, c4, c5, c6, c7, c8] t (0, 0)) := blk_put h1 2 v2 (by rfl)
  have h3 : ((((w.setCell ⟨g, 0, none⟩ v0).setCell ⟨g, 1, none⟩ v1).setCell ⟨g, 2, none⟩ v2).setCell ⟨g, 3, none⟩ v3).heap[g]? = some (.cells #[v0, v1, v2, v3, c4, c5, c6, c7, c8] t (0, 0)) := blk_put h2 3 v3 (by rfl)
  have h4 : (((((w.setCell ⟨g, 0, none⟩ v0).setCell ⟨g, 1, none⟩ v1).setCell ⟨g, 2, none⟩ v2).setCell ⟨g, 3, none⟩ v3).setCell ⟨g, 4, none⟩ v4).heap[g]? = some (.cells #[v0, v1, v2, v3, v4, c5, c6, c7, c8] t (0, 0)) := blk_put h3 4 v4 (by rfl)
  have h5 : ((((((w.setCell ⟨g, 0, none⟩ v0).setCell ⟨g, 1, none⟩ v1).setCell ⟨g, 2, none⟩ v2).setCell ⟨g, 3, none⟩ v3).setCell ⟨g, 4, none⟩ v4).setCell ⟨g, 5, none⟩ v5).heap[g]? = some (.cells #[v0, v1, v2, v3, v4, v5, c6, c7, c8] t (0, 0)) := blk_put h4 5 v5 (by rfl)
  have h6 : (((((((w.setCell ⟨g, 0, none⟩ v0).setCell ⟨g, 1, none⟩ v1).setCell ⟨g, 2, none⟩ v2).setCell ⟨g, 3, none⟩ v3).setCell ⟨g, 4, none⟩ v4).setCell ⟨g, 5, none⟩ v5).setCell ⟨g, 6, none⟩ v6).heap[g]? = some (.cells #[v0, v1, v2, v3, v4, v5, v6, c7, c8] t (0, 0)) := blk_put h5 6 v6 (by rfl)
  have h7 : ((((((((w.setCell ⟨g, 0, none⟩ v0).setCell ⟨g, 1, none⟩ v1).setCell ⟨g, 2, none⟩ v2).setCell ⟨g, 3, none⟩ v3).setCell ⟨g, 4, none⟩ v4).setCell ⟨g, 5, none⟩ v5).setCell ⟨g, 6, none⟩ v6).setCell ⟨g, 7, none⟩ v7).heap[g]? = some (.cells #[v0, v1, v2, v3, v4, v5, v6, v7, c8] t (0, 0)) := blk_put h6 7 v7 (by rfl)
  have h8 : (((((((((w.setCell ⟨g, 0, none⟩ v0).setCell ⟨g, 1, none⟩ v1).setCell ⟨g, 2, none⟩ v2).setCell ⟨g, 3, none⟩ v3).setCell ⟨g, 4, none⟩ v4).setCell ⟨g, 5, none⟩ v5).setCell ⟨g, 6, none⟩ v6).setCell ⟨g, 7, none⟩ v7).setCell ⟨g, 8, none⟩ v8).heap[g]? = some (.cells #[v0, v1, v2, v3, v4, v5, v6, v7, v8] t (0, 0)) := blk_put h7 8 v8 (by rfl)
  exact h8
theorem setIm_else {w : World} {g : Nat} {v0 v1 v2 v3 v4 v5 v6 v7 v8 : Value} : (∀ b, b ≠ g → (((((((((w.setCell ⟨g, 0, none⟩ v0).setCell ⟨g, 1, none⟩ v1).setCell ⟨g, 2, none⟩ v2).setCell ⟨g, 3, none⟩ v3).setCell ⟨g, 4, none⟩ v4).setCell ⟨g, 5, none⟩ v5).setCell ⟨g, 6, none⟩ v6).setCell ⟨g, 7, none⟩ v7).setCell ⟨g, 8, none⟩ v8).heap[b]? = w.heap[b]?) ∧ (((((((((w.setCell ⟨g, 0, none⟩ v0).setCell ⟨g, 1, none⟩ v1).setCell ⟨g, 2, none⟩ v2).setCell ⟨g, 3, none⟩ v3).setCell ⟨g, 4, none⟩ v4).setCell ⟨g, 5, none⟩ v5).setCell ⟨g, 6, none⟩ v6).setCell ⟨g, 7, none⟩ v7).setCell ⟨g, 8, none⟩ v8).heap.size = w.heap.size := by
  refine ⟨fun b hb => ?_, by simp [World.setCell]⟩
  have hh : ∀ (wx : World) (i : Nat) (v : Value), (wx.setCell ⟨g, i, none⟩ v).heap[b]? = wx.heap[b]? := fun wx i v => Below.heap_setCell wx _ _ _ hb
  rw [hh, hh, hh, hh, hh, hh, hh, hh, hh]
theorem setIm_below {n : Nat} {W w : World} {g : Nat} {v0 v1 v2 v3 v4 v5 v6 v7 v8 : Value} (h : Below n W w) (hg : n ≤ g) : Below n W (((((((((w.setCell ⟨g, 0, none⟩ v0).setCell ⟨g, 1, none⟩ v1).setCell ⟨g, 2, none⟩ v2).setCell ⟨g, 3, none⟩ v3).setCell ⟨g, 4, none⟩ v4).setCell ⟨g, 5, none⟩ v5).setCell ⟨g, 6, none⟩ v6).setCell ⟨g, 7, none⟩ v7).setCell ⟨g, 8, none⟩ v8) :=
  ((((((((h.setCell hg _).setCell hg _).setCell hg _).setCell hg _).setCell hg _).setCell hg _).setCell hg _).setCell hg _).setCell hg _
theorem rowP_row {w : World} {m : Nat} {t : TypeId} {L : List Pg} (h : w.heap[m]? = some (rowP t L)) : RowP (fun b => b = m) w (some ⟨m, 0, none⟩) L := by
  refine fun _ => ⟨_, rfl, rfl, fun i hi j v hv => ?_⟩
  have e5 : (⟨m, 0, none⟩ : Addr).add (i * 11 + j) = ⟨m, i * 11 + j, none⟩ := by unfold Addr.add; split <;> simp_all
  have hj : j < 11 := by
    have := (List.getElem?_eq_some_iff.1 hv).1
    rwa [cells_len] at this
  rw [e5, (rowP_cell h i hi j hj).1]
  exact hv
structure Cpy (w w' : World) (im : Im) (s' : Sl) (m1 m4 : Nat) : Prop where
  A : s'.A = some ⟨m1, 0, none⟩
  D : s'.D = some ⟨m4, 0, none⟩
  ne : m1 ≠ m4
  n1 : w.heap.size ≤ m1 ∧ m1 < w'.heap.size
  n4 : w.heap.size ≤ m4 ∧ m4 < w'.heap.size
  mem : w'.heap[m1]? = some (rowO .u8 5 im.mem)
  heads : w'.heap[m4]? = some (rowO .u64 22 im.heads)
  pages : RowP (fun b => w.heap.size ≤ b ∧ b < w'.heap.size ∧ b ≠ m1 ∧ b ≠ m4) w' s'.B im.pages
  pairs : RowR (fun b => w.heap.size ≤ b ∧ b < w'.heap.size ∧ b ≠ m1 ∧ b ≠ m4) w' s'.C im.pairs
  parts : RowI (fun b => w.heap.size ≤ b ∧ b < w'.heap.size ∧ b ≠ m1 ∧ b ≠ m4) w' s'.E .i64 im.parts
  cmem : im.mem.length ≤ s'.a
  cpages : im.pages.length ≤ s'.b
  cpairs : im.pairs.length ≤ s'.c
  cheads : im.heads.length ≤ s'.d
  cparts : im.parts.length ≤ s'.e
  below : Below w.heap.size w w'
theorem Cpy.at_ {w w' : World} {im : Im} {s' : Sl} {m1 m4 : Nat} (h : Cpy w w' im s' m1 m4) (hw : im.Wf) : ImAt (fun b => w.heap.size ≤ b ∧ b < w'.heap.size) w' im s' :=
  ⟨by rw [h.A]; exact (rowO_row h.mem).mono (fun b hb => hb ▸ h.n1), h.pages.mono (fun b hb => ⟨hb.1, hb.2.1⟩), h.pairs.mono (fun b hb => ⟨hb.1, hb.2.1⟩), by rw [h.D]; exact (rowO_row h.heads).mono (fun b hb => hb ▸ h.n4), h.parts.mono (fun b hb => ⟨hb.1, hb.2.1⟩), h.cmem, h.cpages, h.cpairs, h.cheads, h.cparts, hw⟩
theorem cpy_end {w WR W1 W2 W3 W4 W5 W6 : World} {im : Im} {m1 m2 m4 m5 cap : Nat} {Ap : Option Addr} (x1 : W1.heap[m1]? = some (rowO .u8 5 im.mem)) (b2 : Below m2 W1 W2) (x2 : W2.heap[m2]? = some (rowP 39 im.pages)) (b3 : Below W2.heap.size W2 W3) (b4 : Below m4 W3 W4) (x4 : W4.heap[m4]? = some (rowO .u64 22 im.heads)) (b5 : Below m5 W4 W5) (x5 : W5.heap[m5]? = some (rowO .i64 3 im.parts))
    (e1 : WR.heap.size = m1) (hw1 : w.heap.size + 1 < m1) (e2 : W1.heap.size = m2) (e4 : W3.heap.size = m4) (e5 : W4.heap.size = m5) (s1 : m1 < m2) (s2 : m2 < W2.heap.size) (s4 : m4 < m5) (s5 : m5 < W5.heap.size) (hr : RowR (fun b => W2.heap.size ≤ b ∧ b < W3.heap.size) W3 Ap im.pairs) (hc : im.pairs.length ≤ cap)
    (hk : ∀ b, b ≠ w.heap.size + 1 → W6.heap[b]? = W5.heap[b]?) (hs : W6.heap.size = W5.heap.size) (hb : Below w.heap.size w W6) :
    Cpy w W6 im ⟨some ⟨m1, 0, none⟩, im.mem.length, some ⟨m2, 0, none⟩, im.pages.length, Ap, cap, some ⟨m4, 0, none⟩, im.heads.length, some ⟨m5, 0, none⟩, im.parts.length⟩ m1 m4 := by
  have q3 := b3.size
  have k5 : ∀ b, w.heap.size + 1 < b → b < m5 → W6.heap[b]? = W4.heap[b]? := fun b h1 h2 => (hk b (by omega)).trans (b5.block b h2)
  have k4 : ∀ b, w.heap.size + 1 < b → b < m4 → W6.heap[b]? = W3.heap[b]? := fun b h1 h2 => (k5 b h1 (by omega)).trans (b4.block b h2)
  have k3 : ∀ b, w.heap.size + 1 < b → b < W2.heap.size → W6.heap[b]? = W2.heap[b]? := fun b h1 h2 => (k4 b h1 (by omega)).trans (b3.block b h2)
  have k2 : ∀ b, w.heap.size + 1 < b → b < m2 → W6.heap[b]? = W1.heap[b]? := fun b h1 h2 => (k3 b h1 (by omega)).trans (b2.block b h2)
  have y2 := (k3 m2 (by omega) (by omega)).trans x2
  have y5 := (hk m5 (by omega)).trans x5
  exact ⟨rfl, rfl, by omega, ⟨by omega, by omega⟩, ⟨by omega, by omega⟩, (k2 m1 (by omega) (by omega)).trans x1, (k5 m4 (by omega) (by omega)).trans x4, (rowP_row y2).mono (fun b hb => by subst hb; exact ⟨by omega, by omega, by omega, by omega⟩), (hr.keep (fun b hb => k4 b (by omega) (by omega))).mono (fun b hb => ⟨by omega, by omega, by omega, by omega⟩), (rowO_row y5).mono (fun b hb => by subst hb; exact ⟨by omega, by omega, by omega, by omega⟩), Nat.le_refl _, Nat.le_refl _, hc, Nat.le_refl _, Nat.le_refl _, hb⟩
theorem infoImg : (Try.prog.info? 31).map (·.size) = some 9 := by kernel_rfl
theorem infoSU : (Try.prog.info? 28).map (fun i => (i.zero, i.size, i.bytes)) = some (some (.slice none 0 0), 1, 24) := by kernel_rfl
structure Im.Fit (im : Im) : Prop where
  mem : im.mem.length ≤ 140737488355328
  pages : im.pages.length * 88 ≤ 140737488355328
  pairs : im.pairs.length * 24 ≤ 140737488355328
  rows : ∀ l ∈ im.pairs, l.length * 8 ≤ 140737488355328
  heads : im.heads.length * 8 ≤ 140737488355328
  parts : im.parts.length * 8 ≤ 140737488355328
section
variable {F : Nat → Prop} {im : Im} {s : Sl} {w : World}
set_option maxRecDepth 100000 in
set_option maxHeartbeats 4000000 in
theorem Copied_c (h : ImAt F w im s) (hF : ∀ b, F b → b < w.heap.size) (hfit : im.Fit) : Calls Try.prog 19 #[.agg (im.cells s)] w fun e w' => ∃ s' m1 m4, e = .returned (.agg (im.cells s')) ∧ Cpy w w' im s' m1 m4 := by
  obtain ⟨A, a, B, b, C, c, D, d, E, e⟩ := s
  obtain ⟨WA, hWA⟩ : ∃ W, w.alloc (imO im ⟨A, a, B, b, C, c, D, d, E, e⟩) = W := ⟨_, rfl⟩
  obtain ⟨hsa, hbl, hvl⟩ := box_facts h hF hWA
  have HBL := Lib.hid hbl
  have HVL := Lib.hid hvl
  have HFA := Lib.hid (show ∀ b, F b → b < WA.heap.size from fun b hb => by have := hF b hb; omega)
  have HWF := Lib.hid h.wf
  have hl := len_i64 h.wf
  obtain ⟨c0, c1, c2, c3, c4, c5, c6, c7, c8⟩ := (hvl WA (Below.refl _ _)).cell
  dsimp only at c0 c1 c2 c3 c4 c5 c6 c7 c8
  unfold imO Im.cells at hWA
  unfold Im.cells
  clear h hF hvl hbl
  obtain ⟨WR, hWR⟩ : ∃ W, WA.alloc (.cells #[.int .u64 0, .int .i64 0, .int .i64 0, .int .i64 0, .slice none 0 0, .slice none 0 0, .slice none 0 0, .slice none 0 0, .slice none 0 0] 31) = W := ⟨_, rfl⟩
  have HRV := Lib.hid (show WR.heap[WA.heap.size]? = some (.cells #[.int .u64 0, .int .i64 0, .int .i64 0, .int .i64 0, .slice none 0 0, .slice none 0 0, .slice none 0 0, .slice none 0 0, .slice none 0 0] 31 (0, 0)) from by rw [← hWR]; exact blk_new WA _)
  have HBR := Lib.hid (show Below WA.heap.size WA WR from by rw [← hWR]; exact (Below.refl _ _).alloc (Nat.le_refl _) _)
  have HSR := Lib.hid (show WR.heap.size = WA.heap.size + 1 from by rw [← hWR]; show (WA.heap.push _).size = _; rw [Array.size_push])
  have HBA0 := HBR
  have HSA := Lib.hid hsa
  have HFIT := Lib.hid hfit
  clear hl hfit
  obtain ⟨d0, d1, d2, d3, d4, d5, d6, d7, d8⟩ := (HVL.out WR HBA0.out).cell
  dsimp only at d0 d1 d2 d3 d4 d5 d6 d7 d8
  obtain ⟨WM, hWM⟩ : ∃ W, WR.alloc (rowO .u8 5 (List.replicate im.mem.length 0)) = W := ⟨_, rfl⟩
  have HMV := Lib.hid (show WM.heap[WR.heap.size]? = some (rowO .u8 5 (part im.mem 0)) from by rw [← hWM, part_zero]; exact blk_new WR _)
  have HMB := Lib.hid (show Below WR.heap.size WR WM from by rw [← hWM]; exact (Below.refl _ _).alloc (Nat.le_refl _) _)
  have HMS := Lib.hid (show WR.heap.size < WM.heap.size from by rw [← hWM]; show _ < (WR.heap.push _).size; rw [Array.size_push]; omega)
  have HLE := Lib.hid (show WA.heap.size ≤ WR.heap.size from HBA0.out.size)
  have HMK := fun wx : World => mk_u8 HFIT.out.mem .i64 wx
  have hlm : im.mem.length ≤ 9223372036854775807 := by have := HFIT.out.mem; omega
  have HLM := Lib.hid (show im.mem.length ≤ 140737488355328 from by have := HFIT.out.mem; omega)
  go_enter Try.func19, Try.ntmps19
  go_wp2
  clear c0 c1 c2 c3 c4 c5 c6 c7 c8 hWA hWR
  clear d0 d1 d2 d3 d4 d5 d6 d7 d8 hWM HMK
  generalize hm1 : WR.heap.size = m1 at *
  have HM1 := Lib.hid hm1
  clear hm1
  go_loopg [4, 19, 20, 21, 22, 23, 24, 25, 26, 27, 28, 29, 30, 31, 32, 33] im.mem.length (fun g v4 _ _ _ _ _ _ _ _ _ _ _ _ _ _ _ wi => ∃ (k : Nat), v4 = .int .i64 (k : Int) ∧ Aside0 (k + g = im.mem.length) ∧ Aside0 (Below m1 WR wi ∧ m1 < wi.heap.size ∧ wi.heap[m1]? = some (rowO .u8 5 (part im.mem k))))
  case atStart => exact ⟨0, rfl, ⟨by omega⟩, ⟨HMB.out, HMS.out, HMV.out⟩⟩
  case round =>
    obtain ⟨k, rfl, hkg, hbl⟩ := hrel
    have HX := Lib.hid hbl.out
    have HBA := Lib.hid (show Below WA.heap.size WA wr from HBA0.out.trans (hbl.out.1.mono (by have := HLE.out; omega)))
    obtain ⟨c0, c1, c2, c3, c4, c5, c6, c7, c8⟩ := (HVL.out wr HBA.out).cell
    dsimp only at c0 c1 c2 c3 c4 c5 c6 c7 c8
    by_cases hk : k < im.mem.length
    case pos =>
      obtain ⟨t1, t2⟩ := lt_dec hk
      have hkI : (k : Int) < (im.mem.length : Int) := by omega
      obtain ⟨g1, rfl⟩ := lp_pos hkg.out hk
      have HG := Lib.hid (lp_step hkg.out)
      have n1 : wrap64 ((k : Int) + 1) = (k : Int) + 1 := up1 (by have := HLM.out; omega)
      have HK := Lib.hid hk
      obtain ⟨ad, eA, -, hx⟩ := (HVL.out wr HBA.out).im.mem (Nat.lt_of_le_of_lt (Nat.zero_le _) hk)
      dsimp only at eA
      have ck := hx k hk
      obtain ⟨e1, f1⟩ := rowO_cell hbl.out.2.2 k (by rw [part_len _ _ (Nat.le_of_lt hk)]; exact hk)
      clear hkg hbl hx hk
      rw [eA] at c4
      go_wp2
      go_roundg g1
      case measure => omega
      case rel => exact ⟨k + 1, by simp; try exact n1, ⟨HG.out⟩, ⟨HX.out.1.setCell (Nat.le_refl _) _, by simpa [World.setCell] using HX.out.2.1, rowO_put HX.out.2.2 HK.out⟩⟩
    obtain ⟨t1, t2⟩ := nlt_dec hk
    have hkn : k = im.mem.length := by have := hkg.out; omega
    subst hkn
    have HX1 := Lib.hid (show wr.heap[m1]? = some (rowO .u8 5 (im.mem)) from by have := HX.out.2.2; rwa [part_all] at this)
    have HB1 := Lib.hid HX.out.1
    have HS1 := Lib.hid HX.out.2.1
    have HBA1 := Lib.hid HBA.out
    clear hk hkg hbl HX HBA HMV HMB HMS HLE hlm HLM
    generalize wr = W1 at *
    obtain ⟨d0, d1, d2, d3, d4, d5, d6, d7, d8⟩ := (HVL.out W1 HBA1.out).cell
    dsimp only at d0 d1 d2 d3 d4 d5 d6 d7 d8
    obtain ⟨WM, hWM⟩ : ∃ W, W1.alloc (rowP 39 (List.replicate im.pages.length pg0)) = W := ⟨_, rfl⟩
    have HMV := Lib.hid (show WM.heap[W1.heap.size]? = some (rowP 39 (partP im.pages 0)) from by rw [← hWM, partP_zero]; exact blk_new W1 _)
    have HMB := Lib.hid (show Below W1.heap.size W1 WM from by rw [← hWM]; exact (Below.refl _ _).alloc (Nat.le_refl _) _)
    have HMS := Lib.hid (show W1.heap.size < WM.heap.size from by rw [← hWM]; show _ < (W1.heap.push _).size; rw [Array.size_push]; omega)
    have HLE := Lib.hid (show WA.heap.size ≤ W1.heap.size from HBA1.out.size)
    have HMK := fun wx : World => mk_pg HFIT.out.pages .i64 wx
    have hlm : im.pages.length ≤ 9223372036854775807 := by have := HFIT.out.pages; omega
    have HLM := Lib.hid (show im.pages.length ≤ 140737488355328 from by have := HFIT.out.pages; omega)
    go_wp2
    clear c0 c1 c2 c3 c4 c5 c6 c7 c8
    clear d0 d1 d2 d3 d4 d5 d6 d7 d8 hWM HMK
    generalize hm2 : W1.heap.size = m2 at *
    have HM2 := Lib.hid hm2
    clear hm2
    go_loopg [6, 38, 39, 40, 41, 42, 43, 44, 45, 46, 47, 48, 49, 50, 51, 52] im.pages.length (fun g v4 _ _ _ _ _ _ _ _ _ _ _ _ _ _ _ wi => ∃ (k : Nat), v4 = .int .i64 (k : Int) ∧ Aside0 (k + g = im.pages.length) ∧ Aside0 (Below m2 W1 wi ∧ m2 < wi.heap.size ∧ wi.heap[m2]? = some (rowP 39 (partP im.pages k))))
    case atStart => exact ⟨0, rfl, ⟨by omega⟩, ⟨HMB.out, HMS.out, HMV.out⟩⟩
    case round =>
      obtain ⟨k, rfl, hkg, hbl⟩ := hrel
      have HX := Lib.hid hbl.out
      have HBA := Lib.hid (show Below WA.heap.size WA wr from HBA1.out.trans (hbl.out.1.mono (by have := HLE.out; omega)))
      obtain ⟨c0, c1, c2, c3, c4, c5, c6, c7, c8⟩ := (HVL.out wr HBA.out).cell
      dsimp only at c0 c1 c2 c3 c4 c5 c6 c7 c8
      by_cases hk : k < im.pages.length
      case pos =>
        obtain ⟨t1, t2⟩ := lt_dec hk
        have hkI : (k : Int) < (im.pages.length : Int) := by omega
        obtain ⟨g1, rfl⟩ := lp_pos hkg.out hk
        have HG := Lib.hid (lp_step hkg.out)
        have n1 : wrap64 ((k : Int) + 1) = (k : Int) + 1 := up1 (by have := HLM.out; omega)
        have HK := Lib.hid hk
        obtain ⟨ad, eA, -, hx⟩ := (HVL.out wr HBA.out).im.pages (Nat.lt_of_le_of_lt (Nat.zero_le _) hk)
        dsimp only at eA
        obtain ⟨p0, p1, p2, p3, p4, p5, p6, p7, p8, p9, p10⟩ := rowP_page (show RowP F wr (some ad) im.pages from by have := (HVL.out wr HBA.out).im.pages; dsimp only at this; rwa [eA] at this) k hk
        obtain ⟨⟨q0, z0⟩, ⟨q1, z1⟩, ⟨q2, z2⟩, ⟨q3, z3⟩, ⟨q4, z4⟩, ⟨q5, z5⟩, ⟨q6, z6⟩, ⟨q7, z7⟩, ⟨q8, z8⟩, ⟨q9, z9⟩, ⟨q10, z10⟩⟩ := partP_cells hbl.out.2.2 hk
        obtain ⟨pg, hpg⟩ : ∃ p, im.pages.getD k pg0 = p := ⟨_, rfl⟩
        have HPG := Lib.hid hpg
        rw [hpg] at p0 p1 p2 p3 p4 p5 p6 p7 p8 p9 p10
        clear hkg hbl hx hk hpg
        rw [eA] at c5
        go_upto_region 10 with (fail)
        go_wp2
        go_roundg g1
        case measure => omega
        case rel => exact ⟨k + 1, by simp; try exact n1, ⟨HG.out⟩, ⟨putP HX.out.1 HX.out.2.1 HX.out.2.2 HK.out HPG.out⟩⟩
      obtain ⟨t1, t2⟩ := nlt_dec hk
      have hkn : k = im.pages.length := by have := hkg.out; omega
      subst hkn
      have HX2 := Lib.hid (show wr.heap[m2]? = some (rowP 39 (im.pages)) from by have := HX.out.2.2; rwa [partP_all] at this)
      have HB2 := Lib.hid HX.out.1
      have HS2 := Lib.hid HX.out.2.1
      have HBA2 := Lib.hid HBA.out
      clear hk hkg hbl HX HBA HMV HMB HMS HLE hlm HLM
      generalize wr = W2 at *
      clear c0 c1 c2 c3 c4 c5 c6 c7 c8
      obtain ⟨c0, c1, c2, c3, c4, c5, c6, c7, c8⟩ := (HVL.out W2 HBA2.out).cell
      dsimp only at c0 c1 c2 c3 c4 c5 c6 c7 c8
      have hlp : im.pairs.length ≤ 9223372036854775807 := by have := HFIT.out.pairs; omega
      go_wp2
      clear c0 c1 c2 c3 c4 c5 c6 c7 c8
      have HP0 := Lib.hid (PrI.nil W2 im.pairs)
      go_loopg [7, 8, 9, 10, 53, 54, 55, 56, 57, 58, 59, 60, 61, 62, 63, 64, 65, 66, 67, 68, 69, 70, 71, 72, 73, 74, 75, 76, 77, 78, 79, 80, 81, 82, 83, 84, 85, 86, 87] im.pairs.length (fun g v7 v8 _ _ _ _ _ _ _ _ _ _ _ _ _ _ _ _ _ _ _ _ _ _ _ _ _ _ _ _ _ _ _ _ _ _ _ _ _ wi => ∃ (k : Nat) (L : List (Nat × List Int)), v8 = .int .i64 (k : Int) ∧ Aside0 (k + g = im.pairs.length) ∧ Aside0 (PrI W2 im.pairs v7 k L wi))
      case atStart => exact ⟨0, [], rfl, ⟨by omega⟩, ⟨HP0.out⟩⟩
      case round =>
        obtain ⟨k, L, rfl, hkg, hbl⟩ := hrel
        have HX := Lib.hid hbl.out
        have HBA := Lib.hid (show Below WA.heap.size WA wr from HBA2.out.trans (hbl.out.below.mono HBA2.out.size))
        obtain ⟨c0, c1, c2, c3, c4, c5, c6, c7, c8⟩ := (HVL.out wr HBA.out).cell
        dsimp only at c0 c1 c2 c3 c4 c5 c6 c7 c8
        by_cases hk : k < im.pairs.length
        case pos =>
          obtain ⟨t1, t2⟩ := lt_dec hk
          have hkI : (k : Int) < (im.pairs.length : Int) := by omega
          obtain ⟨g1, rfl⟩ := lp_pos hkg.out hk
          have HG := Lib.hid (lp_step hkg.out)
          have HK := Lib.hid hk
          have n1 : wrap64 ((k : Int) + 1) = (k : Int) + 1 := up1 (by have := HFIT.out.pairs; omega)
          obtain ⟨ad, eA, -, hrows⟩ := (HVL.out wr HBA.out).im.pairs (Nat.lt_of_le_of_lt (Nat.zero_le _) hk)
          dsimp only at eA
          obtain ⟨B', cB, hcB, hcell, hrowi⟩ := hrows k hk
          have hlm := HFIT.out.rows _ (mem_row hk)
          obtain ⟨l, hl⟩ : ∃ l, im.pairs.getD k [] = l := ⟨_, rfl⟩
          have HL := Lib.hid hl
          rw [hl] at hcB hcell hrowi hlm
          have HLM := Lib.hid hlm
          have hll : l.length ≤ 9223372036854775807 := by omega
          have HMK := fun wx : World => mk_u64 hlm .i64 wx
          obtain ⟨WM, hWM⟩ : ∃ W, wr.alloc (rowO .u64 22 (List.replicate l.length 0)) = W := ⟨_, rfl⟩
          have HMV := Lib.hid (show WM.heap[wr.heap.size]? = some (rowO .u64 22 (part l 0)) from by rw [← hWM, part_zero]; exact blk_new wr _)
          have HMB := Lib.hid (show Below wr.heap.size wr WM from by rw [← hWM]; exact (Below.refl _ _).alloc (Nat.le_refl _) _)
          have HMS := Lib.hid (show wr.heap.size < WM.heap.size from by rw [← hWM]; show _ < (wr.heap.push _).size; rw [Array.size_push]; omega)
          have HLE := Lib.hid (show WA.heap.size ≤ wr.heap.size from HBA.out.size)
          have HLE2 := Lib.hid (show W2.heap.size ≤ wr.heap.size from hbl.out.below.size)
          have HOWN := Lib.hid (show ∀ x, u7.ownBlock = some x → x < wr.heap.size from fun x hx => (own_lt hbl.out.own hx).2)
          rw [eA] at c6
          clear hkg hbl hrows hcB hrowi hk hl hlm
          go_wp2
          clear c0 c1 c2 c3 c4 c5 c6 c7 c8 hWM HMK hcell
          clear eA
          generalize wr = W3 at *
          generalize hm3 : W3.heap.size = m3 at *
          have HM3 := Lib.hid hm3
          clear hm3
          go_loopg [10, 67, 68, 69, 70, 71, 72, 73, 74, 75, 76, 77, 78, 79, 80, 81, 82, 83] l.length (fun g v10 _ _ _ _ _ _ _ _ _ _ _ _ _ _ _ _ _ wi => ∃ (k : Nat), v10 = .int .i64 (k : Int) ∧ Aside0 (k + g = l.length) ∧ Aside0 (Below m3 W3 wi ∧ m3 < wi.heap.size ∧ wi.heap[m3]? = some (rowO .u64 22 (part l k))))
          case atStart => exact ⟨0, rfl, ⟨by omega⟩, ⟨HMB.out, HMS.out, HMV.out⟩⟩
          case round =>
            obtain ⟨j, rfl, hjg, hjl⟩ := hrel
            have HX3 := Lib.hid hjl.out
            have HBA3 := Lib.hid (show Below WA.heap.size WA wr from HBA.out.trans (hjl.out.1.mono HLE.out))
            obtain ⟨c0, c1, c2, c3, c4, c5, c6, c7, c8⟩ := (HVL.out wr HBA3.out).cell
            dsimp only at c0 c1 c2 c3 c4 c5 c6 c7 c8
            by_cases hj : j < l.length
            case pos =>
              obtain ⟨x1, x2⟩ := lt_dec hj
              have hjI : (j : Int) < (l.length : Int) := by omega
              obtain ⟨g2, rfl⟩ := lp_pos hjg.out hj
              have HGJ := Lib.hid (lp_step hjg.out)
              have HJ := Lib.hid hj
              have j1 : wrap64 ((j : Int) + 1) = (j : Int) + 1 := up1 (by have := HLM.out; omega)
              obtain ⟨ad, eA, -, hrows⟩ := (HVL.out wr HBA3.out).im.pairs (Nat.lt_of_le_of_lt (Nat.zero_le _) HK.out)
              dsimp only at eA
              obtain ⟨B', cB, hcB, hcell, hrowi⟩ := hrows k HK.out
              rw [HL.out] at hcB hcell hrowi
              obtain ⟨ad2, eB, -, hx2⟩ := hrowi (Nat.lt_of_le_of_lt (Nat.zero_le _) hj)
              subst eB
              have ck := hx2 j hj
              obtain ⟨e1, f1⟩ := rowO_cell hjl.out.2.2 j (by rw [part_len _ _ (Nat.le_of_lt hj)]; exact hj)
              rw [eA] at c6
              clear hjg hjl hrows hcB hrowi hj hx2
              go_wp2
              go_roundg g2
              case measure => omega
              case rel => exact ⟨j + 1, by simp; try exact j1, ⟨HGJ.out⟩, ⟨HX3.out.1.setCell (Nat.le_refl _) _, by simpa [World.setCell] using HX3.out.2.1, rowO_put HX3.out.2.2 HJ.out⟩⟩
            obtain ⟨x1, x2⟩ := nlt_dec hj
            have hjn : j = l.length := by have := hjg.out; omega
            subst hjn
            have HXR := Lib.hid (show wr.heap[m3]? = some (rowO .u64 22 l) from by have := HX3.out.2.2; rwa [part_all] at this)
            have HPR := Lib.hid (show PrI W2 im.pairs u7 k L wr from HX.out.later (HM3.out ▸ HX3.out.1))
            have HOW := Lib.hid HPR.out.own
            obtain ⟨i0, hi0, hz0, hz1, hz2⟩ := info_parts infoSU
            have HI0 := Lib.hid hi0
            have HML := Lib.hid (show k + 1 ≤ maxLen by have := HK.out; have := HFIT.out.pairs; unfold maxLen; omega)
            have HBY := Lib.hid (show (k + 1) * 24 ≤ 140737488355328 by have := HK.out; have := HFIT.out.pairs; omega)
            have HSZ := Lib.hid (show W2.heap.size ≤ wr.heap.size from HPR.out.below.size)
            clear hj hjg hjl hi0
            go_wp2_with (at_builtin; refine wpList_append_lies _ (by rfl) _ _ _ (by rfl) W2.heap.size 28 i0 _ 1 24 Try.underlying27 HI0.out hz0 hz1 hz2 rfl (by omega) _ k (L.map prV) (by rfl) (HOW.out.alloc _) ⟨wr.heap.size, 0, none⟩ 1 1 [prV (m3, l)] (by rfl) (by rfl) (World.news_of_block (cs := #[prV (m3, l)]) (t := 28) (fr := (0, 0)) (heap_alloc_new wr _)) (by simp [Value.oneCell', prV]) (by omega) HML.out HBY.out (by have := HSZ.out; simp; omega) (wr.heap.size + 1) (by simp) ?_; intro g cap w3 hown3 hgrow3 hat3 hlt3; have HOWN3 := Lib.hid hown3; have HGROW3 := Lib.hid hgrow3; have HAT3 := Lib.hid hat3; clear hown3 hgrow3 hat3 hlt3)
            go_roundg g1
            case measure => omega
            case rel => exact ⟨k + 1, L ++ [(m3, l)], by simp; try exact n1, ⟨HG.out⟩, ⟨PrI.step HPR.out HK.out HL.out HLE2.out HX3.out.2.1 (fun e => by have := HOWN.out _ e; omega) HXR.out HOWN3.out HGROW3.out HAT3.out⟩⟩
        obtain ⟨t1, t2⟩ := nlt_dec hk
        have hkn : k = im.pairs.length := by have := hkg.out; omega
        subst hkn
        have HP3 := Lib.hid HX.out
        have HBA3 := Lib.hid HBA.out
        clear hk hkg hbl HX HBA hlp
        generalize wr = W3 at *
        obtain ⟨d0, d1, d2, d3, d4, d5, d6, d7, d8⟩ := (HVL.out W3 HBA3.out).cell
        dsimp only at d0 d1 d2 d3 d4 d5 d6 d7 d8
        obtain ⟨WM, hWM⟩ : ∃ W, W3.alloc (rowO .u64 22 (List.replicate im.heads.length 0)) = W := ⟨_, rfl⟩
        have HMV := Lib.hid (show WM.heap[W3.heap.size]? = some (rowO .u64 22 (part im.heads 0)) from by rw [← hWM, part_zero]; exact blk_new W3 _)
        have HMB := Lib.hid (show Below W3.heap.size W3 WM from by rw [← hWM]; exact (Below.refl _ _).alloc (Nat.le_refl _) _)
        have HMS := Lib.hid (show W3.heap.size < WM.heap.size from by rw [← hWM]; show _ < (W3.heap.push _).size; rw [Array.size_push]; omega)
        have HLE := Lib.hid (show WA.heap.size ≤ W3.heap.size from HBA3.out.size)
        have HMK := fun wx : World => mk_u64 HFIT.out.heads .i64 wx
        have hlm : im.heads.length ≤ 9223372036854775807 := by have := HFIT.out.heads; omega
        have HLM := Lib.hid (show im.heads.length ≤ 140737488355328 from by have := HFIT.out.heads; omega)
        go_wp2
        clear c0 c1 c2 c3 c4 c5 c6 c7 c8
        clear d0 d1 d2 d3 d4 d5 d6 d7 d8 hWM HMK
        generalize hm4 : W3.heap.size = m4 at *
        have HM4 := Lib.hid hm4
        clear hm4
        go_loopg [12, 92, 93, 94, 95, 96, 97, 98, 99, 100, 101, 102, 103, 104, 105, 106] im.heads.length (fun g v4 _ _ _ _ _ _ _ _ _ _ _ _ _ _ _ wi => ∃ (k : Nat), v4 = .int .i64 (k : Int) ∧ Aside0 (k + g = im.heads.length) ∧ Aside0 (Below m4 W3 wi ∧ m4 < wi.heap.size ∧ wi.heap[m4]? = some (rowO .u64 22 (part im.heads k))))
        case atStart => exact ⟨0, rfl, ⟨by omega⟩, ⟨HMB.out, HMS.out, HMV.out⟩⟩
        case round =>
          obtain ⟨k, rfl, hkg, hbl⟩ := hrel
          have HX := Lib.hid hbl.out
          have HBA := Lib.hid (show Below WA.heap.size WA wr from HBA3.out.trans (hbl.out.1.mono (by have := HLE.out; omega)))
          obtain ⟨c0, c1, c2, c3, c4, c5, c6, c7, c8⟩ := (HVL.out wr HBA.out).cell
          dsimp only at c0 c1 c2 c3 c4 c5 c6 c7 c8
          by_cases hk : k < im.heads.length
          case pos =>
            obtain ⟨t1, t2⟩ := lt_dec hk
            have hkI : (k : Int) < (im.heads.length : Int) := by omega
            obtain ⟨g1, rfl⟩ := lp_pos hkg.out hk
            have HG := Lib.hid (lp_step hkg.out)
            have n1 : wrap64 ((k : Int) + 1) = (k : Int) + 1 := up1 (by have := HLM.out; omega)
            have HK := Lib.hid hk
            obtain ⟨ad, eA, -, hx⟩ := (HVL.out wr HBA.out).im.heads (Nat.lt_of_le_of_lt (Nat.zero_le _) hk)
            dsimp only at eA
            have ck := hx k hk
            obtain ⟨e1, f1⟩ := rowO_cell hbl.out.2.2 k (by rw [part_len _ _ (Nat.le_of_lt hk)]; exact hk)
            clear hkg hbl hx hk
            rw [eA] at c7
            go_wp2
            go_roundg g1
            case measure => omega
            case rel => exact ⟨k + 1, by simp; try exact n1, ⟨HG.out⟩, ⟨HX.out.1.setCell (Nat.le_refl _) _, by simpa [World.setCell] using HX.out.2.1, rowO_put HX.out.2.2 HK.out⟩⟩
          obtain ⟨t1, t2⟩ := nlt_dec hk
          have hkn : k = im.heads.length := by have := hkg.out; omega
          subst hkn
          have HX4 := Lib.hid (show wr.heap[m4]? = some (rowO .u64 22 (im.heads)) from by have := HX.out.2.2; rwa [part_all] at this)
          have HB4 := Lib.hid HX.out.1
          have HS4 := Lib.hid HX.out.2.1
          have HBA4 := Lib.hid HBA.out
          clear hk hkg hbl HX HBA HMV HMB HMS HLE hlm HLM
          generalize wr = W4 at *
          obtain ⟨d0, d1, d2, d3, d4, d5, d6, d7, d8⟩ := (HVL.out W4 HBA4.out).cell
          dsimp only at d0 d1 d2 d3 d4 d5 d6 d7 d8
          obtain ⟨WM, hWM⟩ : ∃ W, W4.alloc (rowO .i64 3 (List.replicate im.parts.length 0)) = W := ⟨_, rfl⟩
          have HMV := Lib.hid (show WM.heap[W4.heap.size]? = some (rowO .i64 3 (part im.parts 0)) from by rw [← hWM, part_zero]; exact blk_new W4 _)
          have HMB := Lib.hid (show Below W4.heap.size W4 WM from by rw [← hWM]; exact (Below.refl _ _).alloc (Nat.le_refl _) _)
          have HMS := Lib.hid (show W4.heap.size < WM.heap.size from by rw [← hWM]; show _ < (W4.heap.push _).size; rw [Array.size_push]; omega)
          have HLE := Lib.hid (show WA.heap.size ≤ W4.heap.size from HBA4.out.size)
          have HMK := fun wx : World => mk_i64 HFIT.out.parts .i64 wx
          have hlm : im.parts.length ≤ 9223372036854775807 := by have := HFIT.out.parts; omega
          have HLM := Lib.hid (show im.parts.length ≤ 140737488355328 from by have := HFIT.out.parts; omega)
          go_wp2
          clear c0 c1 c2 c3 c4 c5 c6 c7 c8
          clear d0 d1 d2 d3 d4 d5 d6 d7 d8 hWM HMK
          generalize hm5 : W4.heap.size = m5 at *
          have HM5 := Lib.hid hm5
          clear hm5
          go_loopg [14, 111, 112, 113, 114, 115, 116, 117, 118, 119, 120, 121, 122, 123, 124, 125] im.parts.length (fun g v4 _ _ _ _ _ _ _ _ _ _ _ _ _ _ _ wi => ∃ (k : Nat), v4 = .int .i64 (k : Int) ∧ Aside0 (k + g = im.parts.length) ∧ Aside0 (Below m5 W4 wi ∧ m5 < wi.heap.size ∧ wi.heap[m5]? = some (rowO .i64 3 (part im.parts k))))
          case atStart => exact ⟨0, rfl, ⟨by omega⟩, ⟨HMB.out, HMS.out, HMV.out⟩⟩
          case round =>
            obtain ⟨k, rfl, hkg, hbl⟩ := hrel
            have HX := Lib.hid hbl.out
            have HBA := Lib.hid (show Below WA.heap.size WA wr from HBA4.out.trans (hbl.out.1.mono (by have := HLE.out; omega)))
            obtain ⟨c0, c1, c2, c3, c4, c5, c6, c7, c8⟩ := (HVL.out wr HBA.out).cell
            dsimp only at c0 c1 c2 c3 c4 c5 c6 c7 c8
            by_cases hk : k < im.parts.length
            case pos =>
              obtain ⟨t1, t2⟩ := lt_dec hk
              have hkI : (k : Int) < (im.parts.length : Int) := by omega
              obtain ⟨g1, rfl⟩ := lp_pos hkg.out hk
              have HG := Lib.hid (lp_step hkg.out)
              have n1 : wrap64 ((k : Int) + 1) = (k : Int) + 1 := up1 (by have := HLM.out; omega)
              have HK := Lib.hid hk
              obtain ⟨ad, eA, -, hx⟩ := (HVL.out wr HBA.out).im.parts (Nat.lt_of_le_of_lt (Nat.zero_le _) hk)
              dsimp only at eA
              have ck := hx k hk
              obtain ⟨e1, f1⟩ := rowO_cell hbl.out.2.2 k (by rw [part_len _ _ (Nat.le_of_lt hk)]; exact hk)
              clear hkg hbl hx hk
              rw [eA] at c8
              go_wp2
              go_roundg g1
              case measure => omega
              case rel => exact ⟨k + 1, by simp; try exact n1, ⟨HG.out⟩, ⟨HX.out.1.setCell (Nat.le_refl _) _, by simpa [World.setCell] using HX.out.2.1, rowO_put HX.out.2.2 HK.out⟩⟩
            obtain ⟨t1, t2⟩ := nlt_dec hk
            have hkn : k = im.parts.length := by have := hkg.out; omega
            subst hkn
            have HX5 := Lib.hid (show wr.heap[m5]? = some (rowO .i64 3 (im.parts)) from by have := HX.out.2.2; rwa [part_all] at this)
            have HB5 := Lib.hid HX.out.1
            have HS5 := Lib.hid HX.out.2.1
            have HBA5 := Lib.hid HBA.out
            clear hk hkg hbl HX HBA HMV HMB HMS HLE hlm HLM
            generalize wr = W5 at *
            obtain ⟨Ap, cap, hv7, hcap, hrr⟩ := HP3.out.slice
            subst hv7
            have HCAP := Lib.hid hcap
            have HRR := Lib.hid hrr
            have HCH := Lib.hid (show Below m1 WR W5 from by
              have s1 := HB1.out.size; have s2 := HB2.out.size; have s3 := HP3.out.below.size; have s4 := HB4.out.size
              have q1 := HM1.out; have q2 := HM2.out; have q4 := HM4.out; have q5 := HM5.out
              exact HB1.out.trans ((HB2.out.mono (by omega)).trans ((HP3.out.below.mono (by omega)).trans ((HB4.out.mono (by omega)).trans (HB5.out.mono (by omega))))))
            have hrv : W5.heap[w.heap.size + 1]? = some (.cells #[.int .u64 0, .int .i64 0, .int .i64 0, .int .i64 0, .slice none 0 0, .slice none 0 0, .slice none 0 0, .slice none 0 0, .slice none 0 0] 31 (0, 0)) := by
              have q1 := HM1.out; have q2 := HSR.out; have q3 := HSA.out
              rw [HCH.out.block _ (by omega), ← HSA.out]
              exact HRV.out
            have r0 := blk_cell hrv 0
            have r1 := blk_cell hrv 1
            have r2 := blk_cell hrv 2
            have r3 := blk_cell hrv 3
            have r4 := blk_cell hrv 4
            have r5 := blk_cell hrv 5
            have r6 := blk_cell hrv 6
            have r7 := blk_cell hrv 7
            have r8 := blk_cell hrv 8
            simp at r0 r1 r2 r3 r4 r5 r6 r7 r8
            have y0 := blk_frozen hrv 0
            have y1 := blk_frozen hrv 1
            have y2 := blk_frozen hrv 2
            have y3 := blk_frozen hrv 3
            have y4 := blk_frozen hrv 4
            have y5 := blk_frozen hrv 5
            have y6 := blk_frozen hrv 6
            have y7 := blk_frozen hrv 7
            have y8 := blk_frozen hrv 8
            have HRVB := Lib.hid hrv
            clear hrv hcap hrr
            go_wp2
            refine bodyPost_ret (results_cell_row (by rfl) _ _ (w.heap.size + 1) 31 _ (0, 0) _ (by rfl) (setIm_row HRVB.out) Try.underlying31 rfl infoImg) rfl ?_
            refine ⟨_, m1, m4, rfl, cpy_end HX1.out HB2.out HX2.out HP3.out.below HB4.out HX4.out HB5.out HX5.out HM1.out (by have q1 := HM1.out; have q2 := HSR.out; have q3 := HSA.out; omega) HM2.out HM4.out HM5.out HS1.out HS2.out HS4.out HS5.out HRR.out HCAP.out setIm_else.1 setIm_else.2 (setIm_below (HBL.out _ HBA5.out) (Nat.le_succ _))⟩
end
end Go.Proofs.Ytkgedpcipaogjaa.WB
end
section
namespace Go.Proofs.Ytkgedpcipaogjaa.WB
open Go Go.RowKit Go.Proofs.YtkgedpcipaogjaaW.PrintWords Go.Proofs.YtkgedpcipaogjaaW.PrintLast Go.Proofs.YtkgedpcipaogjaaW.PrintMore
set_option linter.unusedVariables false
set_option linter.unusedSimpArgs false
theorem fb_all {res : Nat → Option Int} : ∀ (d k : Nat), (∀ j, k ≤ j → j < k + d → res j = none) → firstBad res d k = (0, 0)
  | 0, _, _ => rfl
  | d + 1, k, h => by
    rw [firstBad, h k (Nat.le_refl _) (by omega)]
    exact fb_all d (k + 1) (fun j h1 h2 => h j (by omega) (by omega))
theorem check_sound {im : Im} (h : Sound im) : im.check = (0, 0) := fb_all 11 0 (fun j _ hj => h j (by omega))
theorem geo_fit {im : Im} {o r : Nat} (g : Geo im o r) (hw : im.Wf) : im.Fit := by
  have h1 := g.n1024
  have h2 := g.mem
  have h3 := g.n
  have h4 := g.o8
  unfold Im.n at h1 h3
  refine ⟨by omega, by omega, by rw [g.pairs]; omega, fun l hl => ?_, by rw [g.heads]; omega, by rw [g.parts]; omega⟩
  obtain ⟨k, hk, rfl⟩ := List.getElem_of_mem hl
  have hr := g.rows k (by rw [← g.pairs]; exact hk)
  unfold Im.row Im.np at hr
  rw [List.getD_eq_getElem?_getD, List.getElem?_eq_getElem hk] at hr
  have hd : im.n / 2 ^ (k + 1) ≤ im.n := Nat.div_le_self _ _
  have h5 : (im.pairs[k]).length ≤ 1024 := by
    have e : (im.pairs[k]).length = (im.n / 2 ^ (k + 1) + 63) / 64 := hr
    rw [e]
    unfold Im.n at hd ⊢
    generalize im.pages.length / 2 ^ (k + 1) = y at *
    omega
  omega
end Go.Proofs.Ytkgedpcipaogjaa.WB
end
section
namespace Go.Proofs.Ytkgedpcipaogjaa.WB
open Go Go.RowKit Go.Proofs.YtkgedpcipaogjaaW.PrintWords Go.Proofs.YtkgedpcipaogjaaW.PrintLast Go.Proofs.YtkgedpcipaogjaaW.PrintMore Go.Proofs.Ytkgedpcipaogjaa.Mem
set_option linter.unusedVariables false
set_option linter.unusedSimpArgs false
theorem or_low {x b : Int} (hx : 0 ≤ x) (hx2 : x * 256 < 18446744073709551616) (hb : 0 ≤ b ∧ b < 256) : Go.bits .or .u64 (x * 256) b = x * 256 + b := by
  obtain ⟨n, rfl⟩ := Int.eq_ofNat_of_zero_le hx
  obtain ⟨m, rfl⟩ := Int.eq_ofNat_of_zero_le hb.1
  have hm : m < 2 ^ 8 := by omega
  have e1 : (n : Int) * 256 = ((n * 2 ^ 8 : Nat) : Int) := by simp
  rw [e1, Go.u64_or_nat _ _ (by omega) (by omega), ← Nat.shiftLeft_eq, ← Nat.shiftLeft_add_eq_or_of_lt hm]
  simp
theorem dsum_or {mem : List Int} (h : ∀ x ∈ mem, 0 ≤ x ∧ x < 256) (off : Nat) {d : Nat} (hd : d < 8) : IntKind.u64.wrap (dsum mem off d * 256) = dsum mem off d * 256 ∧ Go.bits .or .u64 (dsum mem off d * 256) (mem.getD (off + (7 - d)) 0) = dsum mem off (d + 1) := by
  have h0 := dsum_bd h off d
  have h1 := dsum_bd h off (d + 1)
  have hp : (256 : Int) ^ (d + 1) ≤ 18446744073709551616 := by
    have : (256 : Nat) ^ (d + 1) ≤ 256 ^ 8 := Nat.pow_le_pow_right (by decide) (by omega)
    have e : ((256 ^ (d + 1) : Nat) : Int) ≤ ((256 ^ 8 : Nat) : Int) := Int.ofNat_le.2 this
    simpa using e
  have hb := byte_bd h (off + (7 - d))
  have e : dsum mem off (d + 1) = dsum mem off d * 256 + mem.getD (off + (7 - d)) 0 := rfl
  rw [e] at h1
  exact ⟨wrap_u64_in (by omega) (by omega), by rw [e]; exact or_low h0.1 (by omega) hb⟩
theorem u8_byte {v : Int} (k : Nat) : IntKind.u8.wrap (v / 2 ^ (8 * k)) = v / 256 ^ k % 256 := by
  have e : (2 : Int) ^ (8 * k) = 256 ^ k := by rw [Int.pow_mul]; rfl
  rw [e]
  simp [IntKind.wrap, IntKind.bits, IntKind.signed]
def hdP (d : Int) (xs : List Int) (k : Nat) : List Int := (xs.take k).map (sh d) ++ xs.drop k
theorem hdP_zero (d : Int) (xs : List Int) : hdP d xs 0 = xs := by simp [hdP]
theorem hdP_all (d : Int) (xs : List Int) : hdP d xs xs.length = xs.map (sh d) := by simp [hdP]
theorem hdP_len (d : Int) (xs : List Int) (k : Nat) : (hdP d xs k).length = xs.length := by simp [hdP]; omega
theorem hdP_at {d : Int} {xs : List Int} {k : Nat} (h : k < xs.length) : (hdP d xs k).getD k 0 = xs.getD k 0 := by
  unfold hdP
  rw [List.getD_eq_getElem?_getD, List.getElem?_append_right (by simp; omega), List.getElem?_drop, List.length_map, List.length_take, Nat.min_eq_left (by omega), Nat.sub_self, Nat.add_zero, ← List.getD_eq_getElem?_getD]
theorem hdP_set {d : Int} {xs : List Int} {k : Nat} (h : k < xs.length) : (hdP d xs k).set k (sh d (xs.getD k 0)) = hdP d xs (k + 1) := by
  unfold hdP
  rw [List.set_append_right _ _ (by simp; omega), List.length_map, List.length_take, Nat.min_eq_left (by omega), Nat.sub_self, List.drop_eq_getElem_cons h, List.set_cons_zero, List.take_add_one, List.getElem?_eq_getElem h, List.getD_eq_getElem?_getD, List.getElem?_eq_getElem h, List.map_append, List.append_assoc]
  rfl
theorem hdP_skip {d : Int} {xs : List Int} {k : Nat} (h : k < xs.length) (h0 : xs.getD k 0 = 0) : hdP d xs k = hdP d xs (k + 1) := by
  rw [← hdP_set h]
  have e : sh d (xs.getD k 0) = (hdP d xs k).getD k 0 := by rw [hdP_at h, h0]; unfold sh; rw [if_pos rfl]
  rw [e]
  refine List.ext_getElem? (fun i => ?_)
  by_cases hi : i = k
  · subst hi
    rw [List.getElem?_set_self (by rw [hdP_len]; exact h), List.getD_eq_getElem?_getD]
    rw [List.getElem?_eq_getElem (by rw [hdP_len]; exact h)]
    rfl
  · rw [List.getElem?_set_ne (by omega)]
theorem rowO_upd {w : World} {m : Nat} {kd : IntKind} {t : TypeId} {L : List Int} (h : w.heap[m]? = some (rowO kd t L)) (k : Nat) (x : Int) : (w.setCell ⟨m, k, none⟩ (.int kd x)).heap[m]? = some (rowO kd t (L.set k x)) := by
  unfold rowO at h ⊢
  refine blk_put h k _ ?_
  simp [List.map_set]
structure Wr (m : Nat) (o : Obj) (w w' : World) : Prop where
  upd : Upd (fun k => k = m) w w'
  size : w'.heap.size = w.heap.size
  at_ : w'.heap[m]? = some o
theorem Wr.refl {m : Nat} {o : Obj} {w : World} (h : w.heap[m]? = some o) : Wr m o w w := ⟨Upd.refl _ _, rfl, h⟩
theorem Wr.put {m : Nat} {kd : IntKind} {t : TypeId} {L : List Int} {w w' : World} (h : Wr m (rowO kd t L) w w') (k : Nat) (x : Int) : Wr m (rowO kd t (L.set k x)) w (w'.setCell ⟨m, k, none⟩ (.int kd x)) :=
  ⟨⟨h.upd.os, h.upd.tape, h.upd.output, by simpa [World.setCell] using h.upd.size, fun j hj hn => (Below.heap_setCell w' _ _ _ hn).trans (h.upd.block j hj hn)⟩, by simpa [World.setCell] using h.size, rowO_upd h.at_ k x⟩
set_option maxRecDepth 100000 in
set_option maxHeartbeats 4000000 in
theorem shift_c {w : World} {m cap : Nat} {M : List Int} (h : w.heap[m]? = some (rowO .u8 5 M)) (hM : ∀ x ∈ M, 0 ≤ x ∧ x < 256) (hl : M.length ≤ 140737488355328) (off : Nat) (ho : off + 8 ≤ M.length) {d : Int} (hd : U64 d) :
    Calls Try.prog 23 #[.slice (some ⟨m, 0, none⟩) M.length cap, .int .i64 (off : Int), .int .u64 d] w fun e w' => e = .returned (.tuple #[]) ∧ Wr m (rowO .u8 5 (shiftM M off d)) w w' := by
  have HM := Lib.hid hM
  have HO := Lib.hid ho
  have HL := Lib.hid hl
  have HH := Lib.hid h
  have HD := Lib.hid hd
  clear h hM ho hl hd
  go_enter Try.func23, Try.ntmps23
  go_wp2
  go_loopg [6, 7] 8 (fun g v u wi => ∃ (k : Nat) (ji : Int), v = .int .u64 (dsum M off k) ∧ u = .int .i64 ji ∧ Aside0 (ji = 7 - (k : Int)) ∧ Aside0 (k + g = 8) ∧ wi = w)
  case atStart => exact ⟨0, 7, rfl, rfl, ⟨rfl⟩, ⟨rfl⟩, rfl⟩
  case round =>
    obtain ⟨k, ji, rfl, rfl, hji, hkg, rfl⟩ := hrel
    by_cases hk : k < 8
    case pos =>
      obtain ⟨g1, rfl⟩ : ∃ g1, gk = g1 + 1 := ⟨gk - 1, by have := hkg.out; omega⟩
      have HG := Lib.hid (show k + 1 + g1 = 8 by have := hkg.out; omega)
      obtain ⟨j, hj⟩ : ∃ j, 7 - k = j := ⟨_, rfl⟩
      obtain rfl : ji = (j : Int) := by have := hji.out; omega
      have t1 : decide ((0 : Int) ≤ (j : Int)) = true := decide_eq_true (by omega)
      obtain ⟨q, hq⟩ : ∃ q, off + j = q := ⟨_, rfl⟩
      have hqM : q < M.length := by have := HO.out; omega
      have hqI : (q : Int) < (M.length : Int) := by omega
      have e1 : wrap64 ((off : Int) + (j : Int)) = (q : Int) := by have := HL.out; unfold wrap64; omega
      have e2 : wrap64 ((j : Int) - 1) = (j : Int) - 1 := by unfold wrap64; omega
      obtain ⟨ck, fk⟩ := rowO_cell HH.out q hqM
      obtain ⟨n1, n2⟩ := dsum_or HM.out off hk
      rw [hj, hq] at n2
      have hb := byte_bd HM.out q
      generalize M.getD q 0 = b at *
      have n3 : IntKind.u64.wrap b = b := wrap_u64_in hb.1 (by omega)
      have HJ := Lib.hid hj
      have E2 := Lib.hid e2
      obtain ⟨x, hx⟩ : ∃ x, dsum M off k = x := ⟨_, rfl⟩
      obtain ⟨y, hy⟩ : ∃ y, dsum M off (k + 1) = y := ⟨_, rfl⟩
      rw [hx] at n1 n2 ⊢
      rw [hy] at n2
      have HY := Lib.hid hy
      clear hkg hji hk hj hq hb hx hy
      go_wp2
      go_roundg g1
      case measure => omega
      case rel => exact ⟨k + 1, (j : Int) - 1, by rw [HY.out], by rw [E2.out], ⟨by have := HJ.out; have := HG.out; omega⟩, ⟨HG.out⟩, rfl⟩
    have HK8 := Lib.hid (show k = 8 by have := hkg.out; omega)
    obtain rfl : ji = -1 := by have := hji.out; have := HK8.out; omega
    obtain ⟨v, hv⟩ : ∃ v, dsum M off k = v := ⟨_, rfl⟩
    have HV := Lib.hid (show wordM M off = v from by rw [← hv, HK8.out, dsum_8])
    have HU := Lib.hid (show U64 v from HV.out ▸ wordM_bd HM.out off)
    rw [hv]
    clear hk hkg hv hji
    by_cases hz : v = 0
    case pos =>
      subst hz
      go_wp2
      refine bodyPost_ret (results_none rfl _ _ _) rfl ?_
      refine ⟨rfl, ?_⟩
      unfold shiftM
      rw [if_pos HV.out]
      exact Wr.refl HH.out
    have t2 : (v == 0) = false := by simpa using hz
    obtain ⟨x, hx⟩ : ∃ x, (wordM M off + d) % 18446744073709551616 = x := ⟨_, rfl⟩
    have e3 : IntKind.u64.wrap (v + d) = x := by rw [wrap_u64, ← hx, HV.out]
    have HX := Lib.hid hx
    have HX0 := Lib.hid (show 0 ≤ x by omega)
    have HZ := Lib.hid (show ¬ wordM M off = 0 by rw [HV.out]; exact hz)
    clear hz hx
    have HN := Lib.hid (wordM_bd HM.out off)
    go_upto_region 7 with (fail)
    clear e3 t2
    go_wp2
    go_loopg [8] 8 (fun g v wi => ∃ k : Nat, v = .int .i64 (k : Int) ∧ Aside0 (k + g = 8) ∧ Aside0 (Wr m (rowO .u8 5 (putB M off x k)) wr wi))
    case atStart => exact ⟨0, rfl, ⟨rfl⟩, ⟨Wr.refl HH.out⟩⟩
    case round =>
      obtain ⟨k, rfl, hkg, hw⟩ := hrel
      by_cases hk : k < 8
      case pos =>
        obtain ⟨g1, rfl⟩ : ∃ g1, gk = g1 + 1 := ⟨gk - 1, by have := hkg.out; omega⟩
        have HG := Lib.hid (show k + 1 + g1 = 8 by have := hkg.out; omega)
        have t3 : decide ((k : Int) < 8) = true := decide_eq_true (by omega)
        obtain ⟨q, hq⟩ : ∃ q, off + k = q := ⟨_, rfl⟩
        have hqM : q < M.length := by have := HO.out; omega
        have hqI : (q : Int) < (M.length : Int) := by omega
        have e1 : wrap64 ((off : Int) + (k : Int)) = (q : Int) := by have := HL.out; unfold wrap64; omega
        have e2 : wrap64 ((k : Int) + 1) = (k : Int) + 1 := by unfold wrap64; omega
        have e3 : wrap64 (8 * (k : Int)) = ((8 * k : Nat) : Int) := by unfold wrap64; omega
        have e5 : min (8 * k) 64 = 8 * k := Nat.min_eq_left (by omega)
        have E4 := Lib.hid (show x / 2 ^ (8 * k) % 256 = x / 256 ^ k % 256 from by have := u8_byte (v := x) k; simpa [IntKind.wrap, IntKind.bits, IntKind.signed] using this)
        obtain ⟨ck, fk⟩ := rowO_cell hw.out.at_ q (by rw [putB_len]; exact hqM)
        have HWK := Lib.hid hw.out
        have HQ := Lib.hid hq
        clear hkg hk hq hw
        go_wp2
        go_roundg g1
        case measure => omega
        case rel => exact ⟨k + 1, by simp; try exact e2, ⟨HG.out⟩, ⟨by rw [putB, HQ.out, ← E4.out]; exact HWK.out.put q _⟩⟩
      have HK8 := Lib.hid (show k = 8 by have := hkg.out; omega)
      have HWK := Lib.hid hw.out
      have t3 : decide ((k : Int) < 8) = false := decide_eq_false (by omega)
      clear hk hkg hw
      go_wp2
      refine bodyPost_end (results_none rfl _ _ _) rfl ?_
      refine ⟨rfl, ?_⟩
      unfold shiftM
      rw [if_neg HZ.out, HX.out, ← HK8.out]
      exact HWK.out
end Go.Proofs.Ytkgedpcipaogjaa.WB
end
