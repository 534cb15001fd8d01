/- The laws' arguments, opened: lists of blocks; Asked; Laid. -/
import Derived.Test.YtihfblnjgaalcaaXLists
import Derived.WalkKit
import Derived.ProofKit
import Derived.OpenShut
import Derived.SizedLaws
import Derived.Lib.SmallJoins
import Derived.Deep.Slices
import Derived.Deep.Strs
namespace Go.Proofs.Ytihfblnjgaalcaa.OX
open Go Go.RowKit Go.ChangeShapes Go.WideShapes Go.ChangeAt Go.Joins Go.Proofs.YtihfblnjgaalcaaW.PrintWords Go.Proofs.YtihfblnjgaalcaaW.PrintLast Go.Proofs.YtihfblnjgaalcaaW.PrintMore Go.Proofs.Ytihfblnjgaalcaa.R
set_option linter.unusedVariables false
set_option linter.unusedSimpArgs false
theorem cellsU : Try.prog.cellsOf 22 = 1 := by kernel_rfl
theorem cellsI : Try.prog.cellsOf 3 = 1 := by kernel_rfl
theorem cellsBlock : Try.prog.cellsOf 49 = 2 := by kernel_rfl
theorem cellsConfig : Try.prog.cellsOf 24 = 3 := by kernel_rfl
theorem cellsBlocks : Try.prog.cellsOf 25 = 1 := by kernel_rfl
theorem bytesBlock : Try.prog.bytesOf 49 = 16 := by kernel_rfl
set_option maxRecDepth 100000 in
theorem blocks_open {H : Type} {enc : TypeId × Value → H} {W : World} {base : Nat} {spare : Nat → Bool} {held : Bool} {fuel len cap : Nat} {a : Option Addr} {x : DataW H × List MemPlace}
  (hf : DataW.trod enc Try.prog W base spare held fuel 25 [.slice a len cap] = some x) :
  len ≤ cap ∧ (∃ L : List S49, L.length = len ∧ Kd.C k49 W a len L ∧ Wd49 L) ∧ ((∀ n ∈ x.1.weights Try.prog 25, n ≤ reachBytes) → len ≤ 8796093021952) := by
 rcases Go.Deep.open_slice Try.underlying25 hf with ⟨hcs, _⟩ | ⟨ad, l, c, m, n, D, Pl, hcs, hb, hl, hm, hmm, hx0, hx⟩
 ·simp at hcs
  obtain ⟨rfl, rfl, rfl⟩ := hcs
  exact ⟨Nat.le_refl _, ⟨[], rfl, ⟨rfl, by omega, fun h => absurd h (by omega)⟩, fun b hb => by cases hb⟩, fun _ => by omega⟩
 ·simp at hcs
  obtain ⟨rfl, rfl, rfl⟩ := hcs
  have key : ∀ i, ∃ b : S49, i < len → ((0 ≤ b.f0 ∧ b.f0 < 18446744073709551616) ∧ (0 ≤ b.f1 ∧ b.f1 < 18446744073709551616)) ∧ W.cell? (ad.add (i * 2)) = some (.int .u64 b.f0) ∧ W.cell? (ad.add (i * 2 + 1)) = some (.int .u64 b.f1) := by
   intro i
   by_cases hi : i < len
   ·have hkm : i < m := by rw [hmm]; split <;> omega
    obtain ⟨cs', h1, h2⟩ := hx i hkm
    rw [cellsBlock] at h1
    obtain ⟨_, hlen, hcell⟩ := World.cells?_some h1
    obtain ⟨y0, y1, q, -, -, t0, t1⟩ := trod_struct2 Try.underlying49 h2
    match cs', hlen with
    | [v0, v1], _ =>
     rw [show Try.prog.cellsOf 22 = 1 from cellsU] at t0 t1
     obtain ⟨n0, e0, -, w0⟩ := DataW.trod_int Try.underlying22 t0
     obtain ⟨n1, e1, -, w1⟩ := DataW.trod_int Try.underlying22 t1
     simp at e0 e1
     subst e0 e1
     have c0 := hcell 0 (by omega)
     have c1 := hcell 1 (by omega)
     have b0 := bounds_u64 w0
     have b1 := bounds_u64 w1
     refine ⟨⟨n0, n1⟩, fun _ => ⟨⟨⟨b0.1, Int.lt_of_le_of_lt b0.2 (by decide)⟩, ⟨b1.1, Int.lt_of_le_of_lt b1.2 (by decide)⟩⟩, ?_, ?_⟩⟩
     ·rw [Addr.add_zero'] at c0; exact c0
     ·have e : (ad.add (i * 2)).add 1 = ad.add (i * 2 + 1) := Addr.add_add _ _ _
      rw [e] at c1; exact c1
   ·exact ⟨⟨0, 0⟩, fun h => absurd h hi⟩
  obtain ⟨B, hB⟩ := Classical.axiomOfChoice key
  have hmx : len ≤ 9223372036854775807 := Nat.le_trans (Nat.le_trans hl hm) (by decide)
  refine ⟨hl, ⟨(List.range len).map B, by simp, ⟨by simp, hmx, fun h0 => ⟨ad, rfl, fun j p hp => ?_⟩⟩, ?_⟩, ?_⟩
  ·have hj : j < len := by
    have := (List.getElem?_eq_some_iff.1 hp).1
    simpa using this
   have hp2 : p = B j := by
    rw [List.getElem?_map, List.getElem?_range hj] at hp
    simpa using hp.symm
   subst hp2
   obtain ⟨-, c0, c1⟩ := hB j hj
   refine ⟨[.int .u64 (B j).f0, .int .u64 (B j).f1], rfl, k49_mk W (B j), fun i u hu => ?_⟩
   match i, hu with
   | 0, hu => simp at hu; subst hu; exact c0
   | 1, hu => simp at hu; subst hu; exact c1
   | i + 2, hu => simp at hu
  ·intro b hb
   obtain ⟨i, hi, rfl⟩ := List.mem_map.1 hb
   exact (hB i (List.mem_range.1 hi)).1
  ·intro hw
   rw [hx0] at hw
   have := hw _ (by simp only [DataW.weights, Try.underlying25]; exact List.mem_cons_self ..)
   rw [List.length_map, List.length_range, show Try.prog.bytesOf 49 = 16 from bytesBlock] at this
   have hR : reachBytes = 140737488351232 := rfl
   omega
theorem bytesU : Try.prog.bytesOf 22 = 8 := by kernel_rfl
set_option maxRecDepth 100000 in
theorem words_open {H : Type} {enc : TypeId × Value → H} {W : World} {base : Nat} {spare : Nat → Bool} {held : Bool} {fuel len cap : Nat} {a : Option Addr} {x : DataW H × List MemPlace}
  (hf : DataW.trod enc Try.prog W base spare held fuel 35 [.slice a len cap] = some x) :
  len ≤ cap ∧ (∃ L : List Int, L.length = len ∧ Kd.C (Kd.int .u64) W a len L ∧ ∀ x ∈ L, 0 ≤ x ∧ x < 18446744073709551616) ∧ ((∀ n ∈ x.1.weights Try.prog 35, n ≤ reachBytes) → len ≤ 17592186043904) := by
 rcases Go.Deep.open_slice1 Try.underlying35 cellsU hf with ⟨hcs, _⟩ | ⟨ad, l, c, m, n, V, D, Pl, hcs, hb, hl, hm, hmm, hx0, hx⟩
 ·simp at hcs
  obtain ⟨rfl, rfl, rfl⟩ := hcs
  exact ⟨Nat.le_refl _, ⟨[], rfl, ⟨rfl, by omega, fun h => absurd h (by omega)⟩, fun b hb => by cases hb⟩, fun _ => by omega⟩
 ·simp at hcs
  obtain ⟨rfl, rfl, rfl⟩ := hcs
  have key : ∀ i, ∃ b : Int, i < len → (0 ≤ b ∧ b < 18446744073709551616) ∧ W.cell? (ad.add i) = some (.int .u64 b) := by
   intro i
   by_cases hi : i < len
   ·have hkm : i < m := by rw [hmm]; split <;> omega
    obtain ⟨h1, h2⟩ := hx i hkm
    obtain ⟨n0, e0, -, w0⟩ := DataW.trod_int Try.underlying22 h2
    simp at e0
    rw [e0] at h1
    have b0 := bounds_u64 w0
    exact ⟨n0, fun _ => ⟨⟨b0.1, by omega⟩, h1⟩⟩
   ·exact ⟨0, fun h => absurd h hi⟩
  obtain ⟨B, hB⟩ := Classical.axiomOfChoice key
  have hmx : len ≤ 9223372036854775807 := Nat.le_trans (Nat.le_trans hl hm) (by decide)
  refine ⟨hl, ⟨(List.range len).map B, by simp, ⟨by simp, hmx, fun h0 => ⟨ad, rfl, fun j p hp => ?_⟩⟩, ?_⟩, ?_⟩
  ·have hj : j < len := by
    have := (List.getElem?_eq_some_iff.1 hp).1
    simpa using this
   have hp2 : p = B j := by
    rw [List.getElem?_map, List.getElem?_range hj] at hp
    simpa using hp.symm
   subst hp2
   refine ⟨[.int .u64 (B j)], rfl, rfl, fun i u hu => ?_⟩
   match i, hu with
   | 0, hu =>
    simp at hu; subst hu
    rw [show j * (Kd.int .u64).sz + 0 = j from by show j * 1 + 0 = j; omega]
    exact (hB j hj).2
   | i + 1, hu => simp at hu
  ·intro b hb
   obtain ⟨i, hi, rfl⟩ := List.mem_map.1 hb
   exact (hB i (List.mem_range.1 hi)).1
  ·intro hw
   rw [hx0] at hw
   have := hw _ (by simp only [DataW.weights, Try.underlying35]; exact List.mem_cons_self ..)
   rw [List.length_map, List.length_range, show Try.prog.bytesOf 22 = 8 from bytesU] at this
   have hR : reachBytes = 140737488351232 := rfl
   omega
theorem sized_at {H : Type} {ts : List TypeId} {ds : List (DataW H)} (h : (DataW.weightsEach Try.prog ts ds).all (· ≤ reachBytes) = true) {j : Nat} {t : TypeId} {d : DataW H} (ht : ts[j]? = some t) (hd : ds[j]? = some d) : ∀ n ∈ d.weights Try.prog t, n ≤ reachBytes := by
 intro n hn
 have := List.all_eq_true.1 h _ (DataW.weights_mem_each ht hd n hn)
 simpa using this
end Go.Proofs.Ytihfblnjgaalcaa.OX
