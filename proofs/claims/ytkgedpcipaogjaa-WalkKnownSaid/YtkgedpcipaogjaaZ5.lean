/- Part 5 of what the rows of this seat rest on: words of the print that they need; how images, spaces, sets lie in memory; the functions walked. -/
import Derived.Deep.RegionLaw
import Derived.Deep.DeepCutAuto
import Derived.Deep.Quiet
import Derived.Deep.QuietTactic
import Derived.Test.YtkgedpcipaogjaaZ2
import Derived.Test.YtkgedpcipaogjaaZ3
import Derived.Test.YtkgedpcipaogjaaZ4
section
namespace Go.Proofs.Ytkgedpcipaogjaa.WB
open Go Go.RowKit Go.Proofs.YtkgedpcipaogjaaW.PrintWords Go.Proofs.YtkgedpcipaogjaaW.PrintLast Go.Proofs.YtkgedpcipaogjaaW.PrintMore Go.Proofs.Ytkgedpcipaogjaa.PWalkChecks Go.Proofs.Ytkgedpcipaogjaa.Mem
set_option linter.unusedVariables false
set_option linter.unusedSimpArgs false
def rowBlks (g : Nat) (v : Value) (ps : List Nat) : List Nat := g :: (v.ownBlock.toList ++ ps)
structure AppOut (wi w1 w4 : World) (g j g2 cap : Nat) (lv : Value) (ps : List Nat) (p : Nat) (t : TypeId) : Prop where
  os : w4.os = wi.os
  tape : w4.tape = wi.tape
  output : w4.output = wi.output
  size : w1.heap.size ≤ w4.heap.size
  old : ∀ k, k < wi.heap.size → k ≠ g → some k ≠ lv.ownBlock → w4.heap[k]? = wi.heap[k]?
  new : ∀ k, wi.heap.size ≤ k → k < w1.heap.size → w4.heap[k]? = w1.heap[k]?
  own : w4.ownsRow 0 t 1 (.slice (some ⟨g2, 0, none⟩) (ps.length + 1) cap) (ps ++ [p]).length ((ps ++ [p]).map ptrV)
  at_ : ∀ (cs cs' : Array Value) (ty : TypeId), wi.heap[g]? = some (.cells cs ty (0, 0)) → cs.setIfInBounds j (.slice (some ⟨g2, 0, none⟩) (ps.length + 1) cap) = cs' → w4.heap[g]? = some (.cells cs' ty (0, 0))
  nodup : (rowBlks g (.slice (some ⟨g2, 0, none⟩) (ps.length + 1) cap) (ps ++ [p])).Nodup
  blk : lv.ownBlock = some g2 ∨ w1.heap.size < g2
  lt : g2 < w4.heap.size
theorem app_out {wi w1 w3 : World} {g j g2 cap n : Nat} {lv : Value} {ps : List Nat} {p : Nat} {t : TypeId} {o3 : Obj} (hn : ps.length = n) (hnd : (rowBlks g lv ps).Nodup) (hlt : ∀ k ∈ rowBlks g lv ps, k < wi.heap.size) (hu : Upd No wi w1) (hp : wi.heap.size ≤ p) (hp1 : p < w1.heap.size)
    (hown : w3.ownsRow 0 t 1 (.slice (some ⟨g2, 0, none⟩) (n + 1) cap) (n + 1) (ps.map ptrV ++ [ptrV p])) (hgrow : (w1.alloc o3).grownBy w3 lv.ownBlock) (hat : lv.ownBlock = some g2 ∨ g2 = w1.heap.size + 1) :
    AppOut wi w1 (w3.setCell ⟨g, j, none⟩ (.slice (some ⟨g2, 0, none⟩) (n + 1) cap)) g j g2 cap lv ps p t := by
  subst hn
  have hgs := hgrow.size
  have hus := hu.size
  simp only [World.size_alloc] at hgs
  have hnd' := hnd
  unfold rowBlks at hnd hlt
  obtain ⟨hn1, hn2⟩ := List.nodup_cons.1 hnd
  obtain ⟨hn3, hn4, hn5⟩ := List.nodup_append.1 hn2
  have hgb : g < wi.heap.size := hlt g (by simp)
  have hpsl : ∀ q ∈ ps, q < wi.heap.size := fun q hq => hlt q (by simp [hq])
  have hol : ∀ k, some k = lv.ownBlock → k < wi.heap.size := fun k hk => hlt k (by simp [← hk])
  have hsz : (w3.setCell ⟨g, j, none⟩ (.slice (some ⟨g2, 0, none⟩) (ps.length + 1) cap)).heap.size = w3.heap.size := by simp [World.setCell]
  have hg2ne : g ≠ g2 ∧ g2 ∉ ps ∧ g2 ≠ p := by
    rcases hat with hat | hat
    · have hm : g2 ∈ lv.ownBlock.toList := by simp [hat]
      refine ⟨fun e => hn1 (by rw [e]; exact List.mem_append_left _ hm), fun hq => hn5 g2 hm g2 hq rfl, ?_⟩
      have := hol g2 hat.symm; omega
    · refine ⟨by omega, fun hq => ?_, by omega⟩
      have := hpsl g2 hq; omega
  have far : ∀ k, k ≠ g → (w3.setCell ⟨g, j, none⟩ (.slice (some ⟨g2, 0, none⟩) (ps.length + 1) cap)).heap[k]? = w3.heap[k]? := fun k hk => Below.heap_setCell w3 _ _ _ hk
  have keep : ∀ k, k < wi.heap.size → some k ≠ lv.ownBlock → w3.heap[k]? = wi.heap[k]? := fun k hk hne => by
    rw [hgrow.block k (by simp; omega) hne, Below.heap_alloc _ _ _ (by omega)]
    exact hu.block k hk (fun h => h.elim)
  have hgne : some g ≠ lv.ownBlock := fun e => hn1 (by rw [← e]; simp)
  have hlt3 : g2 < w3.heap.size := by
    rcases hown.2 with ⟨e, -⟩ | ⟨g', cap', cur, e, -, hx, -⟩
    · cases e
    · injection e with e
      injection e with e
      injection e with e
      rw [e]; exact blk_lt hx
  refine ⟨hgrow.os.trans hu.os, hgrow.tape.trans hu.tape, hgrow.output.trans hu.output, by rw [hsz]; omega, fun k hk h1 h2 => (far k h1).trans (keep k hk h2), fun k h1 h2 => ?_, ?_, fun cs cs' ty h1 h2 => ?_, ?_, ?_, by rw [hsz]; exact hlt3⟩
  · rw [far k (by omega), hgrow.block k (by simp; omega) (fun e => by have := hol k e; omega), Below.heap_alloc _ _ _ h2]
  · have := own_setCell hown (p := ⟨g, j, none⟩) (by simp [Value.ownBlock]; exact hg2ne.1) (.slice (some ⟨g2, 0, none⟩) (ps.length + 1) cap)
    simpa using this
  · exact blk_put ((keep g hgb hgne).trans h1) j _ h2
  · show (g :: g2 :: (ps ++ [p])).Nodup
    refine List.nodup_cons.2 ⟨?_, List.nodup_cons.2 ⟨?_, List.nodup_append.2 ⟨hn4, by simp, fun a ha c hc e => ?_⟩⟩⟩
    · intro hm
      simp at hm
      rcases hm with e | hm | hm
      · exact hg2ne.1 e
      · exact hn1 (List.mem_append_right _ hm)
      · omega
    · intro hm
      rcases List.mem_append.1 hm with hm | hm
      · exact hg2ne.2.1 hm
      · exact hg2ne.2.2 (List.mem_singleton.1 hm)
    · rw [List.mem_singleton.1 hc] at e
      have := hpsl a ha; omega
  · rcases hat with h | h
    · exact .inl h
    · exact .inr (by omega)
theorem AppOut.blks {wi w1 w4 : World} {g j g2 cap : Nat} {lv : Value} {ps : List Nat} {p : Nat} {t : TypeId} (h : AppOut wi w1 w4 g j g2 cap lv ps p t) {B : Nat} (hB : B ≤ w1.heap.size) (hb : ∀ k ∈ rowBlks g lv ps, B ≤ k) (hp : B ≤ p) : ∀ k ∈ rowBlks g (.slice (some ⟨g2, 0, none⟩) (ps.length + 1) cap) (ps ++ [p]), B ≤ k := by
  intro k hk
  change k ∈ g :: g2 :: (ps ++ [p]) at hk
  simp at hk
  rcases hk with rfl | rfl | hk | rfl
  · exact hb _ (by unfold rowBlks; simp)
  · rcases h.blk with h | h
    · exact hb _ (by unfold rowBlks; simp [h])
    · omega
  · exact hb _ (by unfold rowBlks; simp [hk])
  · exact hp
theorem AppOut.below {wi w1 w4 : World} {g j g2 cap : Nat} {lv : Value} {ps : List Nat} {p : Nat} {t : TypeId} (h : AppOut wi w1 w4 g j g2 cap lv ps p t) {w : World} (hw : Below w.heap.size w wi) (h1 : wi.heap.size ≤ w1.heap.size) (hb : ∀ k ∈ rowBlks g lv ps, w.heap.size ≤ k) : Below w.heap.size w w4 := by
  have hs := hw.size
  have hs4 := h.size
  refine ⟨h.os.trans hw.os, h.tape.trans hw.tape, h.output.trans hw.output, by omega, fun k hk => (h.old k (by omega) (fun e => ?_) (fun e => ?_)).trans (hw.block k hk)⟩
  · have := hb g (by unfold rowBlks; simp); omega
  · have := hb k (by unfold rowBlks; simp [← e]); omega
end Go.Proofs.Ytkgedpcipaogjaa.WB
end
section
namespace Go.Proofs.Ytkgedpcipaogjaa.WB
open Go Go.RowKit Go.Proofs.YtkgedpcipaogjaaW.PrintWords Go.Proofs.YtkgedpcipaogjaaW.PrintLast Go.Proofs.YtkgedpcipaogjaaW.PrintMore Go.Proofs.Ytkgedpcipaogjaa.PWalkChecks
set_option linter.unusedVariables false
set_option linter.unusedSimpArgs false
theorem pow_63 {n : Nat} (h : n ≤ 61) : (2 ^ n : Nat) ≤ 2305843009213693952 := Nat.le_trans (Nat.pow_le_pow_right (by decide) h) (by decide)
theorem R_l {o : Nat} (ho : o ≤ 8) (b l : Int) : ∀ (d i : Nat), i + d = o → croftref2_R.l0 (d + 1) ((4096 * 2 ^ i : Nat) : Int) (i : Int) b l (o : Int) = some ((4096 * 2 ^ o : Nat) : Int)
  | 0, i, h => by
    obtain rfl : i = o := by omega
    rw [croftref2_R.l0, if_neg (by omega)]
  | d + 1, i, h => by
    have h1 : IntKind.u64.wrap (((4096 * 2 ^ i : Nat) : Int) * 2) = ((4096 * 2 ^ (i + 1) : Nat) : Int) := by
      have e : (4096 * 2 ^ (i + 1) : Nat) = 4096 * 2 ^ i * 2 := by rw [Nat.pow_succ]; omega
      have : (2 ^ i : Nat) ≤ 2 ^ 8 := Nat.pow_le_pow_right (by decide) (by omega)
      rw [e]
      generalize (2 ^ i : Nat) = x at *
      rw [wrap_u64]
      omega
    have h2 : wrap64 ((i : Int) + 1) = ((i + 1 : Nat) : Int) := by unfold wrap64; omega
    rw [croftref2_R.l0, if_pos (by omega), h1, h2]
    exact R_l ho b l d (i + 1) (by omega)
theorem R_d {o : Nat} (ho : o ≤ 8) (b l : Int) (w : World) : Calls Try.prog 20 #[.agg #[.int .u64 b, .int .i64 l, .int .i64 (o : Int)]] w fun e w' => e = .returned (.int .u64 ((4096 * 2 ^ o : Nat) : Int)) ∧ Below w.heap.size w w' :=
  croftref2_R.calls (o + 1) _ _ _ _ w (R_l ho b l o 0 (by omega))
theorem may_pages {l : Int} {o : Nat} (hl : 1 ≤ l) (hl2 : l ≤ 64) (ho : o ≤ 8) (b : Int) : ∀ (d i : Nat), i + d = o → croftref2_May.l0 (d + 1) (l * (2 ^ i : Nat)) ((4096 * 2 ^ i : Nat) : Int) (i : Int) b l (o : Int) = croftref2_May.l0 1 (l * (2 ^ o : Nat)) ((4096 * 2 ^ o : Nat) : Int) (o : Int) b l (o : Int)
  | 0, i, h => by
    obtain rfl : i = o := by omega
    rfl
  | d + 1, i, h => by
    have hp : (2 ^ i : Nat) ≤ 2 ^ 8 := Nat.pow_le_pow_right (by decide) (by omega)
    have h0 : wrap64 (l * (2 ^ i : Nat) * 2) = l * (2 ^ (i + 1) : Nat) := by
      rw [Nat.pow_succ]
      generalize (2 ^ i : Nat) = x at *
      have e : l * ((x * 2 : Nat) : Int) = l * (x : Int) * 2 := by rw [Int.natCast_mul, ← Int.mul_assoc]; rfl
      have hb : l * (x : Int) ≤ 64 * 256 := Int.mul_le_mul hl2 (by omega) (by omega) (by omega)
      have hb0 : 0 ≤ l * (x : Int) := Int.mul_nonneg (by omega) (by omega)
      rw [e]
      generalize l * (x : Int) = y at *
      unfold wrap64
      omega
    have h1 : IntKind.u64.wrap (((4096 * 2 ^ i : Nat) : Int) * 2) = ((4096 * 2 ^ (i + 1) : Nat) : Int) := by
      have e : (4096 * 2 ^ (i + 1) : Nat) = 4096 * 2 ^ i * 2 := by rw [Nat.pow_succ]; omega
      rw [e]
      generalize (2 ^ i : Nat) = x at *
      rw [wrap_u64]
      omega
    have h2 : wrap64 ((i : Int) + 1) = ((i + 1 : Nat) : Int) := by unfold wrap64; omega
    rw [croftref2_May.l0, if_pos (by omega), h0, h1, h2]
    exact may_pages hl hl2 ho b d (i + 1) (by omega)
theorem May_d {b l o : Int} {r : Bool} (h : mayB b l o = r) (hb : U64 b) (w : World) : Calls Try.prog 22 #[.agg #[.int .u64 b, .int .i64 l, .int .i64 o]] w fun e w' => e = .returned (.bool r) ∧ Below w.heap.size w w' := by
  refine croftref2_May.calls 10 b l o r w ?_
  subst h
  unfold croftref2_May.f mayB
  by_cases h1 : o < 0
  · rw [if_pos h1, croftref2_May.j0, if_pos rfl, inB_f.2 (by omega)]; rfl
  rw [if_neg h1]
  by_cases h2 : o > 8
  · rw [if_pos h2, croftref2_May.j0, if_pos rfl, inB_f.2 (by omega)]; rfl
  rw [if_neg h2, inB_t.2 (by omega)]
  by_cases h3 : l < 1
  · rw [if_pos h3, croftref2_May.j0, if_pos rfl, inB_f.2 (by omega)]; rfl
  rw [if_neg h3, croftref2_May.j0]
  by_cases h4 : l > 64
  · rw [if_pos (by simpa using h4), inB_f.2 (by omega)]; rfl
  rw [if_neg (by simpa using h4), inB_t.2 (by omega)]
  obtain ⟨n, rfl⟩ : ∃ n : Nat, o = n := ⟨o.toNat, by omega⟩
  have hn : n ≤ 8 := by omega
  have hk : ∀ k, n + 1 ≤ k → k ≤ 9 → croftref2_May.l0 k l 4096 0 b l (n : Int) = croftref2_May.l0 1 (l * (2 ^ n : Nat)) ((4096 * 2 ^ n : Nat) : Int) (n : Int) b l (n : Int) → croftref2_May.l0 k l 4096 0 b l (n : Int) = croftref2_May.l0 1 (l * (2 ^ n : Nat)) ((4096 * 2 ^ n : Nat) : Int) (n : Int) b l (n : Int) := fun _ _ _ h => h
  have hz : ((4096 * 2 ^ n : Nat) : Int) = RR (n : Int) := by unfold RR; simp
  have hpl := pow_63 (n := n) (by omega)
  have hp8 : (2 ^ n : Nat) ≤ 2 ^ 8 := Nat.pow_le_pow_right (by decide) hn
  have hp0 : 0 < 2 ^ n := Nat.pow_pos (by decide)
  have e0 := may_pages (l := l) (by omega) (by omega) hn b n 0 (by omega)
  have e1 : croftref2_May.l0 (n + 1) l 4096 0 b l (n : Int) = croftref2_May.l0 1 (l * (2 ^ n : Nat)) ((4096 * 2 ^ n : Nat) : Int) (n : Int) b l (n : Int) := by
    rw [← e0]
    simp
  have fin : croftref2_May.l0 1 (l * (2 ^ n : Nat)) ((4096 * 2 ^ n : Nat) : Int) (n : Int) b l (n : Int) = some (true && (true && (decide (l * 2 ^ (n : Int).toNat ≤ 1024) && (b != 0 && (b % RR (n : Int) == 0 && (decide (b ≤ 9223372036854775808) && decide (l * RR (n : Int) ≤ 9223372036854775808 - b))))))) := by
    have hb' := hb
    unfold U64 at hb'
    rw [croftref2_May.l0, if_neg (by omega), ← hz]
    have ep : l * 2 ^ (n : Int).toNat = l * ((2 ^ n : Nat) : Int) := by rw [Int.toNat_natCast]; simp
    rw [ep]
    by_cases c1 : l * ((2 ^ n : Nat) : Int) > 1024
    · rw [if_pos c1, show decide (l * ((2 ^ n : Nat) : Int) ≤ 1024) = false from decide_eq_false (by omega)]; rfl
    rw [if_neg c1, show decide (l * ((2 ^ n : Nat) : Int) ≤ 1024) = true from decide_eq_true (by omega)]
    by_cases c2 : b = 0
    · rw [if_pos c2, c2]; rfl
    rw [if_neg c2, show (b != 0) = true by simpa using c2, if_neg (by omega)]
    rw [Int.tmod_eq_emod_of_nonneg hb'.1]
    by_cases c3 : b % ((4096 * 2 ^ n : Nat) : Int) = 0
    · rw [if_pos c3, show (b % ((4096 * 2 ^ n : Nat) : Int) == 0) = true by simpa using c3]
      by_cases c4 : b ≤ 9223372036854775808
      · rw [if_pos c4, show decide (b ≤ 9223372036854775808) = true from decide_eq_true c4]
        have hwl : IntKind.u64.wrap l = l := by rw [wrap_u64]; omega
        have hm1 : ((4096 * 2 ^ n : Nat) : Int) * l ≤ 1048576 * 64 := Int.mul_le_mul (by omega) (by omega) (by omega) (by omega)
        have hm0 : 0 ≤ ((4096 * 2 ^ n : Nat) : Int) * l := Int.mul_nonneg (by omega) (by omega)
        rw [hwl, Int.mul_comm l]
        generalize ((4096 * 2 ^ n : Nat) : Int) * l = y at *
        have hwy : IntKind.u64.wrap y = y := by rw [wrap_u64]; omega
        have hws : IntKind.u64.wrap (b + y) = b + y := by rw [wrap_u64]; omega
        rw [hwy, hws]
        have : decide (b + y ≤ 9223372036854775808) = decide (y ≤ 9223372036854775808 - b) := by
          rw [decide_eq_decide]; omega
        rw [this]
        rfl
      · rw [if_neg c4, show decide (b ≤ 9223372036854775808) = false from decide_eq_false c4]; rfl
    · rw [if_neg c3, show (b % ((4096 * 2 ^ n : Nat) : Int) == 0) = false by simpa using c3]; rfl
  have up : ∀ (d : Nat), croftref2_May.l0 (n + 1 + d) l 4096 0 b l (n : Int) = croftref2_May.l0 (n + 1) l 4096 0 b l (n : Int) := by
    intro d
    induction d with
    | zero => rfl
    | succ d ih =>
      have hm := (croftref2_May.mono_l (n + 1 + d)).2 l 4096 0 b l (n : Int)
      rw [ih, e1, fin] at hm
      rw [e1, fin]
      exact hm _ rfl
  have := up (8 - n)
  rw [show n + 1 + (8 - n) = 9 by omega, e1, fin] at this
  exact this
end Go.Proofs.Ytkgedpcipaogjaa.WB
end
section
set_option linter.unusedVariables false
namespace Go.Proofs.Ytkgedpcipaogjaa.WB
theorem scan_add {f : Nat → Option Int} : ∀ (a b k : Nat), scan f (a + b) k = match scan f a k with
    | some p => some p
    | none => scan f b (k + a)
  | 0, b, k => by rw [Nat.zero_add]; rfl
  | a + 1, b, k => by
    rw [Nat.succ_add, scan, scan]
    cases hf : f k with
    | some p => rfl
    | none =>
      simp only
      rw [scan_add a b (k + 1), show k + 1 + a = k + (a + 1) by omega]
def doc (r : Option Int) : Int := r.getD (-1)
def docPair (im : Im) (k i : Nat) : Option Int :=
  if im.np k ≤ i then (if bitL (im.row k) i = true then some im.n else none)
  else if bitL (im.row k) i = (im.openB (i * 2 ^ (k + 1)) k != im.openB (i * 2 ^ (k + 1) + 2 ^ k) k) then none else some ((i * 2 ^ (k + 1) : Nat) : Int)
theorem scan_one {c : Nat → Bool} {v : Int} : ∀ (d k : Nat), (¬ ∀ i, k ≤ i → i < k + d → c i = false) → scan (fun i => if c i = true then some v else none) d k = some v
  | 0, k, h => absurd (fun i h1 h2 => by omega) h
  | d + 1, k, h => by
    rw [scan]
    by_cases e : c k = true
    · rw [if_pos e]
    · rw [if_neg e]
      simp only
      refine scan_one d (k + 1) (fun hh => h (fun i h1 h2 => ?_))
      by_cases e2 : i = k
      · subst e2; simpa using e
      · exact hh i (by omega) (by omega)
theorem pair_eq {im : Im} {k : Nat} (h : (im.row k).length = (im.np k + 63) / 64) : scan (docPair im k) (64 * (im.row k).length) 0 = pairR im k := by
  obtain ⟨b, hb⟩ : ∃ b, 64 * (im.row k).length = im.np k + b := ⟨64 * (im.row k).length - im.np k, by omega⟩
  rw [hb, scan_add]
  unfold pairR
  have e1 : scan (docPair im k) (im.np k) 0 = scan (fun i => if bitL (im.row k) i = (im.openB (i * 2 ^ (k + 1)) k != im.openB (i * 2 ^ (k + 1) + 2 ^ k) k) then none else some ((i * 2 ^ (k + 1) : Nat) : Int)) (im.np k) 0 :=
    scan_congr _ _ (fun i _ hi => by unfold docPair; rw [if_neg (by omega)])
  rw [e1]
  generalize scan (fun i => if bitL (im.row k) i = (im.openB (i * 2 ^ (k + 1)) k != im.openB (i * 2 ^ (k + 1) + 2 ^ k) k) then none else some ((i * 2 ^ (k + 1) : Nat) : Int)) (im.np k) 0 = x
  cases x with
  | some p => rfl
  | none =>
    simp only
    have e2 : scan (docPair im k) b (0 + im.np k) = scan (fun i => if bitL (im.row k) i = true then some (im.n : Int) else none) b (0 + im.np k) :=
      scan_congr _ _ (fun i hi _ => by unfold docPair; rw [if_pos (by omega)])
    rw [e2, hb]
    have e : (∀ i, 0 + im.np k ≤ i → i < 0 + im.np k + b → bitL (im.row k) i = false) ↔ (∀ j, j < im.np k + b → im.np k ≤ j → bitL (im.row k) j = false) := by
      constructor
      · intro hh i h1 h2; exact hh i (by omega) (by omega)
      · intro hh i h1 h2; exact hh i (by omega) (by omega)
    by_cases hc : ∀ i, 0 + im.np k ≤ i → i < 0 + im.np k + b → bitL (im.row k) i = false
    · rw [if_pos (e.1 hc), scan_none]
      intro i h1 h2
      exact if_neg (by rw [hc i h1 h2]; decide)
    · rw [scan_one _ _ hc, if_neg (fun h2 => hc (e.2 h2))]
def numS (im : Im) (p : Int) : Option Int := scan (fun i => if p = im.base + 4096 * (i : Int) then some (i : Int) else none) im.n 0
theorem numS_some {im : Im} {p : Int} {i : Nat} (hi : i < im.n) (h : p = im.base + 4096 * (i : Int)) : numS im p = some (i : Int) := by
  unfold numS
  have hn : ∀ j, 0 ≤ j → j < 0 + i → (fun i : Nat => if p = im.base + 4096 * (i : Int) then some (i : Int) else none) j = none := by
    intro j _ hj
    exact if_neg (by omega)
  rw [show im.n = i + (1 + (im.n - i - 1)) by omega, scan_add, scan_none.2 hn, scan_add]
  simp only [scan, Nat.zero_add, h, if_true]
theorem numS_none {im : Im} {p : Int} (h : ∀ i : Nat, i < im.n → p ≠ im.base + 4096 * (i : Int)) : numS im p = none := by
  unfold numS
  refine scan_none.2 (fun i _ hi => ?_)
  exact if_neg (h i (by omega))
theorem idx_doc {im : Im} {o r : Nat} (g : Geo im o r) (k : Nat) (p : Int) : (freeL im k).idx p = match numS im p with
    | some i => if im.openB i.toNat k = true then some i.toNat else none
    | none => none := by
  have hm := g.mem
  have hn := g.n
  have hb := g.base
  by_cases h : ∃ i : Nat, i < im.n ∧ p = im.base + 4096 * (i : Int)
  · obtain ⟨i, hi, hp⟩ := h
    rw [numS_some hi hp]
    have e : (p - im.base) / 4096 = (i : Int) := by omega
    simp only [freeL, e, Int.toNat_natCast]
    by_cases ho : im.openB i k = true
    · rw [if_pos ho, if_pos ⟨by omega, by omega, by omega, ho⟩]
    · rw [if_neg ho, if_neg (fun hh => ho hh.2.2.2)]
  · rw [numS_none (fun i hi hp => h ⟨i, hi, hp⟩)]
    simp only [freeL]
    rw [if_neg]
    rintro ⟨h1, h2, h3, h4⟩
    exact h ⟨((p - im.base) / 4096).toNat, by omega, by omega⟩
def lastC (z at_ w : Int) : Nat → Int
  | 0 => -1
  | j + 1 => if w = at_ + z * (j : Int) then (j : Int) else lastC z at_ w j
theorem lastC_none {z at_ w : Int} : ∀ {n : Nat}, (∀ j : Nat, j < n → w ≠ at_ + z * (j : Int)) → lastC z at_ w n = -1
  | 0, _ => rfl
  | n + 1, h => by rw [lastC, if_neg (h n (by omega)), lastC_none (fun j hj => h j (by omega))]
theorem lastC_some {z at_ w : Int} (hz : 0 < z) {j : Nat} (h : w = at_ + z * (j : Int)) : ∀ {n : Nat}, j < n → lastC z at_ w n = j
  | 0, hj => by omega
  | n + 1, hj => by
    rw [lastC]
    by_cases e : w = at_ + z * (n : Int)
    · rw [if_pos e]
      have h1 : z * (n : Int) = z * (j : Int) := by omega
      exact Int.eq_of_mul_eq_mul_left (by omega) h1
    · rw [if_neg e]
      refine lastC_some hz h ?_
      by_cases e2 : j = n
      · subst e2; exact absurd h e
      · omega
theorem nxC_doc {im : Im} {i : Nat} (h0 : 0 ≤ (im.pg i).cl) (h7 : (im.pg i).cl ≤ 7) (hb : 0 < im.base) (hb4 : im.base % 4096 = 0) (c : Nat) {w l : Int} (hw : wordM im.mem (4096 * i + c * cellZ (im.pg i)) = w)
    (hl : lastC (cellZ (im.pg i)) (im.base + 4096 * (i : Int)) w (cellsN (im.pg i).cl) = l) : nxC im i c = if w = 0 then .fin else if l < 0 then .bad else .onto l.toNat := by
  obtain ⟨k, -, hk7, n1, n2, n3⟩ := cell_page h0 h7
  have hz : cellZ (im.pg i) = 2 ^ (4 + k) := n2
  have hzp : 0 < cellZ (im.pg i) := by rw [hz]; exact Nat.pow_pos (by decide)
  have n3' : cellsN (im.pg i).cl * cellZ (im.pg i) = 4096 := n3
  have hd : cellZ (im.pg i) ∣ 4096 := by rw [← n3']; exact Nat.dvd_mul_left _ _
  unfold nxC
  rw [hw]
  by_cases hw0 : w = 0
  · rw [if_pos hw0, if_pos hw0]
  rw [if_neg hw0, if_neg hw0]
  have hat : (im.base + 4096 * (i : Int)) % ((cellZ (im.pg i) : Nat) : Int) = 0 := by
    have h1 : ((cellZ (im.pg i) : Nat) : Int) ∣ 4096 := by
      have := Int.natCast_dvd_natCast.2 hd
      simpa using this
    refine Int.emod_eq_zero_of_dvd (Int.dvd_trans h1 (Int.dvd_of_emod_eq_zero (by omega)))
  generalize im.base + 4096 * (i : Int) = a at *
  generalize cellZ (im.pg i) = z at *
  generalize cellsN (im.pg i).cl = n at *
  have hzI : (0 : Int) < (z : Int) := by omega
  have n3I : (n : Int) * (z : Int) = 4096 := by rw [← Int.natCast_mul, n3']; rfl
  by_cases hc : a ≤ w ∧ w - a < 4096 ∧ w % (z : Int) = 0
  · rw [if_pos hc]
    have hdv : (z : Int) ∣ w - a := Int.dvd_sub (Int.dvd_of_emod_eq_zero hc.2.2) (Int.dvd_of_emod_eq_zero hat)
    obtain ⟨q, hq⟩ := hdv
    have hq0 : 0 ≤ q := by
      by_cases e : 0 ≤ q
      · exact e
      · have := Int.mul_neg_of_pos_of_neg hzI (show q < 0 by omega)
        omega
    obtain ⟨j, rfl⟩ := Int.eq_ofNat_of_zero_le hq0
    have hjn : j < n := by
      have h1 : (z : Int) * (j : Int) < (z : Int) * (n : Int) := by rw [Int.mul_comm (z : Int) (n : Int), n3I]; omega
      have := Int.lt_of_mul_lt_mul_left h1 (by omega)
      omega
    have h2 := lastC_some (at_ := a) (w := w) hzI (j := j) (by omega) hjn
    rw [h2] at hl
    have h3 : (w - a) / (z : Int) = j := by rw [hq]; exact Int.mul_ediv_cancel_left _ (by omega)
    rw [h3, ← hl, if_neg (by omega)]
  · rw [if_neg hc]
    have h2 : lastC (z : Int) a w n = -1 := by
      refine lastC_none (fun j hj e => hc ?_)
      have h1 : (z : Int) * ((j : Int) + 1) ≤ (z : Int) * (n : Int) := Int.mul_le_mul_of_nonneg_left (by omega) (by omega)
      rw [Int.mul_comm (z : Int) (n : Int), n3I, Int.mul_add, Int.mul_one] at h1
      have h0 : 0 ≤ (z : Int) * (j : Int) := Int.mul_nonneg (by omega) (by omega)
      refine ⟨by omega, by omega, ?_⟩
      rw [e, Int.add_mul_emod_self_left]
      exact hat
    rw [h2] at hl
    rw [if_pos (by omega)]
theorem slab_lv {p : Pg} (h : slabB p = true) : p.lv ≤ cellsN p.cl ∧ 0 < p.lv := by
  unfold slabB at h
  simp only [Bool.and_eq_true, List.all_eq_true, List.mem_range, Bool.or_eq_true, Bool.not_eq_true', decide_eq_true_eq] at h
  obtain ⟨h1, h2, h3⟩ := h
  have key : ∀ d, cnt p.bit (cellsN p.cl + d) ≤ cellsN p.cl ∨ 256 < cellsN p.cl + d := by
    intro d
    induction d with
    | zero => exact Or.inl (cnt_le _ _)
    | succ d ih =>
      rcases ih with ih | ih
      · by_cases e : cellsN p.cl + d < 256
        · left
          have hb : p.bit (cellsN p.cl + d) = false := by
            rcases h1 _ e with h | h
            · exact h
            · omega
          rw [← Nat.add_assoc, cnt, hb]
          simpa using ih
        · right; omega
      · right; omega
  have hle : cellsN p.cl ≤ 256 := by unfold cellsN; exact Nat.div_le_self _ _
  have := key (256 - cellsN p.cl)
  rw [show cellsN p.cl + (256 - cellsN p.cl) = 256 by omega] at this
  omega
theorem scan_pos {f : Nat → Option Int} (h : ∀ i p, f i = some p → 0 ≤ p) : ∀ {d k : Nat} {p : Int}, scan f d k = some p → 0 ≤ p
  | 0, _, _, hs => by cases hs
  | d + 1, k, p, hs => by
    rw [scan] at hs
    cases hf : f k with
    | some q => rw [hf] at hs; injection hs with hs; rw [← hs]; exact h k q hf
    | none => rw [hf] at hs; exact scan_pos h hs
theorem run_pos {im : Im} : ∀ {d at_ : Nat} {p : Int}, runF im d at_ = some p → 0 ≤ p
  | 0, _, _, h => by cases h
  | d + 1, at_, p, h => by
    unfold runF at h
    by_cases h1 : at_ < im.n
    · rw [if_pos h1] at h
      by_cases hk : (im.pg at_).kd = 4
      · rw [if_pos hk] at h
        by_cases ho : (im.pg at_).od = 0
        · rw [if_pos ho] at h
          exact run_pos h
        · rw [if_neg ho] at h
          injection h with h; omega
      · rw [if_neg hk] at h
        by_cases hc : ((im.pg at_).kd = 0 ∨ (im.pg at_).kd = 2) ∧ at_ % 2 ^ (im.pg at_).od.toNat = 0 ∧ plainB (im.pg at_) = true
        · rw [if_pos hc] at h
          cases hs : scan (fun i => if (im.pg (at_ + i)).kd = (im.pg at_).kd + 1 ∧ (im.pg (at_ + i)).od = (im.pg at_).od ∧ plainB (im.pg (at_ + i)) = true then none else some ((at_ + i : Nat) : Int)) (2 ^ (im.pg at_).od.toNat - 1) 1 with
          | some q =>
            rw [hs] at h
            injection h with h
            rw [← h]
            refine scan_pos (fun i q hq => ?_) hs
            split at hq
            · cases hq
            · injection hq with hq; omega
          | none => rw [hs] at h; exact run_pos h
        · rw [if_neg hc] at h
          injection h with h; omega
    · rw [if_neg h1] at h; cases h
theorem res_pos (im : Im) : ∀ {k : Nat} {p : Int}, res im k = some p → 0 ≤ p := by
  intro k p h
  match k, h with
  | 0, h =>
    have h : R1 im = some p := h
    unfold R1 at h
    split at h
    · cases h
    · injection h with h; omega
  | 1, h =>
    have h : R2 im = some p := h
    unfold R2 at h
    split at h
    · injection h with h; omega
    split at h
    · injection h with h; omega
    split at h
    · injection h with h; omega
    split at h
    · injection h with h; omega
    split at h
    · rename_i q hs
      injection h with h
      rw [← h]
      refine scan_pos (fun i q hq => ?_) hs
      split at hq
      · cases hq
      · injection hq with hq; omega
    split at h
    · injection h with h; omega
    split at h
    · injection h with h; omega
    cases h
  | 2, h =>
    refine scan_pos (fun i q hq => ?_) h
    split at hq
    · cases hq
    · injection hq with hq; omega
  | 3, h => exact run_pos h
  | 4, h =>
    refine scan_pos (fun i q hq => ?_) h
    split at hq
    · injection hq with hq; omega
    · cases hq
  | 5, h =>
    refine scan_pos (fun i q hq => ?_) h
    split at hq
    · injection hq with hq; omega
    · cases hq
  | 6, h =>
    refine scan_pos (fun i q hq => ?_) h
    unfold pairR at hq
    split at hq
    · rename_i q2 hs
      injection hq with hq
      rw [← hq]
      refine scan_pos (fun i q hq => ?_) hs
      split at hq
      · cases hq
      · injection hq with hq; omega
    · split at hq
      · cases hq
      · injection hq with hq; omega
  | 7, h =>
    refine scan_pos (fun i q hq => ?_) h
    split at hq
    · cases hq
    · injection hq with hq; omega
  | 8, h =>
    refine scan_pos (fun i q hq => ?_) h
    split at hq
    · injection hq with hq; omega
    · cases hq
  | 9, h =>
    refine scan_pos (fun i q hq => ?_) h
    split at hq
    · cases hq
    · injection hq with hq; omega
  | _ + 10, h =>
    refine scan_pos (fun i q hq => ?_) h
    split at hq
    · injection hq with hq; omega
    · cases hq
end Go.Proofs.Ytkgedpcipaogjaa.WB
end
section
namespace Go.Proofs.Ytkgedpcipaogjaa.WB
open Go Go.RowKit Go.Proofs.YtkgedpcipaogjaaW.PrintWords Go.Proofs.YtkgedpcipaogjaaW.PrintLast Go.Proofs.YtkgedpcipaogjaaW.PrintMore
set_option linter.unusedVariables false
set_option linter.unusedSimpArgs false
theorem pow_step {i n : Nat} (h : i < n) (hn : n ≤ 61) : wrap64 (((2 ^ i : Nat) : Int) * 2) = ((2 ^ (i + 1) : Nat) : Int) ∧ IntKind.i64.wrap (((2 ^ i : Nat) : Int) * 2) = ((2 ^ (i + 1) : Nat) : Int) ∧ wrap64 ((i : Int) + 1) = (i : Int) + 1 ∧ IntKind.i64.wrap ((i : Int) + 1) = (i : Int) + 1 := by
  have e : ((2 ^ (i + 1) : Nat) : Int) = ((2 ^ i : Nat) : Int) * 2 := by rw [Nat.pow_succ]; simp
  have := pow_63 (n := i) (by omega)
  have h1 : wrap64 (((2 ^ i : Nat) : Int) * 2) = ((2 ^ (i + 1) : Nat) : Int) := by
    rw [e]
    generalize (2 ^ i : Nat) = x at *
    unfold wrap64
    omega
  have h2 : wrap64 ((i : Int) + 1) = (i : Int) + 1 := by unfold wrap64; omega
  exact ⟨h1, by rw [i64_w]; exact h1, h2, by rw [i64_w]; exact h2⟩
set_option maxRecDepth 100000 in
theorem power_s {n : Nat} (hn : n ≤ 61) (w : World) : Calls Try.prog 30 #[.int .i64 (n : Int)] w fun e w' => e = .returned (.int .i64 ((2 ^ n : Nat) : Int)) ∧ w' = w := by
  have HN := Lib.hid hn
  clear hn
  go_enter Try.func30, Try.ntmps30
  go_wp2
  go_loopg [3, 4] n (fun g v u wr => ∃ (i : Nat) (x : Int), v = .int .i64 x ∧ u = .int .i64 (i : Int) ∧ Aside0 (x = ((2 ^ i : Nat) : Int)) ∧ Aside0 (i + g = n) ∧ wr = w)
  case atStart => exact ⟨0, 1, rfl, rfl, ⟨rfl⟩, ⟨by omega⟩, rfl⟩
  case round =>
    obtain ⟨i, x, rfl, rfl, hx, hig, rfl⟩ := hrel
    by_cases hk : i < n
    · have hkd : decide ((i : Int) < (n : Int)) = true := decide_eq_true (by omega)
      have hkd' : decide (i < n) = true := decide_eq_true hk
      obtain ⟨g1, rfl⟩ : ∃ g1, gk = g1 + 1 := ⟨gk - 1, by have := hig.out; omega⟩
      have HPS := Lib.hid (pow_step hk HN.out)
      clear hk
      go_wp2
      go_roundg g1
      case measure => omega
      case rel => exact ⟨i + 1, _, rfl, by simp; exact HPS.out.2.2.1, ⟨by rw [hx.out]; exact HPS.out.1⟩, ⟨by have := hig.out; omega⟩, rfl⟩
    · have hkd : decide ((i : Int) < (n : Int)) = false := decide_eq_false (by omega)
      have hkd' : decide (i < n) = false := decide_eq_false hk
      have HIN := Lib.hid (show i = n by have := hig.out; omega)
      clear hk
      go_wp2
      go_ret
      refine ⟨?_, rfl⟩
      rw [hx.out, HIN.out]
      rfl
set_option maxRecDepth 100000 in
theorem bit_s (c : Nat) (w : World) : Calls Try.prog 51 #[.int .i64 (c : Int)] w fun e w' => e = .returned (.int .u64 ((2 ^ (c % 64) : Nat) : Int)) ∧ w' = w := by
  have ht : Int.tmod (c : Int) 64 = ((c % 64 : Nat) : Int) := by rw [Int.tmod_eq_emod_of_nonneg (by omega)]; rfl
  have hn64 : c % 64 < 64 := Nat.mod_lt _ (by decide)
  have ht2 : (c : Int) % 64 = ((c % 64 : Nat) : Int) := rfl
  obtain ⟨n, hn⟩ : ∃ n, c % 64 = n := ⟨_, rfl⟩
  rw [hn] at ht ht2 hn64 ⊢
  have HN := Lib.hid hn64
  clear hn64 hn
  go_enter Try.func51, Try.ntmps51
  go_wp2
  go_loopg [3, 4] n (fun g v u wr => ∃ (i : Nat) (x : Int), v = .int .u64 x ∧ u = .int .i64 (i : Int) ∧ Aside0 (x = ((2 ^ i : Nat) : Int)) ∧ Aside0 (i + g = n) ∧ wr = w)
  case atStart => exact ⟨0, 1, rfl, rfl, ⟨rfl⟩, ⟨by omega⟩, rfl⟩
  case round =>
    obtain ⟨i, x, rfl, rfl, hx, hig, rfl⟩ := hrel
    by_cases hk : i < n
    · have hkd : decide ((i : Int) < (n : Int)) = true := decide_eq_true (by omega)
      have hkd' : decide (i < n) = true := decide_eq_true hk
      obtain ⟨g1, rfl⟩ : ∃ g1, gk = g1 + 1 := ⟨gk - 1, by have := hig.out; omega⟩
      have HPS := Lib.hid (show IntKind.u64.wrap (((2 ^ i : Nat) : Int) * 2) = ((2 ^ (i + 1) : Nat) : Int) by
        have e : (2 ^ (i + 1) : Nat) = 2 ^ i * 2 := by rw [Nat.pow_succ]
        have : (2 ^ i : Nat) ≤ 2 ^ 62 := Nat.pow_le_pow_right (by decide) (by have := HN.out; omega)
        rw [e]
        generalize (2 ^ i : Nat) = x at *
        rw [wrap_u64]
        omega)
      have HI1 := Lib.hid (show wrap64 ((i : Int) + 1) = (i : Int) + 1 by have := HN.out; unfold wrap64; omega)
      clear hk
      go_wp2
      go_roundg g1
      case measure => omega
      case rel => exact ⟨i + 1, _, rfl, by simp; exact HI1.out, ⟨by rw [hx.out]; exact HPS.out⟩, ⟨by have := hig.out; omega⟩, rfl⟩
    · have hkd : decide ((i : Int) < (n : Int)) = false := decide_eq_false (by omega)
      have hkd' : decide (i < n) = false := decide_eq_false hk
      have HIN := Lib.hid (show i = n by have := hig.out; omega)
      clear hk
      go_wp2
      go_ret
      refine ⟨?_, rfl⟩
      rw [hx.out, HIN.out]
      rfl
theorem in_s {v lo hi : Int} {b : Bool} (h : inB v lo hi = b) (w : World) : Calls Try.prog 71 #[.int .i64 v, .int .i64 lo, .int .i64 hi] w fun e w' => e = .returned (.bool b) ∧ w' = w := by
  subst h
  by_cases h1 : lo ≤ v
  · have d1 : decide (v ≥ lo) = true := decide_eq_true h1
    go_enter Try.func71, Try.ntmps71
    go_wp2
    go_ret
    exact ⟨by simp [inB, h1], rfl⟩
  · have d1 : decide (v ≥ lo) = false := decide_eq_false h1
    go_enter Try.func71, Try.ntmps71
    go_wp2
    go_ret
    exact ⟨by simp [inB, h1]; omega, rfl⟩
def Pg.vals (p : Pg) : Array Value := #[.int .i64 p.kd, .int .i64 p.od, .int .i64 p.cl, .int .i64 p.lv, .int .i64 p.nx, .int .i64 p.pv, .int .i64 p.fs, .int .u64 p.b0, .int .u64 p.b1, .int .u64 p.b2, .int .u64 p.b3]
set_option maxRecDepth 100000 in
set_option maxHeartbeats 4000000 in
theorem plain_d (p : Pg) (w : World) : Calls Try.prog 72 #[.agg p.vals] w fun e w' => e = .returned (.bool (plainB p)) ∧ Below w.heap.size w w' := by
  have HB := Lib.hid (show Below w.heap.size w (w.alloc (pageO p)) from (Below.refl _ w).alloc (Nat.le_refl _) _)
  obtain ⟨p0, p1, p2, p3, p4, p5, p6, p7, p8, p9, p10⟩ := page_var (blk_new w (pageO p))
  unfold Pg.vals
  by_cases h0 : p.cl = 0
  case neg =>
    have d0 : (p.cl == 0) = false := by simpa using h0
    have HP := Lib.hid (show plainB p = false from decide_eq_false (fun hh => h0 hh.1))
    clear h0
    go_enter Try.func72, Try.ntmps72
    go_wp2
    go_ret
    exact ⟨by have := HP.out; rw [this]; rfl, HB.out⟩
  have d0 : (p.cl == 0) = true := by simpa using h0
  by_cases h1 : p.lv = 0
  case neg =>
    have d1 : (p.lv == 0) = false := by simpa using h1
    have HP := Lib.hid (show plainB p = false from decide_eq_false (fun hh => h1 hh.2.1))
    clear h0 h1
    go_enter Try.func72, Try.ntmps72
    go_wp2
    go_ret
    exact ⟨by have := HP.out; rw [this]; rfl, HB.out⟩
  have d1 : (p.lv == 0) = true := by simpa using h1
  by_cases h2 : p.nx = (-1)
  case neg =>
    have d2 : (p.nx == (-1)) = false := by simpa using h2
    have HP := Lib.hid (show plainB p = false from decide_eq_false (fun hh => h2 hh.2.2.1))
    clear h0 h1 h2
    go_enter Try.func72, Try.ntmps72
    go_wp2
    go_ret
    exact ⟨by have := HP.out; rw [this]; rfl, HB.out⟩
  have d2 : (p.nx == (-1)) = true := by simpa using h2
  by_cases h3 : p.pv = (-1)
  case neg =>
    have d3 : (p.pv == (-1)) = false := by simpa using h3
    have HP := Lib.hid (show plainB p = false from decide_eq_false (fun hh => h3 hh.2.2.2.1))
    clear h0 h1 h2 h3
    go_enter Try.func72, Try.ntmps72
    go_wp2
    go_ret
    exact ⟨by have := HP.out; rw [this]; rfl, HB.out⟩
  have d3 : (p.pv == (-1)) = true := by simpa using h3
  by_cases h4 : p.fs = (-1)
  case neg =>
    have d4 : (p.fs == (-1)) = false := by simpa using h4
    have HP := Lib.hid (show plainB p = false from decide_eq_false (fun hh => h4 hh.2.2.2.2.1))
    clear h0 h1 h2 h3 h4
    go_enter Try.func72, Try.ntmps72
    go_wp2
    go_ret
    exact ⟨by have := HP.out; rw [this]; rfl, HB.out⟩
  have d4 : (p.fs == (-1)) = true := by simpa using h4
  by_cases h5 : p.b0 = 0
  case neg =>
    have d5 : (p.b0 == 0) = false := by simpa using h5
    have HP := Lib.hid (show plainB p = false from decide_eq_false (fun hh => h5 hh.2.2.2.2.2.1))
    clear h0 h1 h2 h3 h4 h5
    go_enter Try.func72, Try.ntmps72
    go_wp2
    go_ret
    exact ⟨by have := HP.out; rw [this]; rfl, HB.out⟩
  have d5 : (p.b0 == 0) = true := by simpa using h5
  by_cases h6 : p.b1 = 0
  case neg =>
    have d6 : (p.b1 == 0) = false := by simpa using h6
    have HP := Lib.hid (show plainB p = false from decide_eq_false (fun hh => h6 hh.2.2.2.2.2.2.1))
    clear h0 h1 h2 h3 h4 h5 h6
    go_enter Try.func72, Try.ntmps72
    go_wp2
    go_ret
    exact ⟨by have := HP.out; rw [this]; rfl, HB.out⟩
  have d6 : (p.b1 == 0) = true := by simpa using h6
  by_cases h7 : p.b2 = 0
  case neg =>
    have d7 : (p.b2 == 0) = false := by simpa using h7
    have HP := Lib.hid (show plainB p = false from decide_eq_false (fun hh => h7 hh.2.2.2.2.2.2.2.1))
    clear h0 h1 h2 h3 h4 h5 h6 h7
    go_enter Try.func72, Try.ntmps72
    go_wp2
    go_ret
    exact ⟨by have := HP.out; rw [this]; rfl, HB.out⟩
  have d7 : (p.b2 == 0) = true := by simpa using h7
  by_cases h8 : p.b3 = 0
  case neg =>
    have d8 : (p.b3 == 0) = false := by simpa using h8
    have HP := Lib.hid (show plainB p = false from decide_eq_false (fun hh => h8 hh.2.2.2.2.2.2.2.2))
    clear h0 h1 h2 h3 h4 h5 h6 h7 h8
    go_enter Try.func72, Try.ntmps72
    go_wp2
    go_ret
    exact ⟨by have := HP.out; rw [this]; rfl, HB.out⟩
  have d8 : (p.b3 == 0) = true := by simpa using h8
  have HP := Lib.hid (show plainB p = true from decide_eq_true ⟨h0, h1, h2, h3, h4, h5, h6, h7, h8⟩)
  clear h0 h1 h2 h3 h4 h5 h6 h7 h8
  go_enter Try.func72, Try.ntmps72
  go_wp2
  go_ret
  exact ⟨by have := HP.out; rw [this]; rfl, HB.out⟩
theorem power_x {n x : Nat} (hx : 2 ^ n = x) (hn : n ≤ 61) (w : World) : Calls Try.prog 30 #[.int .i64 (n : Int)] w fun e w' => e = .returned (.int .i64 (x : Int)) ∧ w' = w := hx ▸ power_s hn w
theorem cells_nums {cl : Int} (h0 : 0 ≤ cl) (h7 : cl ≤ 7) : ∃ n x : Nat, cl = n ∧ 2 ^ n = x ∧ n ≤ 61 ∧ Int.tdiv 256 (x : Int) = ((cellsN cl : Nat) : Int) ∧ 256 / (x : Int) = ((cellsN cl : Nat) : Int) ∧ wrap64 ((cellsN cl : Nat) : Int) = ((cellsN cl : Nat) : Int) ∧ ¬ x = 0 := by
  obtain ⟨n, hn⟩ : ∃ n : Nat, cl = n := ⟨cl.toNat, by omega⟩
  have hz : 256 / ((2 ^ n : Nat) : Int) = ((cellsN cl : Nat) : Int) := by
    unfold cellsN
    rw [hn, Int.toNat_natCast]
    rfl
  have hle : cellsN cl ≤ 256 := by unfold cellsN; exact Nat.div_le_self _ _
  have hp : 0 < 2 ^ n := Nat.pow_pos (by decide)
  refine ⟨n, _, hn, rfl, by omega, ?_, hz, by unfold wrap64; omega, by omega⟩
  rw [Int.tdiv_eq_ediv_of_nonneg (by decide)]
  exact hz
set_option maxRecDepth 100000 in
theorem cells_d (p : Pg) (h0 : 0 ≤ p.cl) (h7 : p.cl ≤ 7) (w : World) : Calls Try.prog 31 #[.agg p.vals] w fun e w' => e = .returned (.int .i64 ((cellsN p.cl : Nat) : Int)) ∧ Below w.heap.size w w' := by
  have HB := Lib.hid (show Below w.heap.size w (w.alloc (pageO p)) from (Below.refl _ w).alloc (Nat.le_refl _) _)
  obtain ⟨p0, p1, p2, p3, p4, p5, p6, p7, p8, p9, p10⟩ := page_var (blk_new w (pageO p))
  unfold Pg.vals
  obtain ⟨n, x, hn, hx, hn61, t1, t2, t3, hx0⟩ := cells_nums h0 h7
  have HC := Lib.hid hn
  have HN := Lib.hid hn61
  have HX := Lib.hid hx
  generalize hcn : cellsN p.cl = m at t1 t2 t3 ⊢
  rw [hn] at p2 ⊢
  clear h0 h7 hn hn61 hcn hx
  go_enter Try.func31, Try.ntmps31
  go_wp2_with (go_at_call 30; refine (power_x HX.out HN.out _).mono ?_; rintro e w5 ⟨rfl, rfl⟩)
  go_ret
  exact ⟨by show Ending.returned (.int .i64 (wrap64 (m : Int))) = _; rw [t3], by have := HB.out; unfold pageO at this; rwa [HC.out] at this⟩
end Go.Proofs.Ytkgedpcipaogjaa.WB
end
section
namespace Go.Proofs.Ytkgedpcipaogjaa.WB
open Go Go.RowKit Go.Proofs.YtkgedpcipaogjaaW.PrintWords Go.Proofs.YtkgedpcipaogjaaW.PrintLast Go.Proofs.YtkgedpcipaogjaaW.PrintMore
set_option linter.unusedVariables false
set_option linter.unusedSimpArgs false
set_option maxRecDepth 100000 in
set_option maxHeartbeats 4000000 in
theorem has_d (p : Pg) (hw : p.Wf) (c : Nat) (hc : c < 256) (w : World) : Calls Try.prog 32 #[.agg p.vals, .int .i64 (c : Int)] w fun e w' => e = .returned (.bool (p.bit c)) ∧ Below w.heap.size w w' := by
  obtain ⟨q, r, y, hq, hr, hqc, hr64, hy⟩ : ∃ q r y : Nat, c / 64 = q ∧ c % 64 = r ∧ q < 4 ∧ r < 64 ∧ 2 ^ r = y := ⟨_, _, _, rfl, rfl, by omega, by omega, rfl⟩
  obtain ⟨W1, hW1⟩ : ∃ W1, W1 = w.alloc (pageO p) := ⟨_, rfl⟩
  obtain ⟨p0, p1, p2, p3, p4, p5, p6, p7, p8, p9, p10⟩ := page_var (blk_new w (pageO p))
  rw [← hW1] at p7 p8 p9 p10
  obtain ⟨W2, hW2⟩ : ∃ W2, W1.drew = W2 := ⟨_, rfl⟩
  have HW2 := Lib.hid hW2
  have HB := Lib.hid (show Below w.heap.size w W2 by rw [← hW2, hW1]; exact ((Below.refl _ w).alloc (Nat.le_refl _) (pageO p)).drew)
  have hx : ∃ x, p.wd q = x ∧ U64 x ∧ W2.cell? ⟨w.heap.size, 7 + q, none⟩ = some (.int .u64 x) := by
    rw [← hW2]
    match q, hqc with
    | 0, _ => exact ⟨_, rfl, hw.b0, p7⟩
    | 1, _ => exact ⟨_, rfl, hw.b1, p8⟩
    | 2, _ => exact ⟨_, rfl, hw.b2, p9⟩
    | 3, _ => exact ⟨_, rfl, hw.b3, p10⟩
  obtain ⟨x, hx, hxu, hxc⟩ := hx
  have hq1 : ((c : Int)) / 64 = (q : Int) := by omega
  have hq2 : Int.tdiv (c : Int) 64 = (q : Int) := by rw [Int.tdiv_eq_ediv_of_nonneg (by omega)]; exact hq1
  have hqI : (q : Int) < 4 := by omega
  have hwq : wrap64 (q : Int) = q := by unfold wrap64; omega
  have hwq' : IntKind.i64.wrap (q : Int) = q := by rw [i64_w]; exact hwq
  have hy0 : ¬ y = 0 := by
    have : 0 < 2 ^ r := Nat.pow_pos (by decide)
    omega
  have hxd0 : 0 ≤ x / (y : Int) := Int.ediv_nonneg hxu.1 (by omega)
  have hxd1 : x / (y : Int) < 18446744073709551616 := Int.lt_of_le_of_lt (Int.ediv_le_self _ hxu.1) hxu.2
  obtain ⟨z, hz⟩ : ∃ z, x / (y : Int) = z := ⟨_, rfl⟩
  have hxy : Int.tdiv x (y : Int) = z := by rw [Int.tdiv_eq_ediv_of_nonneg hxu.1]; exact hz
  rw [hz] at hxd0 hxd1
  have hwz : IntKind.u64.wrap z = z := wrap_u64_in hxd0 hxd1
  obtain ⟨u, hu⟩ : ∃ u, z % 2 = u := ⟨_, rfl⟩
  have hzu : Int.tmod z 2 = u := by rw [Int.tmod_eq_emod_of_nonneg hxd0]; exact hu
  have hwu : IntKind.u64.wrap u = u := wrap_u64_in (by omega) (by omega)
  have HX := Lib.hid (show (u == 1) = p.bit c from by
    unfold Pg.bit
    rw [hq, hr, hx, ← hu, ← hz, ← hy]
    have : ((2 ^ r : Nat) : Int) = 2 ^ r := by simp
    rw [this])
  have HBIT := Lib.hid (show Calls Try.prog 51 #[.int .i64 (c : Int)] W2 fun e w' => e = .returned (.int .u64 (y : Int)) ∧ w' = W2 by
    have := bit_s c W2
    rwa [hr, hy] at this)
  unfold pageO at hW1
  clear hw hx hxu hq hr hxd0 hxd1 p0 p1 p2 p3 p4 p5 p6 p7 p8 p9 p10 hc hy hz hu hqc hr64 hW2
  generalize p.bit c = bb at *
  unfold Pg.vals
  go_enter Try.func32, Try.ntmps32
  go_wp2
  rw [← hW1]
  clear hW1
  refine bx_tail 10 HW2.out (by kernel_rfl) (by kernel_rfl) ?_
  simp only [List.take_succ_cons, List.take_zero, List.drop_succ_cons, List.drop_zero]
  iterate 6 (refine bx_want (by kernel_rfl) (fun K hK => ?_); go_simp; refine hK _ ?_; clear hK K)
  (refine bx_want (by kernel_rfl) (fun K hK => ?_); go_simp; refine ⟨_, HBIT.out, hK _ ?_⟩; clear hK K)
  iterate 3 (refine bx_want (by kernel_rfl) (fun K hK => ?_); go_simp; refine hK _ ?_; clear hK K)
  refine bx_nil ?_
  go_wp2
  go_ret
  exact ⟨by rw [← HX.out]; rfl, HB.out⟩
def imO (im : Im) (s : Sl) : Obj := .cells (im.cells s) 31 (0, 0)
structure VI (F : Nat → Prop) (g : Nat) (im : Im) (s : Sl) (w : World) : Prop where
  at_ : w.heap[g]? = some (imO im s)
  im : ImAt F w im s
theorem VI.new {F : Nat → Prop} {im : Im} {s : Sl} {w : World} (h : ImAt F w im s) (hF : ∀ b, F b → b < w.heap.size) : VI F w.heap.size im s (w.alloc (imO im s)) :=
  ⟨blk_new w _, h.keep (fun b hb => Below.heap_alloc w _ b (hF b hb))⟩
theorem VI.keep {F : Nat → Prop} {g : Nat} {im : Im} {s : Sl} {w w' : World} (h : VI F g im s w) (hg : w'.heap[g]? = w.heap[g]?) (hk : ∀ b, F b → w'.heap[b]? = w.heap[b]?) : VI F g im s w' := ⟨hg.trans h.at_, h.im.keep hk⟩
theorem VI.cell {F : Nat → Prop} {g : Nat} {im : Im} {s : Sl} {w : World} (h : VI F g im s w) :
    w.cell? ⟨g, 0, none⟩ = some (.int .u64 im.base) ∧ w.cell? ⟨g, 1, none⟩ = some (.int .i64 im.limit) ∧ w.cell? ⟨g, 2, none⟩ = some (.int .i64 im.order) ∧ w.cell? ⟨g, 3, none⟩ = some (.int .i64 im.regions) ∧ w.cell? ⟨g, 4, none⟩ = some (.slice s.A im.mem.length s.a) ∧
    w.cell? ⟨g, 5, none⟩ = some (.slice s.B im.pages.length s.b) ∧ w.cell? ⟨g, 6, none⟩ = some (.slice s.C im.pairs.length s.c) ∧ w.cell? ⟨g, 7, none⟩ = some (.slice s.D im.heads.length s.d) ∧ w.cell? ⟨g, 8, none⟩ = some (.slice s.E im.parts.length s.e) :=
  ⟨blk_cell h.at_ 0, blk_cell h.at_ 1, blk_cell h.at_ 2, blk_cell h.at_ 3, blk_cell h.at_ 4, blk_cell h.at_ 5, blk_cell h.at_ 6, blk_cell h.at_ 7, blk_cell h.at_ 8⟩
theorem VI.page {F : Nat → Prop} {g : Nat} {im : Im} {s : Sl} {w : World} (h : VI F g im s w) (i : Nat) (hi : i < im.pages.length) : ∃ ad, s.B = some ad ∧ F ad.block ∧
    w.cell? (ad.add (i * 11)) = some (.int .i64 (im.pg i).kd) ∧ w.cell? ⟨(ad.add (i * 11)).block, (ad.add (i * 11)).off + 1, none⟩ = some (.int .i64 (im.pg i).od) ∧ w.cell? ⟨(ad.add (i * 11)).block, (ad.add (i * 11)).off + 2, none⟩ = some (.int .i64 (im.pg i).cl) ∧ w.cell? ⟨(ad.add (i * 11)).block, (ad.add (i * 11)).off + 3, none⟩ = some (.int .i64 (im.pg i).lv) ∧ w.cell? ⟨(ad.add (i * 11)).block, (ad.add (i * 11)).off + 4, none⟩ = some (.int .i64 (im.pg i).nx) ∧ w.cell? ⟨(ad.add (i * 11)).block, (ad.add (i * 11)).off + 5, none⟩ = some (.int .i64 (im.pg i).pv) ∧ w.cell? ⟨(ad.add (i * 11)).block, (ad.add (i * 11)).off + 6, none⟩ = some (.int .i64 (im.pg i).fs) ∧ w.cell? ⟨(ad.add (i * 11)).block, (ad.add (i * 11)).off + 7, none⟩ = some (.int .u64 (im.pg i).b0) ∧ w.cell? ⟨(ad.add (i * 11)).block, (ad.add (i * 11)).off + 8, none⟩ = some (.int .u64 (im.pg i).b1) ∧ w.cell? ⟨(ad.add (i * 11)).block, (ad.add (i * 11)).off + 9, none⟩ = some (.int .u64 (im.pg i).b2) ∧ w.cell? ⟨(ad.add (i * 11)).block, (ad.add (i * 11)).off + 10, none⟩ = some (.int .u64 (im.pg i).b3) := by
  obtain ⟨ad, e, hF, hx⟩ := h.im.pages (by omega)
  have h0 := hx i hi
  have h1 : ∀ j v, (im.pg i).cells[j + 1]? = some v → w.cell? ⟨(ad.add (i * 11)).block, (ad.add (i * 11)).off + (j + 1), none⟩ = some v := by
    intro j v hv
    rw [← Addr.add_succ', Addr.add_add]
    exact h0 (j + 1) v hv
  exact ⟨ad, e, hF, h0 0 _ rfl, h1 0 _ rfl, h1 1 _ rfl, h1 2 _ rfl, h1 3 _ rfl, h1 4 _ rfl, h1 5 _ rfl, h1 6 _ rfl, h1 7 _ rfl, h1 8 _ rfl, h1 9 _ rfl⟩
section
variable {F : Nat → Prop} {im : Im} {s : Sl} {w : World}
def DocP (w : World) (v : Value) (e : Ending) (w' : World) : Prop := e = .returned v ∧ Below w.heap.size w w'
set_option maxRecDepth 100000 in
theorem open_d (h : ImAt F w im s) (hF : ∀ b, F b → b < w.heap.size) (i : Nat) (hi : i < im.pages.length) (k : Int) :
    Calls Try.prog 73 #[.agg (im.cells s), .int .i64 (i : Int), .int .i64 k] w (DocP w (.bool (im.openB i k))) := by
  obtain ⟨A, a, B, b, C, c, D, d, E, e⟩ := s
  have HB := Lib.hid (show Below w.heap.size w (w.alloc (imO im ⟨A, a, B, b, C, c, D, d, E, e⟩)) from (Below.refl _ w).alloc (Nat.le_refl _) _)
  have hl := len_i64 h.wf
  obtain ⟨ad, he, -, p0, p1, -⟩ := (VI.new h hF).page i hi
  have hiI : (i : Int) < (im.pages.length : Int) := by omega
  dsimp only at he
  subst he
  unfold imO Im.cells at p0 p1 HB
  unfold Im.cells
  clear h hF
  have HO := Lib.hid (show im.openB i k = ((im.pg i).kd == 0 && (im.pg i).od == k) from rfl)
  rw [HO.out]
  clear HO
  generalize (im.pg i).kd = kd at *
  generalize (im.pg i).od = od at *
  by_cases h0 : kd = 0
  · have d0 : (kd == 0) = true := by simpa using h0
    have H0 := Lib.hid h0
    clear h0
    by_cases h1 : od = k
    · have d1 : (od == k) = true := by simpa using h1
      have H1 := Lib.hid h1
      clear h1
      go_enter Try.func73, Try.ntmps73
      go_wp2
      go_ret
      exact ⟨rfl, HB.out⟩
    · have d1 : (od == k) = false := by simpa using h1
      have H1 := Lib.hid h1
      clear h1
      go_enter Try.func73, Try.ntmps73
      go_wp2
      go_ret
      exact ⟨rfl, HB.out⟩
  · have d0 : (kd == 0) = false := by simpa using h0
    have H0 := Lib.hid h0
    clear h0
    go_enter Try.func73, Try.ntmps73
    go_wp2
    go_ret
    exact ⟨rfl, HB.out⟩
set_option maxRecDepth 100000 in
set_option maxHeartbeats 4000000 in
theorem room_d (h : ImAt F w im s) (hF : ∀ b, F b → b < w.heap.size) (i : Nat) (hi : i < im.pages.length) (hc0 : 0 ≤ (im.pg i).cl) (hc7 : (im.pg i).cl ≤ 7) (k : Int) :
    Calls Try.prog 76 #[.agg (im.cells s), .int .i64 (i : Int), .int .i64 k] w (DocP w (.bool (im.roomB i k))) := by
  obtain ⟨A, a, B, b, C, c, D, d, E, e⟩ := s
  have hl := len_i64 h.wf
  obtain ⟨ad, he, hFa, p0, p1, p2, p3, p4, p5, p6, p7, p8, p9, p10⟩ := (VI.new h hF).page i hi
  obtain ⟨-, -, -, -, -, c5, -, -, -⟩ := (VI.new h hF).cell
  have hiI : (i : Int) < (im.pages.length : Int) := by omega
  dsimp only at he
  subst he
  dsimp only at c5
  obtain ⟨WA, hWA⟩ : ∃ W, w.alloc (imO im ⟨A, a, some ad, b, C, c, D, d, E, e⟩) = W := ⟨_, rfl⟩
  obtain ⟨W1, hW1⟩ : ∃ W, WA.alloc (pageO (im.pg i)) = W := ⟨_, rfl⟩
  have hs1 : WA.heap.size = w.heap.size + 1 := by rw [← hWA]; simp
  have hB1 : Below w.heap.size w WA := by rw [← hWA]; exact (Below.refl _ w).alloc (Nat.le_refl _) _
  have hB2 : Below w.heap.size w W1 := by rw [← hW1]; exact hB1.alloc (by omega) _
  have HB := Lib.hid (hB2.drew)
  have HB2 := Lib.hid hB2
  have hpv := page_var (w := W1) (g := WA.heap.size) (p := im.pg i) (by rw [← hW1]; exact blk_new WA _)
  rw [hs1] at hpv
  obtain ⟨q0, q1, q2, q3, q4, q5, q6, q7, q8, q9, q10⟩ := hpv
  have HCELL := Lib.hid (cells_d (im.pg i) hc0 hc7 W1.drew)
  have HLT := Lib.hid (show w.heap.size + 1 < W1.drew.heap.size by rw [← hW1]; simp; omega)
  have HPV := Lib.hid (show ∀ wx : World, wx.heap[w.heap.size + 1]? = W1.drew.heap[w.heap.size + 1]? → _ from fun wx hx => page_var (w := wx) (g := w.heap.size + 1) (p := im.pg i) (hx.trans (by rw [← hW1, ← hs1]; exact blk_new WA _)))
  have HR : im.roomB i k = ((im.pg i).kd == 4 && ((im.pg i).cl == k && decide ((im.pg i).lv < cellsN (im.pg i).cl))) := rfl
  rw [HR]
  clear HR
  rw [hWA] at c5 p0 p1 p2 p3 p4 p5 p6 p7 p8 p9 p10
  unfold imO Im.cells at hWA
  unfold Im.cells
  unfold pageO at hW1
  clear h hF hB1 hB2 hc0 hc7 hFa
  generalize hpg : im.pg i = p at *
  clear hpg
  obtain ⟨kd, od, cl, lv, nx, pv, fs, b0, b1, b2, b3⟩ := p
  unfold Pg.vals at HCELL
  dsimp only at *
  generalize cellsN cl = m at *
  by_cases h0 : kd = 4
  · have d0 : (kd == 4) = true := by simpa using h0
    have H0 := Lib.hid h0
    clear h0
    by_cases h1 : cl = k
    · have d1 : (cl == k) = true := by simpa using h1
      clear h1
      go_enter Try.func76, Try.ntmps76
      go_upto_region 2 with (fail)
      clear p0 p1 p2 p3 p4 p5 p6 p7 p8 p9 p10 hWA hW1 c5
      go_region_law
        (go_simp; go_at_call 31; refine HCELL.out.mono ?_; rintro e w5 ⟨rfl, hb5⟩; have HB5 := Lib.hid hb5; obtain ⟨r0, r1, r2, r3, r4, r5, r6, r7, r8, r9, r10⟩ := HPV.out w5 (hb5.block _ HLT.out); clear hb5)
      all_goals
        go_wp2
        go_ret
        exact ⟨by first | (rw [d0, d1]; rfl) | (rw [d0]; rfl), HB.out.trans (HB5.out.mono HB.out.size)⟩
    · have d1 : (cl == k) = false := by simpa using h1
      clear h1
      go_enter Try.func76, Try.ntmps76
      go_upto_region 2 with (fail)
      clear p0 p1 p2 p3 p4 p5 p6 p7 p8 p9 p10 hWA hW1 c5
      go_quiet (fail)
      go_wp2
      go_ret
      exact ⟨by first | (rw [d0, d1]; rfl) | (rw [d0]; rfl), pw_below_drewN HB2.out _⟩
  · have d0 : (kd == 4) = false := by simpa using h0
    have H0 := Lib.hid h0
    clear h0
    go_enter Try.func76, Try.ntmps76
    go_upto_region 2 with (fail)
    clear p0 p1 p2 p3 p4 p5 p6 p7 p8 p9 p10 hWA hW1 c5
    go_quiet (fail)
    go_wp2
    go_ret
    exact ⟨by first | (rw [d0, d1]; rfl) | (rw [d0]; rfl), pw_below_drewN HB2.out _⟩
def dsum (mem : List Int) (off : Nat) : Nat → Int
  | 0 => 0
  | d + 1 => dsum mem off d * 256 + mem.getD (off + (7 - d)) 0
theorem dsum_psum (mem : List Int) (off : Nat) : ∀ d, d ≤ 8 → psum mem off 8 = psum mem off (8 - d) + dsum mem off d * 256 ^ (8 - d)
  | 0, _ => by simp [dsum]
  | d + 1, h => by
    rw [dsum_psum mem off d (by omega), dsum]
    obtain ⟨k, hk⟩ : ∃ k, 8 - (d + 1) = k := ⟨_, rfl⟩
    rw [hk, show 8 - d = k + 1 by omega, show 7 - d = k by omega, psum, Int.pow_succ]
    generalize (256 : Int) ^ k = q
    generalize mem.getD (off + k) 0 = b
    generalize dsum mem off d = v
    rw [Int.add_mul, Int.mul_assoc v 256 q, Int.mul_comm 256 q]
    omega
theorem dsum_8 (mem : List Int) (off : Nat) : dsum mem off 8 = wordM mem off := by
  have := dsum_psum mem off 8 (Nat.le_refl _)
  have e0 : psum mem off 0 = 0 := rfl
  rw [Nat.sub_self, e0, Int.pow_zero, Int.mul_one, Int.zero_add] at this
  exact this.symm
theorem byte_bd {mem : List Int} (h : ∀ x ∈ mem, 0 ≤ x ∧ x < 256) (j : Nat) : 0 ≤ mem.getD j 0 ∧ mem.getD j 0 < 256 := by
  rw [List.getD_eq_getElem?_getD]
  by_cases hl : j < mem.length
  · rw [List.getElem?_eq_getElem hl]
    exact h _ (List.getElem_mem hl)
  · rw [List.getElem?_eq_none (by omega)]
    exact ⟨by simp, by simp⟩
theorem dsum_bd {mem : List Int} (h : ∀ x ∈ mem, 0 ≤ x ∧ x < 256) (off : Nat) : ∀ d, 0 ≤ dsum mem off d ∧ dsum mem off d < 256 ^ d
  | 0 => ⟨by simp [dsum], by simp [dsum]⟩
  | d + 1 => by
    have ih := dsum_bd h off d
    have hb := byte_bd h (off + (7 - d))
    rw [dsum, Int.pow_succ]
    generalize (256 : Int) ^ d = q at *
    generalize dsum mem off d = v at *
    generalize mem.getD (off + (7 - d)) 0 = b at *
    omega
theorem dsum_step {mem : List Int} (h : ∀ x ∈ mem, 0 ≤ x ∧ x < 256) (off : Nat) {d : Nat} (hd : d < 8) : IntKind.u64.wrap (dsum mem off d * 256) = dsum mem off d * 256 ∧ IntKind.u64.wrap (dsum mem off d * 256 + mem.getD (off + (7 - d)) 0) = dsum mem off (d + 1) := by
  have h1 := dsum_bd h off d
  have h2 := dsum_bd h off (d + 1)
  have hp : (256 : Int) ^ (d + 1) ≤ 18446744073709551616 := by
    have : (256 : Nat) ^ (d + 1) ≤ 256 ^ 8 := Nat.pow_le_pow_right (by decide) (by omega)
    have e : ((256 ^ (d + 1) : Nat) : Int) ≤ ((256 ^ 8 : Nat) : Int) := Int.ofNat_le.2 this
    simpa using e
  have hb := byte_bd h (off + (7 - d))
  have e : dsum mem off (d + 1) = dsum mem off d * 256 + mem.getD (off + (7 - d)) 0 := rfl
  rw [e] at h2
  exact ⟨wrap_u64_in (by omega) (by omega), by rw [← e]; exact wrap_u64_in (by omega) (by omega)⟩
set_option maxRecDepth 100000 in
set_option maxHeartbeats 4000000 in
theorem word_d (h : ImAt F w im s) (hF : ∀ b, F b → b < w.heap.size) (off : Nat) (ho : off + 8 ≤ im.mem.length) :
    Calls Try.prog 75 #[.agg (im.cells s), .int .u64 (off : Int)] w (DocP w (.int .u64 (wordM im.mem off))) := by
  obtain ⟨A, a, B, b, C, c, D, d, E, e⟩ := s
  have hl := h.wf.lmem
  have HBY := Lib.hid h.wf.mem
  obtain ⟨ad, he, hFa, hx⟩ := h.mem (by omega)
  dsimp only at he
  subst he
  obtain ⟨-, -, -, -, c4, -, -, -, -⟩ := (VI.new h hF).cell
  have hx2 : ∀ i, i < im.mem.length → (w.alloc (imO im ⟨some ad, a, B, b, C, c, D, d, E, e⟩)).cell? (ad.add i) = some (.int .u8 (im.mem.getD i 0)) := fun i hi => (cell_keep (Below.heap_alloc w _ _ (hF _ hFa))).trans (hx i hi)
  dsimp only at c4
  obtain ⟨WA, hWA⟩ : ∃ W, w.alloc (imO im ⟨some ad, a, B, b, C, c, D, d, E, e⟩) = W := ⟨_, rfl⟩
  have HB := Lib.hid (show Below w.heap.size w WA by rw [← hWA]; exact (Below.refl _ w).alloc (Nat.le_refl _) _)
  rw [hWA] at c4 hx2
  have HX := Lib.hid hx2
  unfold imO Im.cells at hWA
  unfold Im.cells
  have HO := Lib.hid ho
  have HC4 := Lib.hid c4
  clear h hF hFa hx hx2 ho c4
  go_enter Try.func75, Try.ntmps75
  go_wp2
  clear hWA
  go_loopg [5, 6] 8 (fun g v u wr => ∃ (k : Nat) (x : Int), v = .int .u64 x ∧ u = .int .u64 (g : Int) ∧ Aside0 (x = dsum im.mem off k) ∧ Aside0 (k + g = 8) ∧ wr = WA)
  case atStart => exact ⟨0, 0, rfl, rfl, ⟨rfl⟩, ⟨rfl⟩, rfl⟩
  case round =>
    obtain ⟨k, x, rfl, rfl, hx, hkg, rfl⟩ := hrel
    by_cases hk : 0 < gk
    · have hkI : (0 : Int) < (gk : Int) := by omega
      have hkd : decide ((0 : Int) < (gk : Int)) = true := decide_eq_true hkI
      have hkd' : decide (0 < gk) = true := decide_eq_true hk
      obtain ⟨g1, rfl⟩ : ∃ g1, gk = g1 + 1 := ⟨gk - 1, by omega⟩
      have h7 : g1 = 7 - k := by have := hkg.out; omega
      have hk8 : k < 8 := by have := hkg.out; omega
      obtain ⟨m, hm⟩ : ∃ m, m = off + g1 := ⟨_, rfl⟩
      have hml : m < im.mem.length := by have := HO.out; omega
      have hmI : (m : Int) < (im.mem.length : Int) := by omega
      obtain ⟨y, hy⟩ : ∃ y, im.mem.getD m 0 = y := ⟨_, rfl⟩
      have hyc : wr.cell? (ad.add m) = some (.int .u8 y) := by rw [HX.out m hml, hy]
      have hyb : 0 ≤ y ∧ y < 256 := by rw [← hy]; exact byte_bd HBY.out m
      have hwy : IntKind.u64.wrap y = y := wrap_u64_in hyb.1 (by omega)
      have hst := dsum_step HBY.out off hk8
      rw [← h7, ← hm, hy, ← hx.out] at hst
      obtain ⟨t1, t2⟩ := hst
      have a1 : IntKind.u64.wrap ((off : Int) + ((g1 : Int) + 1)) = (m : Int) + 1 := by rw [hm, wrap_u64]; omega
      have a2 : IntKind.u64.wrap ((m : Int) + 1 - 1) = (m : Int) := by rw [wrap_u64]; omega
      have a3 : IntKind.u64.wrap ((g1 : Int) + 1 - 1) = (g1 : Int) := by rw [wrap_u64]; omega
      have a4 : IntKind.u64.wrap ((m : Int)) = (m : Int) := by rw [wrap_u64]; omega
      have a5 : IntKind.u64.wrap ((g1 : Int)) = (g1 : Int) := by rw [wrap_u64]; omega
      have c4 := HC4.out
      have T2 := Lib.hid t2
      have HG := Lib.hid (show k + 1 + g1 = 8 by have := hkg.out; omega)
      obtain ⟨x1, hx1⟩ : ∃ x1, dsum im.mem off (k + 1) = x1 := ⟨_, rfl⟩
      rw [hx1] at t2
      have HX1 := Lib.hid hx1
      clear hk hm h7 hk8 hy hyb hx1
      go_wp2
      go_roundg g1
      case measure => omega
      case rel => exact ⟨k + 1, x1, rfl, rfl, ⟨HX1.out.symm⟩, ⟨HG.out⟩, rfl⟩
    · have hkd : decide ((0 : Int) < (gk : Int)) = false := decide_eq_false (by omega)
      have hkd' : decide (0 < gk) = false := decide_eq_false hk
      have HK8 := Lib.hid (show k = 8 by have := hkg.out; omega)
      clear hk
      go_wp2
      go_ret
      refine ⟨?_, HB.out⟩
      have e : x = wordM im.mem off := by rw [hx.out, HK8.out, dsum_8]
      rw [← e]
      rfl
set_option maxRecDepth 100000 in
set_option maxHeartbeats 4000000 in
theorem number_d (h : ImAt F w im s) (hF : ∀ b, F b → b < w.heap.size) (p : Int) (hn : im.pages.length ≤ 1024) (htop : im.base ≤ 9223372036854775808) :
    Calls Try.prog 74 #[.agg (im.cells s), .int .u64 p] w (DocP w (.int .i64 (doc (numS im p)))) := by
  obtain ⟨A, a, B, b, C, c, D, d, E, e⟩ := s
  have hb0 := h.wf.base.1
  have HI := Lib.hid (VI.new h hF)
  obtain ⟨c0, -, -, -, -, c5, -, -, -⟩ := HI.out.cell
  dsimp only at c0 c5
  obtain ⟨WA, hWA⟩ : ∃ W, w.alloc (imO im ⟨A, a, B, b, C, c, D, d, E, e⟩) = W := ⟨_, rfl⟩
  have HB := Lib.hid (show Below w.heap.size w WA by rw [← hWA]; exact (Below.refl _ w).alloc (Nat.le_refl _) _)
  rw [hWA] at c0 c5
  unfold imO Im.cells at hWA
  unfold Im.cells
  have HB0 := Lib.hid hb0
  have HN := Lib.hid hn
  have HT := Lib.hid htop
  clear h hF hb0 hn htop
  go_enter Try.func74, Try.ntmps74
  go_wp2
  clear hWA
  go_loopg [5] im.pages.length (fun g v wr => ∃ k : Nat, v = .int .i64 (k : Int) ∧ Aside0 (k + g = im.pages.length) ∧ Aside0 (scan (fun i => if p = im.base + 4096 * (i : Int) then some (i : Int) else none) g k = numS im p) ∧ wr = WA)
  case atStart => exact ⟨0, rfl, ⟨by omega⟩, ⟨rfl⟩, rfl⟩
  case round =>
    obtain ⟨k, rfl, hkg, hsc, rfl⟩ := hrel
    by_cases hk : k < im.pages.length
    · have hkI : (k : Int) < (im.pages.length : Int) := by omega
      have hkd : decide ((k : Int) < (im.pages.length : Int)) = true := decide_eq_true hkI
      have hkd' : decide (k < im.pages.length) = true := decide_eq_true hk
      obtain ⟨g1, rfl⟩ : ∃ g1, gk = g1 + 1 := ⟨gk - 1, by have := hkg.out; omega⟩
      have hk1024 : (k : Int) < 1024 := by have := HN.out; omega
      have w1 : IntKind.u64.wrap (k : Int) = (k : Int) := wrap_u64_in (by omega) (by omega)
      have w2 : IntKind.u64.wrap (4096 * (k : Int)) = 4096 * (k : Int) := wrap_u64_in (by omega) (by omega)
      have w3 : IntKind.u64.wrap (im.base + 4096 * (k : Int)) = im.base + 4096 * (k : Int) := by
        have := HB0.out
        have := HT.out
        exact wrap_u64_in (by omega) (by omega)
      have w4 : wrap64 ((k : Int) + 1) = (k : Int) + 1 := by unfold wrap64; omega
      by_cases hp : p = im.base + 4096 * (k : Int)
      · have hd : (p == im.base + 4096 * (k : Int)) = true := by rw [beq_iff_eq]; exact hp
        have HX := Lib.hid (show numS im p = some (k : Int) from hsc.out.symm.trans (scan_bad (if_pos hp)))
        clear hk hp
        go_wp2
        go_ret
        exact ⟨by rw [HX.out]; rfl, HB.out⟩
      · have hd : (p == im.base + 4096 * (k : Int)) = false := by rw [beq_eq_false_iff_ne]; exact hp
        have HX := Lib.hid (show _ = numS im p from (scan_ok (if_neg hp)).symm.trans hsc.out)
        have HG := Lib.hid (show k + 1 + g1 = im.pages.length by have := hkg.out; omega)
        clear hk hp
        go_wp2
        go_roundg g1
        case measure => omega
        case rel => exact ⟨k + 1, by simp, ⟨HG.out⟩, ⟨HX.out⟩, rfl⟩
    · have hkd : decide ((k : Int) < (im.pages.length : Int)) = false := decide_eq_false (by omega)
      have hkd' : decide (k < im.pages.length) = false := decide_eq_false hk
      have HX := Lib.hid (show numS im p = none by have h := hsc.out; rw [show gk = 0 by have := hkg.out; omega, scan] at h; exact h.symm)
      clear hk
      go_wp2
      go_ret
      exact ⟨by rw [HX.out]; rfl, HB.out⟩
end
end Go.Proofs.Ytkgedpcipaogjaa.WB
end
section
namespace Go.Proofs.Ytkgedpcipaogjaa.WB
open Go Go.RowKit Go.Proofs.YtkgedpcipaogjaaW.PrintWords Go.Proofs.YtkgedpcipaogjaaW.PrintLast Go.Proofs.YtkgedpcipaogjaaW.PrintMore
set_option linter.unusedVariables false
def Gr (W : World) (w : World) : Prop := Below W.heap.size W w
theorem qg_region {P : Program} {id : Nat} {Q : Exit → Act → World → Prop} {a : Act} {w : World} {l : List Oper} (hm : P.follows .mixedOrders = true) (hB : Region.lexB .any l.toArray = true)
    (h : Aside0 (wpQuiet P l.toArray (Gr w) (fun a' => ∀ w', Gr w w' → Q .normal a' w') l a)) : (Code.region id l.toArray true).wp P Q a w :=
  wp_region_quiet (C := Gr w) hm hB ((Below.refl _ w).drew) (by simpa using h.out)
theorem qg_skip {P : Program} {ops : Array Oper} {C : World → Prop} {Q : Act → Prop} {a : Act} {o : Oper} {rest : List Oper} (hw : Region.wanted o (yielded ops a.tmps) = false) (h : Aside0 (wpQuiet P ops C Q rest (a.put o.dst undef))) : Aside0 (wpQuiet P ops C Q (o :: rest) a) :=
  ⟨wpQuiet_step fun K hK => by rw [if_neg (by rw [hw]; exact Bool.false_ne_true)]; exact hK _ h.out⟩
theorem qg_want {P : Program} {ops : Array Oper} {C : World → Prop} {Q : Act → Prop} {a : Act} {o : Oper} {rest : List Oper} (hw : Region.wanted o (yielded ops a.tmps) = true) (h : ∀ K : Act → Prop, (∀ a, Aside0 (wpQuiet P ops C Q rest a) → K a) → o.quiet P a C K) : Aside0 (wpQuiet P ops C Q (o :: rest) a) :=
  ⟨wpQuiet_step fun K hK => by rw [if_pos hw]; exact h K (fun a ha => hK a ha.out)⟩
theorem qg_nil {P : Program} {ops : Array Oper} {C : World → Prop} {Q : Act → Prop} {a : Act} (h : Q a) : Aside0 (wpQuiet P ops C Q [] a) := ⟨wpQuiet_nil h⟩
theorem qg_calls {P : Program} {f : FuncId} {args : Array Value} {W w : World} {v : Value} (hw : Gr W w) (h : Calls P f args w fun e w' => e = .returned v ∧ Below w.heap.size w w') : Calls P f args w fun e w' => e = .returned v ∧ Gr W w' :=
  h.mono fun _ _ ⟨he, hb⟩ => ⟨he, hw.trans (hb.mono hw.size)⟩
end Go.Proofs.Ytkgedpcipaogjaa.WB
end
section
namespace Go.Proofs.Ytkgedpcipaogjaa.WB
open Go Go.RowKit Go.Proofs.YtkgedpcipaogjaaW.PrintWords Go.Proofs.YtkgedpcipaogjaaW.PrintLast Go.Proofs.YtkgedpcipaogjaaW.PrintMore
set_option linter.unusedVariables false
set_option linter.unusedSimpArgs false
theorem box_facts {F : Nat → Prop} {im : Im} {s : Sl} {w WA : World} (h : ImAt F w im s) (hF : ∀ b, F b → b < w.heap.size) (hWA : w.alloc (imO im s) = WA) :
    WA.heap.size = w.heap.size + 1 ∧ (∀ wr, Below WA.heap.size WA wr → Below w.heap.size w wr) ∧ (∀ wr, Below WA.heap.size WA wr → VI F w.heap.size im s wr) := by
  have hs : WA.heap.size = w.heap.size + 1 := by rw [← hWA]; simp
  have hb : Below w.heap.size w WA := by rw [← hWA]; exact (Below.refl _ w).alloc (Nat.le_refl _) _
  refine ⟨hs, fun wr hr => hb.trans (hr.mono (by omega)), fun wr hr => ?_⟩
  have hv : VI F w.heap.size im s WA := by rw [← hWA]; exact VI.new h hF
  exact hv.keep (hr.block _ (by omega)) (fun b hb => hr.block b (by have := hF b hb; omega))
theorem pg_facts {WA wr W1 : World} {p : Pg} (hb : Below WA.heap.size WA wr) (hW : wr.alloc (pageO p) = W1) :
    wr.heap.size < W1.heap.size ∧ Below WA.heap.size WA W1 ∧ ∀ wx : World, wx.heap[wr.heap.size]? = W1.heap[wr.heap.size]? → wx.cell? ⟨wr.heap.size, 0, none⟩ = some (.int .i64 p.kd) ∧ wx.cell? ⟨wr.heap.size, 1, none⟩ = some (.int .i64 p.od) ∧ wx.cell? ⟨wr.heap.size, 2, none⟩ = some (.int .i64 p.cl) ∧ wx.cell? ⟨wr.heap.size, 3, none⟩ = some (.int .i64 p.lv) ∧ wx.cell? ⟨wr.heap.size, 4, none⟩ = some (.int .i64 p.nx) ∧ wx.cell? ⟨wr.heap.size, 5, none⟩ = some (.int .i64 p.pv) ∧ wx.cell? ⟨wr.heap.size, 6, none⟩ = some (.int .i64 p.fs) ∧ wx.cell? ⟨wr.heap.size, 7, none⟩ = some (.int .u64 p.b0) ∧ wx.cell? ⟨wr.heap.size, 8, none⟩ = some (.int .u64 p.b1) ∧ wx.cell? ⟨wr.heap.size, 9, none⟩ = some (.int .u64 p.b2) ∧ wx.cell? ⟨wr.heap.size, 10, none⟩ = some (.int .u64 p.b3) := by
  refine ⟨by rw [← hW]; simp, by rw [← hW]; exact hb.alloc hb.size _, fun wx hx => page_var (hx.trans ?_)⟩
  rw [← hW]
  exact blk_new wr _
theorem in_i (v lo hi : Int) (w : World) : Calls Try.prog 71 #[.int .i64 v, .int .i64 lo, .int .i64 hi] w fun e w' => e = .returned (.bool (inB v lo hi)) ∧ w' = w := in_s rfl w
def d3F (im : Im) (i : Nat) : Option Int := if rangeB im.order ((im.n : Int) - 1) (im.pg i) = true then none else some i
def d5F (im : Im) (i : Nat) : Option Int := if (im.pg i).kd = 4 ∧ slabB (im.pg i) = false then some i else none
def d11F (im : Im) (i : Nat) : Option Int := if (im.pg i).kd = 4 ∧ (im.pg i).lv = cellsN (im.pg i).cl ∧ ¬ ((im.pg i).nx = -1 ∧ (im.pg i).pv = -1) then some i else none
section
variable {F : Nat → Prop} {im : Im} {s : Sl} {w : World}
set_option maxRecDepth 100000 in
set_option maxHeartbeats 4000000 in
theorem ranges_d (h : ImAt F w im s) (hF : ∀ b, F b → b < w.heap.size) : Calls Try.prog 42 #[.agg (im.cells s)] w (DocP w (.int .i64 (doc (R3 im)))) := by
  obtain ⟨A, a, B, b, C, c, D, d, E, e⟩ := s
  obtain ⟨WA, hWA⟩ : ∃ W, w.alloc (imO im ⟨A, a, B, b, C, c, D, d, E, e⟩) = W := ⟨_, rfl⟩
  obtain ⟨hsa, hbl, hvl⟩ := box_facts h hF hWA
  have HBL := Lib.hid hbl
  have HVL := Lib.hid hvl
  have HWF := Lib.hid h.wf
  have hl := len_i64 h.wf
  obtain ⟨c0, c1, c2, c3, c4, c5, c6, c7, c8⟩ := (hvl WA (Below.refl _ _)).cell
  dsimp only at c0 c1 c2 c3 c4 c5 c6 c7 c8
  unfold imO Im.cells at hWA
  unfold Im.cells
  clear h hF hvl hbl
  have hlw : wrap64 ((im.pages.length : Int) - 1) = (im.pages.length : Int) - 1 := by unfold wrap64; omega
  go_enter Try.func42, Try.ntmps42
  go_wp2
  clear hWA c0 c1 c2 c3 c4 c5 c6 c7 c8
  go_loopg [4] im.pages.length (fun g v wr => ∃ k : Nat, v = .int .i64 (k : Int) ∧ Aside0 (k + g = im.pages.length) ∧ Aside0 (Below WA.heap.size WA wr) ∧ Aside0 (scan (d3F im) g k = R3 im))
  case atStart => exact ⟨0, rfl, ⟨by omega⟩, ⟨Below.refl _ _⟩, ⟨rfl⟩⟩
  case round =>
    obtain ⟨k, rfl, hkg, hbe, hsc⟩ := hrel
    obtain ⟨-, -, -, -, -, c5, -, -, -⟩ := (HVL.out wr hbe.out).cell
    dsimp only at c5
    by_cases hk : k < im.pages.length
    case neg =>
      have hkd : decide ((k : Int) < (im.pages.length : Int)) = false := decide_eq_false (by omega)
      have hkd' : decide (k < im.pages.length) = false := decide_eq_false hk
      have HX := Lib.hid (show R3 im = none by have h := hsc.out; rw [show gk = 0 by have := hkg.out; omega, scan] at h; exact h.symm)
      clear hk
      go_wp2
      go_ret
      exact ⟨by rw [HX.out]; rfl, HBL.out _ hbe.out⟩
    have hkI : (k : Int) < (im.pages.length : Int) := by omega
    have hkd : decide ((k : Int) < (im.pages.length : Int)) = true := decide_eq_true hkI
    have hkd' : decide (k < im.pages.length) = true := decide_eq_true hk
    obtain ⟨g1, rfl⟩ : ∃ g1, gk = g1 + 1 := ⟨gk - 1, by have := hkg.out; omega⟩
    obtain ⟨ad, he, -, p0, p1, p2, p3, p4, p5, p6, p7, p8, p9, p10⟩ := (HVL.out wr hbe.out).page k hk
    dsimp only at he
    subst he
    obtain ⟨W1, hW1⟩ : ∃ W, wr.alloc (pageO (im.pg k)) = W := ⟨_, rfl⟩
    obtain ⟨hlt1, hb1, hpv⟩ := pg_facts hbe.out hW1
    have HB1 := Lib.hid hb1
    have HLT1 := Lib.hid hlt1
    have HPV := Lib.hid hpv
    obtain ⟨q0, q1, q2, q3, q4, q5, q6, q7, q8, q9, q10⟩ := hpv W1 rfl
    obtain ⟨d0, d1, d2, d3, d4, d5, d6, d7, d8⟩ := (HVL.out W1 hb1).cell
    dsimp only at d0 d1 d2 d3 d4 d5 d6 d7 d8
    have HK := Lib.hid hk
    have HG := Lib.hid (show k + 1 + g1 = im.pages.length by have := hkg.out; omega)
    have HBAD := Lib.hid (show ∀ pl, d3F im k = some pl → R3 im = some pl from fun pl h => hsc.out.symm.trans (scan_bad h))
    have HGOOD := Lib.hid (show d3F im k = none → scan (d3F im) g1 (k + 1) = R3 im from fun h => (scan_ok h).symm.trans hsc.out)
    unfold pageO at hW1
    clear hk hbe hb1 hlt1 hpv hsc hkg
    have hR : d3F im k = if rangeB im.order ((im.pages.length : Int) - 1) (im.pg k) = true then none else some (k : Int) := rfl
    rw [hR] at HBAD HGOOD
    clear hR
    generalize im.pg k = p at *
    cases h0 : inB p.kd 0 4 with
    | false =>
      have HX := Lib.hid (show R3 im = some (k : Int) from HBAD.out _ (if_neg (by unfold rangeB; simp [h0])))
      go_wp2_with (go_at_call 71; refine (in_i _ _ _ _).mono ?_; rintro e w5 ⟨rfl, rfl⟩)
      go_ret
      exact ⟨by rw [HX.out]; rfl, HBL.out _ HB1.out⟩
    | true =>
    cases h1 : inB p.od 0 im.order with
    | false =>
      have HX := Lib.hid (show R3 im = some (k : Int) from HBAD.out _ (if_neg (by unfold rangeB; simp [h0, h1])))
      go_wp2_with (go_at_call 71; refine (in_i _ _ _ _).mono ?_; rintro e w5 ⟨rfl, rfl⟩)
      go_ret
      exact ⟨by rw [HX.out]; rfl, HBL.out _ HB1.out⟩
    | true =>
    cases h2 : inB p.cl 0 7 with
    | false =>
      have HX := Lib.hid (show R3 im = some (k : Int) from HBAD.out _ (if_neg (by unfold rangeB; simp [h0, h1, h2])))
      go_wp2_with (go_at_call 71; refine (in_i _ _ _ _).mono ?_; rintro e w5 ⟨rfl, rfl⟩)
      go_ret
      exact ⟨by rw [HX.out]; rfl, HBL.out _ HB1.out⟩
    | true =>
    cases h3 : inB p.lv 0 256 with
    | false =>
      have HX := Lib.hid (show R3 im = some (k : Int) from HBAD.out _ (if_neg (by unfold rangeB; simp [h0, h1, h2, h3])))
      go_wp2_with (go_at_call 71; refine (in_i _ _ _ _).mono ?_; rintro e w5 ⟨rfl, rfl⟩)
      go_ret
      exact ⟨by rw [HX.out]; rfl, HBL.out _ HB1.out⟩
    | true =>
    cases h4 : inB p.nx (-1) ((im.pages.length : Int) - 1) with
    | false =>
      have HX := Lib.hid (show R3 im = some (k : Int) from HBAD.out _ (if_neg (by unfold rangeB; simp [h0, h1, h2, h3, h4])))
      go_wp2_with (go_at_call 71; refine (in_i _ _ _ _).mono ?_; rintro e w5 ⟨rfl, rfl⟩)
      go_ret
      exact ⟨by rw [HX.out]; rfl, HBL.out _ HB1.out⟩
    | true =>
    cases h5 : inB p.pv (-1) ((im.pages.length : Int) - 1) with
    | false =>
      have HX := Lib.hid (show R3 im = some (k : Int) from HBAD.out _ (if_neg (by unfold rangeB; simp [h0, h1, h2, h3, h4, h5])))
      go_wp2_with (go_at_call 71; refine (in_i _ _ _ _).mono ?_; rintro e w5 ⟨rfl, rfl⟩)
      go_ret
      exact ⟨by rw [HX.out]; rfl, HBL.out _ HB1.out⟩
    | true =>
    cases h6 : inB p.fs (-1) 255 with
    | false =>
      have HX := Lib.hid (show R3 im = some (k : Int) from HBAD.out _ (if_neg (by unfold rangeB; simp [h0, h1, h2, h3, h4, h5, h6])))
      go_wp2_with (go_at_call 71; refine (in_i _ _ _ _).mono ?_; rintro e w5 ⟨rfl, rfl⟩)
      go_ret
      exact ⟨by rw [HX.out]; rfl, HBL.out _ HB1.out⟩
    | true =>
    have HX := Lib.hid (HGOOD.out (if_pos (by unfold rangeB; simp [h0, h1, h2, h3, h4, h5, h6])))
    go_wp2_with (go_at_call 71; refine (in_i _ _ _ _).mono ?_; rintro e w5 ⟨rfl, rfl⟩)
    go_roundg g1
    case measure => omega
    case rel => exact ⟨k + 1, by simp, ⟨HG.out⟩, ⟨HB1.out⟩, ⟨HX.out⟩⟩
set_option maxRecDepth 100000 in
set_option maxHeartbeats 4000000 in
theorem full_d (h : ImAt F w im s) (hF : ∀ b, F b → b < w.heap.size) (hR : ∀ i, i < im.pages.length → Rng im.order ((im.n : Int) - 1) (im.pg i)) : Calls Try.prog 50 #[.agg (im.cells s)] w (DocP w (.int .i64 (doc (R11 im)))) := by
  obtain ⟨A, a, B, b, C, c, D, d, E, e⟩ := s
  obtain ⟨WA, hWA⟩ : ∃ W, w.alloc (imO im ⟨A, a, B, b, C, c, D, d, E, e⟩) = W := ⟨_, rfl⟩
  obtain ⟨hsa, hbl, hvl⟩ := box_facts h hF hWA
  have HBL := Lib.hid hbl
  have HVL := Lib.hid hvl
  have HWF := Lib.hid h.wf
  have hl := len_i64 h.wf
  obtain ⟨c0, c1, c2, c3, c4, c5, c6, c7, c8⟩ := (hvl WA (Below.refl _ _)).cell
  dsimp only at c0 c1 c2 c3 c4 c5 c6 c7 c8
  unfold imO Im.cells at hWA
  unfold Im.cells
  clear h hF hvl hbl
  have HR := Lib.hid hR
  clear hR
  go_enter Try.func50, Try.ntmps50
  go_wp2
  clear hWA c0 c1 c2 c3 c4 c5 c6 c7 c8
  go_loopg [3] im.pages.length (fun g v wr => ∃ k : Nat, v = .int .i64 (k : Int) ∧ Aside0 (k + g = im.pages.length) ∧ Aside0 (Below WA.heap.size WA wr) ∧ Aside0 (scan (d11F im) g k = R11 im))
  case atStart => exact ⟨0, rfl, ⟨by omega⟩, ⟨Below.refl _ _⟩, ⟨rfl⟩⟩
  case round =>
    obtain ⟨k, rfl, hkg, hbe, hsc⟩ := hrel
    obtain ⟨-, -, -, -, -, c5, -, -, -⟩ := (HVL.out wr hbe.out).cell
    dsimp only at c5
    by_cases hk : k < im.pages.length
    case neg =>
      have hkd : decide ((k : Int) < (im.pages.length : Int)) = false := decide_eq_false (by omega)
      have hkd' : decide (k < im.pages.length) = false := decide_eq_false hk
      have HX := Lib.hid (show R11 im = none by have h := hsc.out; rw [show gk = 0 by have := hkg.out; omega, scan] at h; exact h.symm)
      clear hk
      go_wp2
      go_ret
      exact ⟨by rw [HX.out]; rfl, HBL.out _ hbe.out⟩
    have hkI : (k : Int) < (im.pages.length : Int) := by omega
    have hkd : decide ((k : Int) < (im.pages.length : Int)) = true := decide_eq_true hkI
    have hkd' : decide (k < im.pages.length) = true := decide_eq_true hk
    obtain ⟨g1, rfl⟩ : ∃ g1, gk = g1 + 1 := ⟨gk - 1, by have := hkg.out; omega⟩
    obtain ⟨ad, he, -, p0, p1, p2, p3, p4, p5, p6, p7, p8, p9, p10⟩ := (HVL.out wr hbe.out).page k hk
    dsimp only at he
    subst he
    obtain ⟨W1, hW1⟩ : ∃ W, wr.alloc (pageO (im.pg k)) = W := ⟨_, rfl⟩
    obtain ⟨hlt1, hb1, hpv⟩ := pg_facts hbe.out hW1
    have HB1 := Lib.hid hb1
    have HLT1 := Lib.hid hlt1
    have HPV := Lib.hid hpv
    obtain ⟨q0, q1, q2, q3, q4, q5, q6, q7, q8, q9, q10⟩ := hpv W1 rfl
    obtain ⟨d0, d1, d2, d3, d4, d5, d6, d7, d8⟩ := (HVL.out W1 hb1).cell
    dsimp only at d0 d1 d2 d3 d4 d5 d6 d7 d8
    have HK := Lib.hid hk
    have HG := Lib.hid (show k + 1 + g1 = im.pages.length by have := hkg.out; omega)
    have HBAD := Lib.hid (show ∀ pl, d11F im k = some pl → R11 im = some pl from fun pl h => hsc.out.symm.trans (scan_bad h))
    have HGOOD := Lib.hid (show d11F im k = none → scan (d11F im) g1 (k + 1) = R11 im from fun h => (scan_ok h).symm.trans hsc.out)
    unfold pageO at hW1
    clear hk hbe hb1 hlt1 hpv hsc hkg
    have hR : d11F im k = if (im.pg k).kd = 4 ∧ (im.pg k).lv = cellsN (im.pg k).cl ∧ ¬ ((im.pg k).nx = -1 ∧ (im.pg k).pv = -1) then some (k : Int) else none := rfl
    rw [hR] at HBAD HGOOD
    have HCELL := Lib.hid (fun wx => cells_d (im.pg k) (HR.out k HK.out).cl.1 (HR.out k HK.out).cl.2 wx)
    have HW1 := Lib.hid hW1
    clear hR
    generalize im.pg k = p at *
    unfold Pg.vals at HCELL
    generalize hm : cellsN p.cl = m at *
    clear hm
    go_upto_region 5 with (fail)
    clear p0 p1 p2 p3 p4 p5 p6 p7 p8 p9 p10 hW1 c5 d0 d1 d2 d3 d4 d5 d6 d7 d8
    by_cases h0 : p.kd = 4
    case neg =>
      have e0 : (p.kd == 4) = false := by simpa using h0
      have HX := Lib.hid (HGOOD.out (if_neg (fun hh => h0 hh.1)))
      clear h0
      go_quiet (fail)
      go_wp2
      go_roundg g1
      case measure => omega
      case rel => exact ⟨k + 1, by simp, ⟨HG.out⟩, ⟨pw_below_drewN HB1.out _⟩, ⟨HX.out⟩⟩
    have e0 : (p.kd == 4) = true := by simpa using h0
    by_cases h1 : p.lv = m
    case neg =>
      have e1 : (p.lv == (m : Int)) = false := by simpa using h1
      have HX := Lib.hid (HGOOD.out (if_neg (fun hh => h1 hh.2.1)))
      clear h0 h1
      refine qg_region (by kernel_rfl) (by kernel_rfl) ?_
      iterate 1 (refine qg_want (by kernel_rfl) (fun K hK => ?_); go_simp; first | refine ⟨_, fun _ _ => rfl, hK _ ?_⟩ | refine hK _ ?_; clear hK K)
      iterate 1 (refine qg_want (by kernel_rfl) (fun K hK => ?_); go_simp; apply Exists.intro; refine ⟨fun wx hx => ?_, hK _ ?_⟩; ((obtain ⟨r0, r1, r2, r3, r4, r5, r6, r7, r8, r9, r10⟩ := HPV.out wx (hx.block _ HLT1.out)); go_simp; try rfl); clear hK K)
      iterate 2 (refine qg_want (by kernel_rfl) (fun K hK => ?_); go_simp; first | refine ⟨_, fun _ _ => rfl, hK _ ?_⟩ | refine hK _ ?_; clear hK K)
      iterate 1 (refine qg_want (by kernel_rfl) (fun K hK => ?_); go_simp; first | refine ⟨_, fun _ _ => rfl, hK _ ?_⟩ | refine hK _ ?_; clear hK K)
      iterate 1 (refine qg_want (by kernel_rfl) (fun K hK => ?_); go_simp; apply Exists.intro; refine ⟨fun wx hx => ?_, hK _ ?_⟩; ((obtain ⟨r0, r1, r2, r3, r4, r5, r6, r7, r8, r9, r10⟩ := HPV.out wx (hx.block _ HLT1.out)); go_simp; try rfl); clear hK K)
      iterate 1 (refine qg_want (by kernel_rfl) (fun K hK => ?_); go_simp; apply Exists.intro; refine ⟨fun wx hx => ?_, hK _ ?_⟩; ((obtain ⟨r0, r1, r2, r3, r4, r5, r6, r7, r8, r9, r10⟩ := HPV.out wx (hx.block _ HLT1.out)); go_simp; try rfl); clear hK K)
      (refine qg_want (by kernel_rfl) (fun K hK => ?_); go_simp; apply Exists.intro; refine ⟨fun wx hx => qg_calls hx (HCELL.out wx), hK _ ?_⟩; clear hK K)
      iterate 3 (refine qg_want (by kernel_rfl) (fun K hK => ?_); go_simp; first | refine ⟨_, fun _ _ => rfl, hK _ ?_⟩ | refine hK _ ?_; clear hK K)
      iterate 8 (refine qg_skip (by kernel_rfl) ?_; simp only [Act.put, List.setIfInBounds_toArray, List.set_cons_succ, List.set_cons_zero])
      iterate 1 (refine qg_want (by kernel_rfl) (fun K hK => ?_); go_simp; first | refine ⟨_, fun _ _ => rfl, hK _ ?_⟩ | refine hK _ ?_; clear hK K)
      refine qg_nil (fun w9 hw9 => ?_)
      go_wp2
      go_roundg g1
      case measure => omega
      case rel => exact ⟨k + 1, by simp, ⟨HG.out⟩, ⟨HB1.out.trans (hw9.mono HB1.out.size)⟩, ⟨HX.out⟩⟩
    have e1 : (p.lv == (m : Int)) = true := by simpa using h1
    by_cases h2 : p.nx = -1
    case neg =>
      have e2 : (p.nx != -1) = true := by simpa using h2
      have HX := Lib.hid (show R11 im = some (k : Int) from HBAD.out _ (if_pos ⟨h0, h1, fun hh => h2 hh.1⟩))
      clear h0 h1 h2
      refine qg_region (by kernel_rfl) (by kernel_rfl) ?_
      iterate 1 (refine qg_want (by kernel_rfl) (fun K hK => ?_); go_simp; first | refine ⟨_, fun _ _ => rfl, hK _ ?_⟩ | refine hK _ ?_; clear hK K)
      iterate 1 (refine qg_want (by kernel_rfl) (fun K hK => ?_); go_simp; apply Exists.intro; refine ⟨fun wx hx => ?_, hK _ ?_⟩; ((obtain ⟨r0, r1, r2, r3, r4, r5, r6, r7, r8, r9, r10⟩ := HPV.out wx (hx.block _ HLT1.out)); go_simp; try rfl); clear hK K)
      iterate 2 (refine qg_want (by kernel_rfl) (fun K hK => ?_); go_simp; first | refine ⟨_, fun _ _ => rfl, hK _ ?_⟩ | refine hK _ ?_; clear hK K)
      iterate 1 (refine qg_want (by kernel_rfl) (fun K hK => ?_); go_simp; first | refine ⟨_, fun _ _ => rfl, hK _ ?_⟩ | refine hK _ ?_; clear hK K)
      iterate 1 (refine qg_want (by kernel_rfl) (fun K hK => ?_); go_simp; apply Exists.intro; refine ⟨fun wx hx => ?_, hK _ ?_⟩; ((obtain ⟨r0, r1, r2, r3, r4, r5, r6, r7, r8, r9, r10⟩ := HPV.out wx (hx.block _ HLT1.out)); go_simp; try rfl); clear hK K)
      iterate 1 (refine qg_want (by kernel_rfl) (fun K hK => ?_); go_simp; apply Exists.intro; refine ⟨fun wx hx => ?_, hK _ ?_⟩; ((obtain ⟨r0, r1, r2, r3, r4, r5, r6, r7, r8, r9, r10⟩ := HPV.out wx (hx.block _ HLT1.out)); go_simp; try rfl); clear hK K)
      (refine qg_want (by kernel_rfl) (fun K hK => ?_); go_simp; apply Exists.intro; refine ⟨fun wx hx => qg_calls hx (HCELL.out wx), hK _ ?_⟩; clear hK K)
      iterate 3 (refine qg_want (by kernel_rfl) (fun K hK => ?_); go_simp; first | refine ⟨_, fun _ _ => rfl, hK _ ?_⟩ | refine hK _ ?_; clear hK K)
      iterate 1 (refine qg_want (by kernel_rfl) (fun K hK => ?_); go_simp; first | refine ⟨_, fun _ _ => rfl, hK _ ?_⟩ | refine hK _ ?_; clear hK K)
      iterate 1 (refine qg_want (by kernel_rfl) (fun K hK => ?_); go_simp; apply Exists.intro; refine ⟨fun wx hx => ?_, hK _ ?_⟩; ((obtain ⟨r0, r1, r2, r3, r4, r5, r6, r7, r8, r9, r10⟩ := HPV.out wx (hx.block _ HLT1.out)); go_simp; try rfl); clear hK K)
      iterate 2 (refine qg_want (by kernel_rfl) (fun K hK => ?_); go_simp; first | refine ⟨_, fun _ _ => rfl, hK _ ?_⟩ | refine hK _ ?_; clear hK K)
      iterate 3 (refine qg_skip (by kernel_rfl) ?_; simp only [Act.put, List.setIfInBounds_toArray, List.set_cons_succ, List.set_cons_zero])
      iterate 2 (refine qg_want (by kernel_rfl) (fun K hK => ?_); go_simp; first | refine ⟨_, fun _ _ => rfl, hK _ ?_⟩ | refine hK _ ?_; clear hK K)
      refine qg_nil (fun w9 hw9 => ?_)
      go_wp2
      go_ret
      exact ⟨by rw [HX.out]; rfl, HBL.out _ (HB1.out.trans (hw9.mono HB1.out.size))⟩
    have e2 : (p.nx != -1) = false := by simpa using h2
    by_cases h3 : p.pv = -1
    case neg =>
      have e3 : (p.pv != -1) = true := by simpa using h3
      have HX := Lib.hid (show R11 im = some (k : Int) from HBAD.out _ (if_pos ⟨h0, h1, fun hh => h3 hh.2⟩))
      clear h0 h1 h2 h3
      refine qg_region (by kernel_rfl) (by kernel_rfl) ?_
      iterate 1 (refine qg_want (by kernel_rfl) (fun K hK => ?_); go_simp; first | refine ⟨_, fun _ _ => rfl, hK _ ?_⟩ | refine hK _ ?_; clear hK K)
      iterate 1 (refine qg_want (by kernel_rfl) (fun K hK => ?_); go_simp; apply Exists.intro; refine ⟨fun wx hx => ?_, hK _ ?_⟩; ((obtain ⟨r0, r1, r2, r3, r4, r5, r6, r7, r8, r9, r10⟩ := HPV.out wx (hx.block _ HLT1.out)); go_simp; try rfl); clear hK K)
      iterate 2 (refine qg_want (by kernel_rfl) (fun K hK => ?_); go_simp; first | refine ⟨_, fun _ _ => rfl, hK _ ?_⟩ | refine hK _ ?_; clear hK K)
      iterate 1 (refine qg_want (by kernel_rfl) (fun K hK => ?_); go_simp; first | refine ⟨_, fun _ _ => rfl, hK _ ?_⟩ | refine hK _ ?_; clear hK K)
      iterate 1 (refine qg_want (by kernel_rfl) (fun K hK => ?_); go_simp; apply Exists.intro; refine ⟨fun wx hx => ?_, hK _ ?_⟩; ((obtain ⟨r0, r1, r2, r3, r4, r5, r6, r7, r8, r9, r10⟩ := HPV.out wx (hx.block _ HLT1.out)); go_simp; try rfl); clear hK K)
      iterate 1 (refine qg_want (by kernel_rfl) (fun K hK => ?_); go_simp; apply Exists.intro; refine ⟨fun wx hx => ?_, hK _ ?_⟩; ((obtain ⟨r0, r1, r2, r3, r4, r5, r6, r7, r8, r9, r10⟩ := HPV.out wx (hx.block _ HLT1.out)); go_simp; try rfl); clear hK K)
      (refine qg_want (by kernel_rfl) (fun K hK => ?_); go_simp; apply Exists.intro; refine ⟨fun wx hx => qg_calls hx (HCELL.out wx), hK _ ?_⟩; clear hK K)
      iterate 3 (refine qg_want (by kernel_rfl) (fun K hK => ?_); go_simp; first | refine ⟨_, fun _ _ => rfl, hK _ ?_⟩ | refine hK _ ?_; clear hK K)
      iterate 1 (refine qg_want (by kernel_rfl) (fun K hK => ?_); go_simp; first | refine ⟨_, fun _ _ => rfl, hK _ ?_⟩ | refine hK _ ?_; clear hK K)
      iterate 1 (refine qg_want (by kernel_rfl) (fun K hK => ?_); go_simp; apply Exists.intro; refine ⟨fun wx hx => ?_, hK _ ?_⟩; ((obtain ⟨r0, r1, r2, r3, r4, r5, r6, r7, r8, r9, r10⟩ := HPV.out wx (hx.block _ HLT1.out)); go_simp; try rfl); clear hK K)
      iterate 2 (refine qg_want (by kernel_rfl) (fun K hK => ?_); go_simp; first | refine ⟨_, fun _ _ => rfl, hK _ ?_⟩ | refine hK _ ?_; clear hK K)
      iterate 1 (refine qg_want (by kernel_rfl) (fun K hK => ?_); go_simp; first | refine ⟨_, fun _ _ => rfl, hK _ ?_⟩ | refine hK _ ?_; clear hK K)
      iterate 1 (refine qg_want (by kernel_rfl) (fun K hK => ?_); go_simp; apply Exists.intro; refine ⟨fun wx hx => ?_, hK _ ?_⟩; ((obtain ⟨r0, r1, r2, r3, r4, r5, r6, r7, r8, r9, r10⟩ := HPV.out wx (hx.block _ HLT1.out)); go_simp; try rfl); clear hK K)
      iterate 3 (refine qg_want (by kernel_rfl) (fun K hK => ?_); go_simp; first | refine ⟨_, fun _ _ => rfl, hK _ ?_⟩ | refine hK _ ?_; clear hK K)
      refine qg_nil (fun w9 hw9 => ?_)
      go_wp2
      go_ret
      exact ⟨by rw [HX.out]; rfl, HBL.out _ (HB1.out.trans (hw9.mono HB1.out.size))⟩
    have e3 : (p.pv != -1) = false := by simpa using h3
    have HX := Lib.hid (HGOOD.out (if_neg (fun hh => hh.2.2 ⟨h2, h3⟩)))
    clear h0 h1 h2 h3
    refine qg_region (by kernel_rfl) (by kernel_rfl) ?_
    iterate 1 (refine qg_want (by kernel_rfl) (fun K hK => ?_); go_simp; first | refine ⟨_, fun _ _ => rfl, hK _ ?_⟩ | refine hK _ ?_; clear hK K)
    iterate 1 (refine qg_want (by kernel_rfl) (fun K hK => ?_); go_simp; apply Exists.intro; refine ⟨fun wx hx => ?_, hK _ ?_⟩; ((obtain ⟨r0, r1, r2, r3, r4, r5, r6, r7, r8, r9, r10⟩ := HPV.out wx (hx.block _ HLT1.out)); go_simp; try rfl); clear hK K)
    iterate 2 (refine qg_want (by kernel_rfl) (fun K hK => ?_); go_simp; first | refine ⟨_, fun _ _ => rfl, hK _ ?_⟩ | refine hK _ ?_; clear hK K)
    iterate 1 (refine qg_want (by kernel_rfl) (fun K hK => ?_); go_simp; first | refine ⟨_, fun _ _ => rfl, hK _ ?_⟩ | refine hK _ ?_; clear hK K)
    iterate 1 (refine qg_want (by kernel_rfl) (fun K hK => ?_); go_simp; apply Exists.intro; refine ⟨fun wx hx => ?_, hK _ ?_⟩; ((obtain ⟨r0, r1, r2, r3, r4, r5, r6, r7, r8, r9, r10⟩ := HPV.out wx (hx.block _ HLT1.out)); go_simp; try rfl); clear hK K)
    iterate 1 (refine qg_want (by kernel_rfl) (fun K hK => ?_); go_simp; apply Exists.intro; refine ⟨fun wx hx => ?_, hK _ ?_⟩; ((obtain ⟨r0, r1, r2, r3, r4, r5, r6, r7, r8, r9, r10⟩ := HPV.out wx (hx.block _ HLT1.out)); go_simp; try rfl); clear hK K)
    (refine qg_want (by kernel_rfl) (fun K hK => ?_); go_simp; apply Exists.intro; refine ⟨fun wx hx => qg_calls hx (HCELL.out wx), hK _ ?_⟩; clear hK K)
    iterate 3 (refine qg_want (by kernel_rfl) (fun K hK => ?_); go_simp; first | refine ⟨_, fun _ _ => rfl, hK _ ?_⟩ | refine hK _ ?_; clear hK K)
    iterate 1 (refine qg_want (by kernel_rfl) (fun K hK => ?_); go_simp; first | refine ⟨_, fun _ _ => rfl, hK _ ?_⟩ | refine hK _ ?_; clear hK K)
    iterate 1 (refine qg_want (by kernel_rfl) (fun K hK => ?_); go_simp; apply Exists.intro; refine ⟨fun wx hx => ?_, hK _ ?_⟩; ((obtain ⟨r0, r1, r2, r3, r4, r5, r6, r7, r8, r9, r10⟩ := HPV.out wx (hx.block _ HLT1.out)); go_simp; try rfl); clear hK K)
    iterate 2 (refine qg_want (by kernel_rfl) (fun K hK => ?_); go_simp; first | refine ⟨_, fun _ _ => rfl, hK _ ?_⟩ | refine hK _ ?_; clear hK K)
    iterate 1 (refine qg_want (by kernel_rfl) (fun K hK => ?_); go_simp; first | refine ⟨_, fun _ _ => rfl, hK _ ?_⟩ | refine hK _ ?_; clear hK K)
    iterate 1 (refine qg_want (by kernel_rfl) (fun K hK => ?_); go_simp; apply Exists.intro; refine ⟨fun wx hx => ?_, hK _ ?_⟩; ((obtain ⟨r0, r1, r2, r3, r4, r5, r6, r7, r8, r9, r10⟩ := HPV.out wx (hx.block _ HLT1.out)); go_simp; try rfl); clear hK K)
    iterate 3 (refine qg_want (by kernel_rfl) (fun K hK => ?_); go_simp; first | refine ⟨_, fun _ _ => rfl, hK _ ?_⟩ | refine hK _ ?_; clear hK K)
    refine qg_nil (fun w9 hw9 => ?_)
    go_wp2
    go_roundg g1
    case measure => omega
    case rel => exact ⟨k + 1, by simp, ⟨HG.out⟩, ⟨HB1.out.trans (hw9.mono HB1.out.size)⟩, ⟨HX.out⟩⟩
theorem slab_f {p : Pg} {c : Nat} (hc : c < 256) (hb : p.bit c = true) (h : ¬ c < cellsN p.cl) : slabB p = false := by
  unfold slabB
  have : (List.range 256).all (fun k => !p.bit k || decide (k < cellsN p.cl)) = false := by
    rw [List.all_eq_false]
    exact ⟨c, List.mem_range.2 hc, by rw [hb, decide_eq_false h]; decide⟩
  rw [this]
  rfl
theorem slab_t {p : Pg} (h : ∀ c, c < 256 → p.bit c = true → c < cellsN p.cl) : slabB p = (decide (((cnt p.bit 256 : Nat) : Int) = p.lv) && decide (0 < cnt p.bit 256)) := by
  unfold slabB
  have : (List.range 256).all (fun k => !p.bit k || decide (k < cellsN p.cl)) = true := by
    rw [List.all_eq_true]
    intro c hc
    cases hb : p.bit c with
    | false => rfl
    | true => rw [decide_eq_true (h c (List.mem_range.1 hc) hb)]; rfl
  rw [this]
  rfl
set_option maxRecDepth 100000 in
set_option maxHeartbeats 4000000 in
theorem slabs_d (h : ImAt F w im s) (hF : ∀ b, F b → b < w.heap.size) (hR : ∀ i, i < im.pages.length → Rng im.order ((im.n : Int) - 1) (im.pg i)) : Calls Try.prog 44 #[.agg (im.cells s)] w (DocP w (.int .i64 (doc (R5 im)))) := by
  obtain ⟨A, a, B, b, C, c, D, d, E, e⟩ := s
  obtain ⟨WA, hWA⟩ : ∃ W, w.alloc (imO im ⟨A, a, B, b, C, c, D, d, E, e⟩) = W := ⟨_, rfl⟩
  obtain ⟨hsa, hbl, hvl⟩ := box_facts h hF hWA
  have HBL := Lib.hid hbl
  have HVL := Lib.hid hvl
  have HWF := Lib.hid h.wf
  have hl := len_i64 h.wf
  obtain ⟨c0, c1, c2, c3, c4, c5, c6, c7, c8⟩ := (hvl WA (Below.refl _ _)).cell
  dsimp only at c0 c1 c2 c3 c4 c5 c6 c7 c8
  unfold imO Im.cells at hWA
  unfold Im.cells
  clear h hF hvl hbl
  have HR := Lib.hid hR
  clear hR
  go_enter Try.func44, Try.ntmps44
  go_wp2
  clear hWA c0 c1 c2 c3 c4 c5 c6 c7 c8
  go_loopg [3] im.pages.length (fun g v wr => ∃ k : Nat, v = .int .i64 (k : Int) ∧ Aside0 (k + g = im.pages.length) ∧ Aside0 (Below WA.heap.size WA wr) ∧ Aside0 (scan (d5F im) g k = R5 im))
  case atStart => exact ⟨0, rfl, ⟨by omega⟩, ⟨Below.refl _ _⟩, ⟨rfl⟩⟩
  case round =>
    obtain ⟨k, rfl, hkg, hbe, hsc⟩ := hrel
    obtain ⟨-, -, -, -, -, c5, -, -, -⟩ := (HVL.out wr hbe.out).cell
    dsimp only at c5
    by_cases hk : k < im.pages.length
    case neg =>
      have hkd : decide ((k : Int) < (im.pages.length : Int)) = false := decide_eq_false (by omega)
      have hkd' : decide (k < im.pages.length) = false := decide_eq_false hk
      have HX := Lib.hid (show R5 im = none by have h := hsc.out; rw [show gk = 0 by have := hkg.out; omega, scan] at h; exact h.symm)
      clear hk
      go_wp2
      go_ret
      exact ⟨by rw [HX.out]; rfl, HBL.out _ hbe.out⟩
    have hkI : (k : Int) < (im.pages.length : Int) := by omega
    have hkd : decide ((k : Int) < (im.pages.length : Int)) = true := decide_eq_true hkI
    have hkd' : decide (k < im.pages.length) = true := decide_eq_true hk
    obtain ⟨g1, rfl⟩ : ∃ g1, gk = g1 + 1 := ⟨gk - 1, by have := hkg.out; omega⟩
    obtain ⟨ad, he, -, p0, p1, p2, p3, p4, p5, p6, p7, p8, p9, p10⟩ := (HVL.out wr hbe.out).page k hk
    dsimp only at he
    subst he
    obtain ⟨W1, hW1⟩ : ∃ W, wr.alloc (pageO (im.pg k)) = W := ⟨_, rfl⟩
    obtain ⟨hlt1, hb1, hpv⟩ := pg_facts hbe.out hW1
    have HB1 := Lib.hid hb1
    have HLT1 := Lib.hid hlt1
    have HPV := Lib.hid hpv
    obtain ⟨q0, q1, q2, q3, q4, q5, q6, q7, q8, q9, q10⟩ := hpv W1 rfl
    obtain ⟨d0, d1, d2, d3, d4, d5, d6, d7, d8⟩ := (HVL.out W1 hb1).cell
    dsimp only at d0 d1 d2 d3 d4 d5 d6 d7 d8
    have HK := Lib.hid hk
    have HG := Lib.hid (show k + 1 + g1 = im.pages.length by have := hkg.out; omega)
    have HBAD := Lib.hid (show ∀ pl, d5F im k = some pl → R5 im = some pl from fun pl h => hsc.out.symm.trans (scan_bad h))
    have HGOOD := Lib.hid (show d5F im k = none → scan (d5F im) g1 (k + 1) = R5 im from fun h => (scan_ok h).symm.trans hsc.out)
    unfold pageO at hW1
    clear hk hbe hb1 hlt1 hpv hsc hkg
    have hR : d5F im k = if (im.pg k).kd = 4 ∧ slabB (im.pg k) = false then some (k : Int) else none := rfl
    rw [hR] at HBAD HGOOD
    have HCELL := Lib.hid (fun wx => cells_d (im.pg k) (HR.out k HK.out).cl.1 (HR.out k HK.out).cl.2 wx)
    have HHAS := Lib.hid (has_d (im.pg k) (HWF.out.pg HK.out))
    have HLV := Lib.hid (HR.out k HK.out).lv
    clear hR
    generalize im.pg k = p at *
    by_cases h0 : p.kd = 4
    case neg =>
      have e0 : (p.kd != 4) = true := by simpa using h0
      have HX := Lib.hid (HGOOD.out (if_neg (fun hh => h0 hh.1)))
      clear h0
      go_wp2
      go_roundg g1
      case measure => omega
      case rel => exact ⟨k + 1, by simp, ⟨HG.out⟩, ⟨HB1.out⟩, ⟨HX.out⟩⟩
    have e0 : (p.kd != 4) = false := by simpa using h0
    have H0 := Lib.hid h0
    obtain ⟨m, hm⟩ : ∃ m, cellsN p.cl = m := ⟨_, rfl⟩
    have HM := Lib.hid hm
    rw [hm] at HCELL
    unfold Pg.vals at HCELL HHAS
    clear h0 hm
    go_wp2
    clear p0 p1 p2 p3 p4 p5 p6 p7 p8 p9 p10 q0 q1 q2 q3 q4 q5 q6 q7 q8 q9 q10 d0 d1 d2 d3 d4 d5 d6 d7 d8 hW1 c5
    go_loopg [5, 6, 22, 23, 24, 25, 26, 27, 28, 29, 30, 31, 32, 33, 34] 256 (fun g ct v _ _ _ _ _ _ _ _ _ _ _ _ _ wi => ∃ c n : Nat, v = .int .i64 (c : Int) ∧ ct = .int .i64 (n : Int) ∧ Aside0 (cnt p.bit c = n) ∧ Aside0 (c + g = 256) ∧ Aside0 (∀ c', c' < c → p.bit c' = true → c' < m) ∧ Aside0 (Below W1.heap.size W1 wi))
    case atStart => exact ⟨0, 0, rfl, rfl, ⟨rfl⟩, ⟨rfl⟩, ⟨fun _ h => absurd h (Nat.not_lt_zero _)⟩, ⟨Below.refl _ _⟩⟩
    case round =>
      obtain ⟨c, n, rfl, rfl, hn, hcg, hall, hbi⟩ := hrel
      have HBI := Lib.hid hbi.out
      obtain ⟨q0, q1, q2, q3, q4, q5, q6, q7, q8, q9, q10⟩ := HPV.out wr (hbi.out.block _ HLT1.out)
      have HN := Lib.hid hn.out
      have HALL := Lib.hid hall.out
      clear hn hall hbi
      by_cases hc : c < 256
      case neg =>
        have hcd : decide ((c : Int) < 256) = false := decide_eq_false (by omega)
        have hcd' : decide (c < 256) = false := decide_eq_false hc
        have h256 : c = 256 := by have := hcg.out; omega
        subst h256
        have HT := Lib.hid (slab_t (p := p) (fun c h1 h2 => by rw [HM.out]; exact HALL.out c h1 h2))
        rw [HN.out] at HT
        clear hc
        by_cases hn0 : n = 0
        · have n0 : ((n : Int) == 0) = true := by rw [beq_iff_eq]; omega
          have n0' : (n == 0) = true := by rw [beq_iff_eq]; omega
          have HX := Lib.hid (show R5 im = some (k : Int) from HBAD.out _ (if_pos ⟨H0.out, by rw [HT.out, decide_eq_false (show ¬ 0 < n by omega), Bool.and_false]⟩))
          clear hn0
          go_wp2
          go_ret
          exact ⟨by rw [HX.out]; rfl, HBL.out _ (HB1.out.trans (HBI.out.mono HB1.out.size))⟩
        · have n0 : ((n : Int) == 0) = false := by rw [beq_eq_false_iff_ne]; omega
          have n0' : (n == 0) = false := by rw [beq_eq_false_iff_ne]; omega
          by_cases hl2 : (n : Int) = p.lv
          · have n1 : ((n : Int) != p.lv) = false := by simpa using hl2
            have HX := Lib.hid (HGOOD.out (if_neg (fun hh => by have h2 := hh.2; rw [HT.out, decide_eq_true hl2, decide_eq_true (show 0 < n by omega)] at h2; cases h2)))
            clear hn0 hl2
            go_wp2
            go_roundg g1
            case measure => omega
            case rel => exact ⟨k + 1, by simp, ⟨HG.out⟩, ⟨HB1.out.trans (HBI.out.mono HB1.out.size)⟩, ⟨HX.out⟩⟩
          · have n1 : ((n : Int) != p.lv) = true := by simpa using hl2
            have HX := Lib.hid (show R5 im = some (k : Int) from HBAD.out _ (if_pos ⟨H0.out, by rw [HT.out, decide_eq_false hl2]; rfl⟩))
            clear hn0 hl2
            go_wp2
            go_ret
            exact ⟨by rw [HX.out]; rfl, HBL.out _ (HB1.out.trans (HBI.out.mono HB1.out.size))⟩
      have hcd : decide ((c : Int) < 256) = true := decide_eq_true (by omega)
      have hcd' : decide (c < 256) = true := decide_eq_true hc
      obtain ⟨g2, rfl⟩ : ∃ g2, gk = g2 + 1 := ⟨gk - 1, by have := hcg.out; omega⟩
      have HCG := Lib.hid (show c + 1 + g2 = 256 by have := hcg.out; omega)
      have HC := Lib.hid hc
      have c1 : wrap64 ((c : Int) + 1) = (c : Int) + 1 := by unfold wrap64; omega
      have hnc : n ≤ c := by rw [← HN.out]; exact cnt_le _ _
      have c2 : wrap64 ((n : Int) + 1) = (n : Int) + 1 := by unfold wrap64; omega
      clear hc hnc hcg
      cases hb : p.bit c with
      | false =>
        have HBF := Lib.hid hb
        have HNX := Lib.hid (show cnt p.bit (c + 1) = n by rw [cnt, HBF.out, HN.out]; rfl)
        go_wp2_with (go_at_call 32; refine (HHAS.out c HC.out wr).mono ?_; rintro e w5 ⟨rfl, hb5⟩; have HB5 := Lib.hid hb5; clear hb5; rw [HBF.out])
        go_roundg g2
        case measure => omega
        case rel => exact ⟨c + 1, n, by simp; try exact c1, rfl, ⟨HNX.out⟩, ⟨HCG.out⟩, ⟨fun c' h1 h2 => by
          by_cases e : c' = c
          · subst e; rw [HBF.out] at h2; cases h2
          · exact HALL.out c' (by omega) h2⟩, ⟨HBI.out.trans (HB5.out.mono HBI.out.size)⟩⟩
      | true =>
        have HBF := Lib.hid hb
        have HNX := Lib.hid (show cnt p.bit (c + 1) = n + 1 by rw [cnt, HBF.out, HN.out]; rfl)
        by_cases hcm : c < m
        · have m1 : decide ((c : Int) ≥ (m : Int)) = false := decide_eq_false (by omega)
          have m2 : decide ((m : Int) ≤ (c : Int)) = false := decide_eq_false (by omega)
          have m3 : decide (m ≤ c) = false := decide_eq_false (by omega)
          have HCM := Lib.hid hcm
          clear hcm
          go_wp2_with (first | (go_at_call 32; refine (HHAS.out c HC.out wr).mono ?_; rintro e w5 ⟨rfl, hb5⟩; have HB5 := Lib.hid hb5; obtain ⟨r0, r1, r2, r3, r4, r5, r6, r7, r8, r9, r10⟩ := HPV.out w5 ((hb5.block _ (Nat.lt_of_lt_of_le HLT1.out HBI.out.size)).trans (HBI.out.block _ HLT1.out)); clear hb5; rw [HBF.out]) | (go_at_call 31; refine (HCELL.out _).mono ?_; rintro e w6 ⟨rfl, hb6⟩; have HB6 := Lib.hid hb6; clear hb6))
          go_roundg g2
          case measure => omega
          case rel => exact ⟨c + 1, n + 1, by simp; try exact c1, by simp; try exact c2, ⟨HNX.out⟩, ⟨HCG.out⟩, ⟨fun c' h1 h2 => by
            by_cases e : c' = c
            · subst e; exact HCM.out
            · exact HALL.out c' (by omega) h2⟩, ⟨(HBI.out.trans (HB5.out.mono HBI.out.size)).trans (HB6.out.mono (Nat.le_trans HBI.out.size HB5.out.size))⟩⟩
        · have m1 : decide ((c : Int) ≥ (m : Int)) = true := decide_eq_true (by omega)
          have m2 : decide ((m : Int) ≤ (c : Int)) = true := decide_eq_true (by omega)
          have m3 : decide (m ≤ c) = true := decide_eq_true (by omega)
          have HX := Lib.hid (show R5 im = some (k : Int) from HBAD.out _ (if_pos ⟨H0.out, slab_f HC.out HBF.out (by rw [HM.out]; exact hcm)⟩))
          clear hcm
          go_wp2_with (first | (go_at_call 32; refine (HHAS.out c HC.out wr).mono ?_; rintro e w5 ⟨rfl, hb5⟩; have HB5 := Lib.hid hb5; obtain ⟨r0, r1, r2, r3, r4, r5, r6, r7, r8, r9, r10⟩ := HPV.out w5 ((hb5.block _ (Nat.lt_of_lt_of_le HLT1.out HBI.out.size)).trans (HBI.out.block _ HLT1.out)); clear hb5; rw [HBF.out]) | (go_at_call 31; refine (HCELL.out _).mono ?_; rintro e w6 ⟨rfl, hb6⟩; have HB6 := Lib.hid hb6; clear hb6))
          go_ret
          exact ⟨by rw [HX.out]; rfl, HBL.out _ (HB1.out.trans (((HBI.out.trans (HB5.out.mono HBI.out.size)).trans (HB6.out.mono (Nat.le_trans HBI.out.size HB5.out.size))).mono HB1.out.size))⟩
end
end Go.Proofs.Ytkgedpcipaogjaa.WB
end
