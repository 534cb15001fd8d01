/- How the oracle's pages lie in memory. -/
import Derived.Test.YtihfblnjgaalcaaOPure
namespace Go.Proofs.Ytihfblnjgaalcaa.OR
open Go Go.RowKit Go.Maps Go.Proofs.YtihfblnjgaalcaaW.PrintWords Go.Proofs.YtihfblnjgaalcaaW.PrintLast Go.Proofs.YtihfblnjgaalcaaW.PrintMore Go.Proofs.Ytihfblnjgaalcaa.R Go.Proofs.Ytihfblnjgaalcaa.OM Go.Proofs.Ytihfblnjgaalcaa.OP
set_option linter.unusedVariables false
set_option linter.unusedSimpArgs false
theorem KI : Keyed Try.prog 3 := int_keyed Try.underlying3
theorem KU : Keyed Try.prog 22 := int_keyed Try.underlying22
theorem zero_lot (w : World) : (zeroValue 87).run Try.prog w = .ok (El.ptr.enc (-1)) w := by kernel_rfl
theorem zero_u64 (w : World) : (zeroValue 22).run Try.prog w = .ok ((El.int .u64).enc 0) w := by kernel_rfl
theorem zero_int (w : World) : (zeroValue 3).run Try.prog w = .ok ((El.int .i64).enc 0) w := by kernel_rfl
/-- A lot, its block g, its cells' map c. -/
def LotAt (w : World) (g c : Nat) : Lot → Prop
 | .great s => w.heap[g]? = some (.cells #[.bool true, .int .u64 s, .map none] 90 (0, 0))
 | .small s cs n => w.heap[g]? = some (.cells #[.bool false, .int .u64 s, .map (some c)] 90 (0, 0)) ∧ MapI Try.prog (El.int .u64) 22 .u64 w c n cs
/-- The map of pages as it is read. -/
def RepR (w : World) (mb s : Nat) (m : PM) : Prop :=
 ∃ ptr : Int → Option Int, MapI Try.prog El.ptr 3 .i64 w mb s ptr ∧ ∀ x, match m x with
  | none => ptr x = none
  | some l => ∃ g c : Nat, ptr x = some (g : Int) ∧ LotAt w g c l
/-- The map of pages as it is made: all in blocks from B on, each page's blocks its own. -/
def Rep (B : Nat) (w : World) (mb s : Nat) (m : PM) (ptr : Int → Option Int) : Prop :=
 MapI Try.prog El.ptr 3 .i64 w mb s ptr ∧ B ≤ mb ∧ ∃ own : Nat → Option Int, own mb = none ∧ ∀ x, match m x with
  | none => ptr x = none
  | some l => ∃ g c : Nat, ptr x = some (g : Int) ∧ LotAt w g c l ∧ B ≤ g ∧ g < w.heap.size ∧ own g = some x ∧ (∀ z cs n, l = .small z cs n → B ≤ c ∧ c < w.heap.size ∧ own c = some x)
theorem LotAt.keep {w w' : World} {g c : Nat} {l : Lot} (h : LotAt w g c l) (hg : w'.heap[g]? = w.heap[g]?) (hc : ∀ z cs n, l = .small z cs n → w'.heap[c]? = w.heap[c]?) : LotAt w' g c l := by
 cases l with
 | great s => exact hg.trans h
 | small s cs n => exact ⟨hg.trans h.1, h.2.of_block (hc s cs n rfl)⟩
theorem LotAt.lt {w : World} {g c : Nat} {l : Lot} (h : LotAt w g c l) : g < w.heap.size := by
 cases l with
 | great s => exact blk_lt h
 | small s cs n => exact blk_lt h.1
theorem Rep.read {B : Nat} {w : World} {mb s : Nat} {m : PM} {ptr : Int → Option Int} (h : Rep B w mb s m ptr) : RepR w mb s m := by
 obtain ⟨h1, h2, own, h3, h4⟩ := h
 refine ⟨ptr, h1, fun x => ?_⟩
 have := h4 x
 cases hm : m x with
 | none => rw [hm] at this; exact this
 | some l => rw [hm] at this; obtain ⟨g, c, a, b, -⟩ := this; exact ⟨g, c, a, b⟩
theorem RepR.below {w w' : World} {mb s : Nat} {m : PM} (h : RepR w mb s m) (hb : Below w.heap.size w w') : RepR w' mb s m := by
 obtain ⟨ptr, h1, h4⟩ := h
 refine ⟨ptr, h1.of_block (hb.block _ h1.lt), fun x => ?_⟩
 have := h4 x
 cases hm : m x with
 | none => rw [hm] at this; exact this
 | some l =>
  rw [hm] at this
  obtain ⟨g, c, a, b⟩ := this
  refine ⟨g, c, a, b.keep (hb.block _ b.lt) (fun z cs n e => ?_)⟩
  subst e
  exact hb.block _ b.2.lt
theorem Rep.below {B : Nat} {w w' : World} {mb s : Nat} {m : PM} {ptr : Int → Option Int} (h : Rep B w mb s m ptr) (hb : Below w.heap.size w w') : Rep B w' mb s m ptr := by
 obtain ⟨h1, h2, own, h3, h4⟩ := h
 refine ⟨h1.of_block (hb.block _ h1.lt), h2, own, h3, fun x => ?_⟩
 have := h4 x
 have hs := hb.size
 cases hm : m x with
 | none => rw [hm] at this; exact this
 | some l =>
  rw [hm] at this
  obtain ⟨g, c, a, b, b1, b2, b3, b4⟩ := this
  exact ⟨g, c, a, b.keep (hb.block _ b2) (fun z cs n e => hb.block _ (b4 z cs n e).2.1), b1, by omega, b3, fun z cs n e => ⟨(b4 z cs n e).1, by have := (b4 z cs n e).2.1; omega, (b4 z cs n e).2.2⟩⟩
/-- A new map of pages. -/
theorem Rep.made (w : World) : Rep w.heap.size (w.alloc (.map #[] 0)) w.heap.size 0 PM.none (fun _ => none) :=
 ⟨MapI.made w _ _ _ _, Nat.le_refl _, fun _ => none, rfl, fun x => rfl⟩
theorem Rep.at_none {B : Nat} {w : World} {mb s : Nat} {m : PM} {ptr : Int → Option Int} (h : Rep B w mb s m ptr) {x : Int} (hx : m x = none) : ptr x = none := by
 obtain ⟨h1, h2, own, h3, h4⟩ := h
 have := h4 x
 rw [hx] at this
 exact this
theorem Rep.at_some {B : Nat} {w : World} {mb s : Nat} {m : PM} {ptr : Int → Option Int} (h : Rep B w mb s m ptr) {x : Int} {l : Lot} (hx : m x = some l) : ∃ g c : Nat, ptr x = some (g : Int) ∧ LotAt w g c l ∧ B ≤ g := by
 obtain ⟨h1, h2, own, h3, h4⟩ := h
 have := h4 x
 rw [hx] at this
 obtain ⟨g, c, a, b, b1, -⟩ := this
 exact ⟨g, c, a, b, b1⟩
def ownNew (n : Nat) (x : Int) (own : Nat → Option Int) (k : Nat) : Option Int := if n ≤ k then some x else own k
theorem own_new {n : Nat} {x : Int} {own : Nat → Option Int} {k : Nat} (h : n ≤ k) : ownNew n x own k = some x := if_pos h
theorem own_old {n : Nat} {x : Int} {own : Nat → Option Int} {k : Nat} (h : k < n) : ownNew n x own k = own k := if_neg (Nat.not_le.2 h)
/-- A lot of its own is laid at a page that has none: w1 is w and the lot's new blocks. -/
theorem Rep.new_lot {B : Nat} {w w1 w2 : World} {mb s s' : Nat} {m : PM} {ptr : Int → Option Int} (h : Rep B w mb s m ptr) (hB : B ≤ w.heap.size) {x : Int} (hx : m x = none) (hb : Below w.heap.size w w1) {g c : Nat} {l : Lot}
  (hg : w.heap.size ≤ g) (hc : ∀ z cs n, l = .small z cs n → w.heap.size ≤ c) (hl : LotAt w1 g c l) (hmap : MapI Try.prog El.ptr 3 .i64 w2 mb s' (upd ptr x (g : Int))) (hgr : w1.grownBy w2 (some mb)) :
  Rep B w2 mb s' (pmSet m x l) (upd ptr x (g : Int)) := by
 obtain ⟨h1, h2, own, h3, h4⟩ := h
 have hmb := h1.lt
 have hs := hb.size
 have hs2 := hgr.size
 have hgl := hl.lt
 have hcl : ∀ z cs n, l = .small z cs n → c < w1.heap.size := fun z cs n e => by subst e; exact hl.2.lt
 refine ⟨hmap, h2, ownNew w.heap.size x own, (own_old hmb).trans h3, fun y => ?_⟩
 by_cases e : y = x
 ·subst e
  rw [pmSet_same]
  refine ⟨g, c, by simp [upd], hl.keep (hgr.block _ hgl (by intro e; injection e with e; omega)) (fun z cs n e => hgr.block _ (hcl z cs n e) (by have := hc z cs n e; intro e; injection e with e; omega)), by omega, by omega, own_new hg, fun z cs n e => ⟨by have := hc z cs n e; omega, by have := hcl z cs n e; omega, own_new (hc z cs n e)⟩⟩
 ·rw [pmSet_other m l e]
  have := h4 y
  cases hm : m y with
  | none => rw [hm] at this; simpa [upd, e] using this
  | some l2 =>
   rw [hm] at this
   obtain ⟨g2, c2, a, b, b1, b2, b3, b4⟩ := this
   refine ⟨g2, c2, by simpa [upd, e] using a, ?_, b1, by omega, (own_old b2).trans b3, fun z cs n e2 => ⟨(b4 z cs n e2).1, by have := (b4 z cs n e2).2.1; omega, (own_old (b4 z cs n e2).2.1).trans (b4 z cs n e2).2.2⟩⟩
   have ne1 : g2 ≠ mb := fun e2 => by rw [e2, h3] at b3; cases b3
   refine b.keep ((hgr.block _ (by omega) (by intro e2; injection e2 with e2; exact ne1 e2)).trans (hb.block _ b2)) (fun z cs n e2 => ?_)
   obtain ⟨q1, q2, q3⟩ := b4 z cs n e2
   have ne2 : c2 ≠ mb := fun e2 => by rw [e2, h3] at q3; cases q3
   exact (hgr.block _ (by omega) (by intro e2; injection e2 with e2; exact ne2 e2)).trans (hb.block _ q2)
/-- A cell is laid into a small lot. -/
theorem Rep.new_cell {B : Nat} {w : World} {mb s : Nat} {m : PM} {ptr : Int → Option Int} (h : Rep B w mb s m ptr) {x : Int} {z : Int} {cs : Int → Option Int} {n : Nat} (hx : m x = some (.small z cs n)) :
  ∃ g c : Nat, ptr x = some (g : Int) ∧ LotAt w g c (.small z cs n) ∧ B ≤ g ∧ B ≤ c ∧ ∀ w2 n' cs', MapI Try.prog (El.int .u64) 22 .u64 w2 c n' cs' → w.grownBy w2 (some c) → Rep B w2 mb s (pmSet m x (.small z cs' n')) ptr := by
 obtain ⟨h1, h2, own, h3, h4⟩ := h
 have hat := h4 x
 rw [hx] at hat
 obtain ⟨g, c, a, b, b1, b2, b3, b4⟩ := hat
 obtain ⟨q1, q2, q3⟩ := b4 _ _ _ rfl
 have ngc : g ≠ c := fun e => by
  obtain ⟨hg, D, ⟨es, clock, hc, _⟩, _⟩ := b
  rw [e, hc] at hg
  cases hg
 refine ⟨g, c, a, b, b1, q1, fun w2 n' cs' hmap hgr => ?_⟩
 have hs2 := hgr.size
 have nmb : mb ≠ c := fun e => by rw [e, q3] at h3; cases h3
 refine ⟨h1.of_block (hgr.block _ h1.lt (by intro e; injection e with e; exact nmb e)), h2, own, h3, fun y => ?_⟩
 by_cases e : y = x
 ·subst e
  rw [pmSet_same]
  exact ⟨g, c, a, ⟨(hgr.block _ b2 (by intro e; injection e with e; exact ngc e)).trans b.1, hmap⟩, b1, by omega, b3, fun z cs n e => ⟨q1, by omega, q3⟩⟩
 ·rw [pmSet_other m _ e]
  have := h4 y
  cases hm : m y with
  | none => rw [hm] at this; exact this
  | some l2 =>
   rw [hm] at this
   obtain ⟨g2, c2, a', b', b1', b2', b3', b4'⟩ := this
   have ne1 : g2 ≠ c := fun e2 => by rw [e2, q3] at b3'; injection b3' with e3; exact e e3.symm
   refine ⟨g2, c2, a', ?_, b1', by omega, b3', fun z cs n e2 => ⟨(b4' z cs n e2).1, by have := (b4' z cs n e2).2.1; omega, (b4' z cs n e2).2.2⟩⟩
   refine b'.keep (hgr.block _ b2' (by intro e2; injection e2 with e2; exact ne1 e2)) (fun z cs n e2 => ?_)
   obtain ⟨t1, t2, t3⟩ := b4' z cs n e2
   have ne2 : c2 ≠ c := fun e3 => by rw [e3, q3] at t3; injection t3 with e4; exact e e4.symm
   exact hgr.block _ t2 (by intro e3; injection e3 with e3; exact ne2 e3)
end Go.Proofs.Ytihfblnjgaalcaa.OR
