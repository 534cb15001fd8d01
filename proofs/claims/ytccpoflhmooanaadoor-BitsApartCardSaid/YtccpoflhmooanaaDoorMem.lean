/- What a call does to memory, said of whole blocks: which may have turned, which stand. -/
import Derived.Test.YtccpoflhmooanaaDoorWMore
import Derived.Test.YtccpoflhmooanaaDoorWSized
namespace Go.Proofs.YtccpoflhmooanaaDoor.Mem
open Go.RowKit Go.Proofs.YtccpoflhmooanaaDoorW.PrintWords Go.Proofs.YtccpoflhmooanaaDoorW.PrintLast Go.Proofs.YtccpoflhmooanaaDoorW.PrintMore
set_option linter.unusedVariables false

/-- w' is w, but for new blocks, and for what lies in blocks of F. -/
structure Upd (F : Nat → Prop) (w w' : World) : Prop where
  os : w'.os = w.os
  tape : w'.tape = w.tape
  output : w'.output = w.output
  size : w.heap.size ≤ w'.heap.size
  block : ∀ k, k < w.heap.size → ¬ F k → w'.heap[k]? = w.heap[k]?
/-- The blocks that are not there yet. -/
def New (w : World) (k : Nat) : Prop := w.heap.size ≤ k
/-- F, and what is new since w. -/
def Or (F : Nat → Prop) (w : World) (k : Nat) : Prop := F k ∨ w.heap.size ≤ k
def No (_ : Nat) : Prop := False
def From (B k : Nat) : Prop := B ≤ k

theorem Upd.refl (F : Nat → Prop) (w : World) : Upd F w w := ⟨rfl, rfl, rfl, Nat.le_refl _, fun _ _ _ => rfl⟩
theorem Upd.mono {F G : Nat → Prop} {w w' : World} (h : Upd F w w') (hs : ∀ k, F k → G k) : Upd G w w' := ⟨h.os, h.tape, h.output, h.size, fun k hk hn => h.block k hk (fun hf => hn (hs k hf))⟩
theorem Upd.trans {F G : Nat → Prop} {a b c : World} (h : Upd F a b) (k : Upd G b c) (hs : ∀ k, G k → k < a.heap.size → F k) : Upd F a c :=
  ⟨k.os.trans h.os, k.tape.trans h.tape, k.output.trans h.output, Nat.le_trans h.size k.size, fun i hi hn => (k.block i (Nat.lt_of_lt_of_le hi h.size) (fun hg => hn (hs i hg hi))).trans (h.block i hi hn)⟩
/-- Two steps on what may be written since a. -/
theorem Upd.trans' {F : Nat → Prop} {a b c : World} (h : Upd F a b) (k : Upd (Or F a) b c) : Upd F a c := h.trans k (fun i hi hl => hi.elim id (fun h2 => absurd h2 (by omega)))
theorem Upd.of_below {F : Nat → Prop} {w w' : World} (h : Below w.heap.size w w') : Upd F w w' := ⟨h.os, h.tape, h.output, h.size, fun k hk _ => h.block k hk⟩
theorem Upd.below {F : Nat → Prop} {B : Nat} {w w' : World} (h : Upd F w w') (hB : B ≤ w.heap.size) (hF : ∀ k, F k → B ≤ k) : Below B w w' :=
  ⟨h.os, h.tape, h.output, h.size, fun k hk => h.block k (by omega) (fun hf => by have := hF k hf; omega)⟩
theorem Upd.fresh {w w' : World} (h : Upd No w w') : Below w.heap.size w w' := h.below (Nat.le_refl _) (fun _ hk => hk.elim)
theorem Upd.drew {F : Nat → Prop} {a w : World} (h : Upd F a w) : Upd F a w.drew := ⟨h.os, h.tape, h.output, h.size, h.block⟩
theorem Upd.drewN {F : Nat → Prop} {a w : World} (h : Upd F a w) (n : Nat) : Upd F a (w.drewN n) := ⟨h.os, h.tape, h.output, h.size, h.block⟩
theorem Upd.alloc {F : Nat → Prop} {a w : World} (h : Upd F a w) (o : Obj) : Upd F a (w.alloc o) :=
  h.trans (G := No) ⟨rfl, rfl, rfl, by simp, fun k hk _ => Below.heap_alloc _ _ _ hk⟩ (fun _ hk => hk.elim)
theorem Upd.set {F : Nat → Prop} {a w : World} (h : Upd F a w) {p : Addr} (hp : Or F a p.block) (u : Value) : Upd F a (w.setCell p u) :=
  h.trans' ⟨rfl, rfl, rfl, by simp [World.setCell], fun k hk hn => Below.heap_setCell _ _ _ _ (fun e => hn (e ▸ hp))⟩
theorem Upd.grown {F : Nat → Prop} {a w w' : World} {row : Option Nat} (h : Upd F a w) (hg : w.grownBy w' row) (hr : ∀ k, row = some k → Or F a k) : Upd F a w' :=
  h.trans' ⟨hg.os, hg.tape, hg.output, hg.size, fun k hk hn => hg.block k hk (fun e => hn (hr k e.symm))⟩
/-- A block that is not of F stands. -/
theorem Upd.blk {F : Nat → Prop} {w w' : World} {b : Nat} {o : Obj} (h : Upd F w w') (hb : w.heap[b]? = some o) (hn : ¬ F b) : w'.heap[b]? = some o := (h.block b (blk_lt hb) hn).trans hb
theorem Upd.below_trans {F : Nat → Prop} {B : Nat} {a w w' : World} (hb : Below B a w) (h : Upd F w w') (hF : ∀ k, F k → B ≤ k) (hB : B ≤ w.heap.size) : Below B a w' := hb.trans (h.below hB hF)
theorem Or.mono {F G : Nat → Prop} {w : World} (hs : ∀ k, F k → G k) {k : Nat} (h : Or F w k) : Or G w k := h.imp (hs k) id
theorem Or.or {F : Nat → Prop} {w w' : World} (hs : w.heap.size ≤ w'.heap.size) {k : Nat} (h : Or (Or F w) w' k) : Or F w k := h.elim id (fun h => .inr (Nat.le_trans hs h))

/-- A row that Upd leaves alone. -/
theorem Upd.row {α : Type} {d : Kd α} {e : Nat} {base : Nat} {ok F : Nat → Prop} {w w1 : World} {v : Value} {xs : List α} (h : Upd F w w1) (hr : d.R e w base ok v xs) (hn : ∀ k, ok k → ¬ F k) : d.R e w1 base ok v xs :=
  Kd.R_step hr (fun k hk hl => h.block k hl (hn k hk))

end Go.Proofs.YtccpoflhmooanaaDoor.Mem
