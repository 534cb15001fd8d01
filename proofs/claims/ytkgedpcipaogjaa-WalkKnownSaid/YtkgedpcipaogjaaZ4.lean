/- Part 4 of what the rows of this seat rest on: words of the print that they need; how images, spaces, sets lie in memory; the functions walked. -/
import Derived.SizedLaws
import Derived.ChangeSlices
import Derived.WalkSpells
import Derived.WalkLawsBesides
import Derived.Laws.CopyOwn
import Derived.Lib.Hide
import Derived.BigRegion
import Derived.Laws.Bits64
import Derived.Laws.Bits64b
import Derived.Lib.ItoaNum
import Derived.Deep.AppendLies
import Derived.Deep.RegionLaw
import Derived.StillTailTactics
import Derived.Deep.LoopGhost
import Derived.Test.YtkgedpcipaogjaaZ1
import Derived.Test.YtkgedpcipaogjaaZ2
import Derived.Test.YtkgedpcipaogjaaZ3
section
set_option linter.unusedVariables false
set_option linter.unusedSimpArgs false
namespace Go.Proofs.Ytkgedpcipaogjaa.Mem
open Go.RowKit Go.Proofs.YtkgedpcipaogjaaW.PrintWords Go.Proofs.YtkgedpcipaogjaaW.PrintLast Go.Proofs.YtkgedpcipaogjaaW.PrintMore
structure Upd (F : Nat → Prop) (w w' : World) : Prop where
  os : w'.os = w.os
  tape : w'.tape = w.tape
  output : w'.output = w.output
  size : w.heap.size ≤ w'.heap.size
  block : ∀ k, k < w.heap.size → ¬ F k → w'.heap[k]? = w.heap[k]?
def New (w : World) (k : Nat) : Prop := w.heap.size ≤ k
def Or (F : Nat → Prop) (w : World) (k : Nat) : Prop := F k ∨ w.heap.size ≤ k
def No (_ : Nat) : Prop := False
theorem Upd.refl (F : Nat → Prop) (w : World) : Upd F w w := ⟨rfl, rfl, rfl, Nat.le_refl _, fun _ _ _ => rfl⟩
theorem Upd.mono {F G : Nat → Prop} {w w' : World} (h : Upd F w w') (hs : ∀ k, F k → G k) : Upd G w w' := ⟨h.os, h.tape, h.output, h.size, fun k hk hn => h.block k hk (fun hf => hn (hs k hf))⟩
theorem Upd.trans {F G : Nat → Prop} {a b c : World} (h : Upd F a b) (k : Upd G b c) (hs : ∀ k, G k → k < a.heap.size → F k) : Upd F a c :=
  ⟨k.os.trans h.os, k.tape.trans h.tape, k.output.trans h.output, Nat.le_trans h.size k.size, fun i hi hn => (k.block i (Nat.lt_of_lt_of_le hi h.size) (fun hg => hn (hs i hg hi))).trans (h.block i hi hn)⟩
theorem Upd.trans' {F : Nat → Prop} {a b c : World} (h : Upd F a b) (k : Upd (Or F a) b c) : Upd F a c := h.trans k (fun i hi hl => hi.elim id (fun h2 => absurd h2 (by omega)))
theorem Upd.of_below {F : Nat → Prop} {w w' : World} (h : Below w.heap.size w w') : Upd F w w' := ⟨h.os, h.tape, h.output, h.size, fun k hk _ => h.block k hk⟩
theorem Upd.below {F : Nat → Prop} {B : Nat} {w w' : World} (h : Upd F w w') (hB : B ≤ w.heap.size) (hF : ∀ k, F k → B ≤ k) : Below B w w' :=
  ⟨h.os, h.tape, h.output, h.size, fun k hk => h.block k (by omega) (fun hf => by have := hF k hf; omega)⟩
theorem Upd.fresh {w w' : World} (h : Upd No w w') : Below w.heap.size w w' := h.below (Nat.le_refl _) (fun _ hk => hk.elim)
theorem Upd.drew {F : Nat → Prop} {a w : World} (h : Upd F a w) : Upd F a w.drew := ⟨h.os, h.tape, h.output, h.size, h.block⟩
theorem Upd.drewN {F : Nat → Prop} {a w : World} (h : Upd F a w) (n : Nat) : Upd F a (w.drewN n) := ⟨h.os, h.tape, h.output, h.size, h.block⟩
theorem Upd.alloc {F : Nat → Prop} {a w : World} (h : Upd F a w) (o : Obj) : Upd F a (w.alloc o) :=
  h.trans (G := No) ⟨rfl, rfl, rfl, by simp, fun k hk _ => Below.heap_alloc _ _ _ hk⟩ (fun _ hk => hk.elim)
theorem Upd.set {F : Nat → Prop} {a w : World} (h : Upd F a w) {p : Addr} (hp : Or F a p.block) (u : Value) : Upd F a (w.setCell p u) :=
  h.trans' ⟨rfl, rfl, rfl, by simp [World.setCell], fun k hk hn => Below.heap_setCell _ _ _ _ (fun e => hn (e ▸ hp))⟩
theorem Upd.grown {F : Nat → Prop} {a w w' : World} {row : Option Nat} (h : Upd F a w) (hg : w.grownBy w' row) (hr : ∀ k, row = some k → Or F a k) : Upd F a w' :=
  h.trans' ⟨hg.os, hg.tape, hg.output, hg.size, fun k hk hn => hg.block k hk (fun e => hn (hr k e.symm))⟩
theorem Upd.blk {F : Nat → Prop} {w w' : World} {b : Nat} {o : Obj} (h : Upd F w w') (hb : w.heap[b]? = some o) (hn : ¬ F b) : w'.heap[b]? = some o := (h.block b (blk_lt hb) hn).trans hb
theorem Or.mono {F G : Nat → Prop} {w : World} (hs : ∀ k, F k → G k) {k : Nat} (h : Or F w k) : Or G w k := h.imp (hs k) id
theorem Or.or {F : Nat → Prop} {w w' : World} (hs : w.heap.size ≤ w'.heap.size) {k : Nat} (h : Or (Or F w) w' k) : Or F w k := h.elim id (fun h => .inr (Nat.le_trans hs h))
theorem Upd.row {α : Type} {d : Kd α} {e : Nat} {base : Nat} {ok F : Nat → Prop} {w w1 : World} {v : Value} {xs : List α} (h : Upd F w w1) (hr : d.R e w base ok v xs) (hn : ∀ k, ok k → ¬ F k) : d.R e w1 base ok v xs :=
  Kd.R_step hr (fun k hk hl => h.block k hl (hn k hk))
end Go.Proofs.Ytkgedpcipaogjaa.Mem
namespace Go.Proofs.Ytkgedpcipaogjaa.Nums
open Go.RowKit
open Go.Lib (popAux)
def mk : Nat → Nat → Nat
  | 0, _ => 0
  | n + 1, c => 256 * mk n c + c
theorem mk_succ (n c : Nat) : mk (n + 1) c = 256 * mk n c + c := rfl
def h1 (n x : Nat) : Nat := (x / 2 &&& mk n 85) + (x &&& mk n 85)
def h2 (n x : Nat) : Nat := (h1 n x / 4 &&& mk n 51) + (h1 n x &&& mk n 51)
def h3 (n x : Nat) : Nat := (h2 n x / 16 + h2 n x) &&& mk n 15
theorem and_split (y b m c : Nat) (hb : b < 256) (hc : c < 256) : (256 * y + b) &&& (256 * m + c) = 256 * (y &&& m) + (b &&& c) := by
  have h := Nat.div_add_mod ((256 * y + b) &&& (256 * m + c)) (2 ^ 8)
  rw [Nat.and_div_two_pow, Nat.and_mod_two_pow] at h
  have e1 : (256 * y + b) / 2 ^ 8 = y := by omega
  have e2 : (256 * m + c) / 2 ^ 8 = m := by omega
  have e3 : (256 * y + b) % 2 ^ 8 = b := by omega
  have e4 : (256 * m + c) % 2 ^ 8 = c := by omega
  rw [e1, e2, e3, e4] at h
  omega
theorem and_high (s c q b : Nat) (hc : c < 2 ^ s) : (2 ^ s * q + b) &&& c = b &&& c := by
  have hx : c % 2 ^ s = c := Nat.mod_eq_of_lt hc
  have e1 : ∀ z, z &&& c = (z % 2 ^ s) &&& c := fun z => by
    have h := Nat.and_mod_two_pow (a := z) (b := c) (n := s)
    rw [hx] at h
    rw [← h]
    exact (Nat.mod_eq_of_lt (Nat.lt_of_le_of_lt Nat.and_le_right hc)).symm
  rw [e1 (2 ^ s * q + b), e1 b]
  congr 1
  rw [Nat.mul_add_mod]
def b1 (b : Nat) : Nat := (b / 2 &&& 85) + (b &&& 85)
def b2 (b : Nat) : Nat := (b1 b / 4 &&& 51) + (b1 b &&& 51)
def b3 (b : Nat) : Nat := (b2 b / 16 + b2 b) &&& 15
theorem b1_lt : ∀ b, b < 256 → b1 b < 256 := by decide +kernel
theorem b2_lt : ∀ b, b < 256 → b2 b % 16 ≤ 4 ∧ b2 b / 16 ≤ 4 := by decide +kernel
theorem b3_pop : ∀ b, b < 256 → b3 b = popAux 8 b := by decide +kernel
theorem pop8_le : ∀ b, b < 256 → popAux 8 b ≤ 8 := by decide +kernel
theorem h1_byte (n y b : Nat) (hb : b < 256) : h1 (n + 1) (256 * y + b) = 256 * h1 n y + b1 b := by
  unfold h1 b1
  rw [mk_succ]
  have e : (256 * y + b) / 2 = 256 * (y / 2) + (2 ^ 7 * (y % 2) + b / 2) := by omega
  rw [e, and_split _ _ _ _ (by omega) (by omega), and_split _ _ _ _ hb (by omega), and_high 7 85 _ _ (by decide)]
  omega
theorem h2_byte (n y b : Nat) (hb : b < 256) : h2 (n + 1) (256 * y + b) = 256 * h2 n y + b2 b := by
  unfold h2 b2
  rw [h1_byte n y b hb]
  have hl := b1_lt b hb
  generalize h1 n y = z
  generalize b1 b = c at *
  rw [mk_succ]
  have e : (256 * z + c) / 4 = 256 * (z / 4) + (2 ^ 6 * (z % 4) + c / 4) := by omega
  rw [e, and_split _ _ _ _ (by omega) (by omega), and_split _ _ _ _ hl (by omega), and_high 6 51 _ _ (by decide)]
  omega
theorem h2_low (n x : Nat) : h2 n x % 16 ≤ 4 := by
  cases n with
  | zero => simp [h2, h1, mk]
  | succ n =>
    have e : x = 256 * (x / 256) + x % 256 := by omega
    rw [e, h2_byte n _ _ (by omega)]
    have := b2_lt (x % 256) (by omega)
    omega
theorem h3_byte (n y b : Nat) (hb : b < 256) : h3 (n + 1) (256 * y + b) = 256 * h3 n y + b3 b := by
  unfold h3 b3
  rw [h2_byte n y b hb]
  have hl := b2_lt b hb
  have hlow := h2_low n y
  generalize h2 n y = z at *
  generalize b2 b = c at *
  rw [mk_succ]
  have e : (256 * z + c) / 16 + (256 * z + c) = 256 * (z / 16 + z) + (16 * (z % 16) + (c / 16 + c)) := by omega
  rw [e, and_split _ _ _ _ (by omega) (by omega)]
  have := and_high 4 15 (z % 16) (c / 16 + c) (by decide)
  rw [show 16 * (z % 16) = 2 ^ 4 * (z % 16) from rfl, this]
theorem pop_add (f g : Nat) : ∀ x, popAux (f + g) x = popAux f (x % 2 ^ f) + popAux g (x / 2 ^ f) := by
  induction f with
  | zero => intro x; simp [popAux]
  | succ f ih =>
    intro x
    rw [show f + 1 + g = (f + g) + 1 by omega]
    simp only [popAux]
    rw [ih (x / 2), Nat.pow_succ]
    have e1 : x / 2 % 2 ^ f = x % (2 ^ f * 2) / 2 := by rw [Nat.mul_comm]; exact (Nat.mod_mul_right_div_self x 2 (2 ^ f)).symm
    have e2 : x / 2 / 2 ^ f = x / (2 ^ f * 2) := by rw [Nat.div_div_eq_div_mul, Nat.mul_comm]
    have e3 : x % (2 ^ f * 2) % 2 = x % 2 := Nat.mod_mul_left_mod x (2 ^ f) 2
    rw [e1, e2, e3]; omega
theorem pop_byte (f x : Nat) : popAux (8 + f) x = popAux 8 (x % 256) + popAux f (x / 256) := pop_add 8 f x
theorem mk85 : mk 8 85 = 6148914691236517205 := by decide
theorem mk51 : mk 8 51 = 3689348814741910323 := by decide
theorem mk15 : mk 8 15 = 1085102592571150095 := by decide
theorem h3_bytes (x : Nat) (hx : x < 2 ^ 64) : ∃ p0 p1 p2 p3 p4 p5 p6 p7 y1 y2 y3 y4 y5 y6 : Nat, (p0 ≤ 8 ∧ p1 ≤ 8 ∧ p2 ≤ 8 ∧ p3 ≤ 8 ∧ p4 ≤ 8 ∧ p5 ≤ 8 ∧ p6 ≤ 8 ∧ p7 ≤ 8) ∧
    popAux 64 x = p0 + p1 + p2 + p3 + p4 + p5 + p6 + p7 ∧
    h3 8 x = 256 * y1 + p0 ∧ y1 = 256 * y2 + p1 ∧ y2 = 256 * y3 + p2 ∧ y3 = 256 * y4 + p3 ∧ y4 = 256 * y5 + p4 ∧ y5 = 256 * y6 + p5 ∧ y6 = 256 * p7 + p6 := by
  have st : ∀ n f y, h3 (n + 1) y = 256 * h3 n (y / 256) + popAux 8 (y % 256) ∧ popAux (8 + f) y = popAux 8 (y % 256) + popAux f (y / 256) ∧ popAux 8 (y % 256) ≤ 8 := by
    intro n f y
    refine ⟨?_, pop_byte f y, pop8_le _ (by omega)⟩
    have e : y = 256 * (y / 256) + y % 256 := by omega
    have := h3_byte n (y / 256) (y % 256) (by omega)
    rw [← e, b3_pop _ (by omega)] at this
    exact this
  obtain ⟨a0, c0, d0⟩ := st 7 56 x
  obtain ⟨a1, c1, d1⟩ := st 6 48 (x / 256)
  obtain ⟨a2, c2, d2⟩ := st 5 40 (x / 256 / 256)
  obtain ⟨a3, c3, d3⟩ := st 4 32 (x / 256 / 256 / 256)
  obtain ⟨a4, c4, d4⟩ := st 3 24 (x / 256 / 256 / 256 / 256)
  obtain ⟨a5, c5, d5⟩ := st 2 16 (x / 256 / 256 / 256 / 256 / 256)
  obtain ⟨a6, c6, d6⟩ := st 1 8 (x / 256 / 256 / 256 / 256 / 256 / 256)
  obtain ⟨a7, c7, d7⟩ := st 0 0 (x / 256 / 256 / 256 / 256 / 256 / 256 / 256)
  have z0 : ∀ y, h3 0 y = 0 := fun y => by simp [h3, h2, h1, mk]
  have z1 : ∀ y, popAux 0 y = 0 := fun y => rfl
  rw [z0] at a7
  rw [z1] at c7
  refine ⟨_, _, _, _, _, _, _, _, _, _, _, _, _, _, ⟨d0, d1, d2, d3, d4, d5, d6, d7⟩, ?_, a0, a1, a2, a3, a4, a5, ?_⟩
  · simp only [Nat.reduceAdd] at c0 c1 c2 c3 c4 c5 c6 c7
    rw [c0, c1, c2, c3, c4, c5, c6, c7]; omega
  · rw [a6, a7]; omega
theorem h1_lt (x : Nat) (hx : x < 2 ^ 64) : h1 8 x < 2 ^ 64 := by
  have a : (x / 2 &&& mk 8 85) ≤ mk 8 85 := Nat.and_le_right
  have b : (x &&& mk 8 85) ≤ mk 8 85 := Nat.and_le_right
  unfold h1; rw [mk85] at *; omega
theorem h2_lt (x : Nat) : h2 8 x < 2 ^ 63 := by
  have a : (h1 8 x / 4 &&& mk 8 51) ≤ mk 8 51 := Nat.and_le_right
  have b : (h1 8 x &&& mk 8 51) ≤ mk 8 51 := Nat.and_le_right
  unfold h2; rw [mk51] at *; omega
theorem wrapu (n : Int) : IntKind.u64.wrap n = n % 18446744073709551616 := by simp [IntKind.wrap, IntKind.bits, IntKind.signed]
theorem wrapu_nat {n : Nat} (h : n < 18446744073709551616) : IntKind.u64.wrap (n : Int) = n := by rw [wrapu]; omega
theorem and_u64 (a b : Nat) (ha : a < 18446744073709551616) (hb : b < 18446744073709551616) : Go.bits .and .u64 (a : Int) (b : Int) = ((a &&& b : Nat) : Int) := Go.u64_and_nat a b ha hb
theorem lin {a b c d p q : Nat} (h : a = 256 * c + p) (k : b = 256 * d + q) : a + b = 256 * (c + d) + (p + q) := by omega
theorem and127 (n : Nat) (h : n < 9223372036854775808) : Go.bits .and .i64 (n : Int) 127 = ((n % 128 : Nat) : Int) := by
  have := bits_mask .i64 63 (by decide) (fun n h0 h1 => by rw [IntKind.wrap_i64]; omega) 7 (by decide) (n : Int) (by omega) (by omega)
  have e : ((2 : Int) ^ 7 - 1) = 127 := by decide
  rw [e] at this
  rw [this]; omega
theorem s1 (x : Nat) (hx : x < 2 ^ 64) : IntKind.u64.wrap ((Go.bits .and .u64 ((x : Int) / 2) 6148914691236517205) + (Go.bits .and .u64 (x : Int) 6148914691236517205)) = (h1 8 x : Int) := by
  have hl := h1_lt x hx
  have e : ((x : Int) / 2) = ((x / 2 : Nat) : Int) := by omega
  rw [e, show (6148914691236517205 : Int) = ((6148914691236517205 : Nat) : Int) from rfl, and_u64 _ _ (by omega) (by omega), and_u64 _ _ (by omega) (by omega), ← mk85, ← Int.natCast_add]
  exact wrapu_nat hl
theorem s2 (x : Nat) (hx : x < 2 ^ 64) : IntKind.u64.wrap ((Go.bits .and .u64 ((h1 8 x : Int) / 4) 3689348814741910323) + (Go.bits .and .u64 (h1 8 x : Int) 3689348814741910323)) = (h2 8 x : Int) := by
  have hl := h2_lt x
  have hl1 := h1_lt x hx
  have e : ((h1 8 x : Int) / 4) = ((h1 8 x / 4 : Nat) : Int) := by omega
  rw [e, show (3689348814741910323 : Int) = ((3689348814741910323 : Nat) : Int) from rfl, and_u64 _ _ (by omega) (by omega), and_u64 _ _ (by omega) (by omega), ← mk51, ← Int.natCast_add]
  exact wrapu_nat (show h2 8 x < _ by omega)
theorem s3 (x : Nat) (hx : x < 2 ^ 64) : Go.bits .and .u64 (IntKind.u64.wrap ((h2 8 x : Int) / 16 + (h2 8 x : Int))) 1085102592571150095 = (h3 8 x : Int) := by
  have hl := h2_lt x
  have e : ((h2 8 x : Int) / 16 + (h2 8 x : Int)) = ((h2 8 x / 16 + h2 8 x : Nat) : Int) := by omega
  rw [e, wrapu_nat (by omega), show (1085102592571150095 : Int) = ((1085102592571150095 : Nat) : Int) from rfl, and_u64 _ _ (by omega) (by omega), ← mk15]
  rfl
theorem s4 (x : Nat) (hx : x < 2 ^ 64) : Go.bits .and .i64 (wrap64 (IntKind.u64.wrap
    (IntKind.u64.wrap (IntKind.u64.wrap ((h3 8 x : Int) + (h3 8 x : Int) / 256) + IntKind.u64.wrap ((h3 8 x : Int) + (h3 8 x : Int) / 256) / 65536) +
      IntKind.u64.wrap (IntKind.u64.wrap ((h3 8 x : Int) + (h3 8 x : Int) / 256) + IntKind.u64.wrap ((h3 8 x : Int) + (h3 8 x : Int) / 256) / 65536) / 4294967296))) 127 = (popAux 64 x : Int) := by
  obtain ⟨p0, p1, p2, p3, p4, p5, p6, p7, y1, y2, y3, y4, y5, y6, hl, hp, e0, e1, e2, e3, e4, e5, e6⟩ := h3_bytes x hx
  obtain ⟨y, hy⟩ : ∃ y, y = h3 8 x := ⟨_, rfl⟩
  rw [← hy] at e0 ⊢
  rw [hp]
  clear hp hy hx
  obtain ⟨l0, l1, l2, l3, l4, l5, l6, l7⟩ := hl
  have by6 : y6 ≤ 2056 := by omega
  have by5 : y5 ≤ 526344 := by omega
  have by4 : y4 ≤ 134744072 := by omega
  have by3 : y3 ≤ 34494482440 := by omega
  have by2 : y2 ≤ 8830587504648 := by omega
  have by1 : y1 ≤ 2260630401189896 := by omega
  have by0 : y ≤ 578721382704613384 := by omega
  have d0 : y / 256 = y1 := by omega
  have w1 : IntKind.u64.wrap ((y : Int) + (y : Int) / 256) = ((y + y1 : Nat) : Int) := by rw [wrapu]; omega
  rw [w1]
  obtain ⟨z, hz⟩ : ∃ z, z = y + y1 := ⟨_, rfl⟩
  rw [← hz]
  have z0 : z = 256 * (y1 + y2) + (p0 + p1) := hz.trans (lin e0 e1)
  have z1 : y1 + y2 = 256 * (y2 + y3) + (p1 + p2) := lin e1 e2
  have z2 : y2 + y3 = 256 * (y3 + y4) + (p2 + p3) := lin e2 e3
  have z3 : y3 + y4 = 256 * (y4 + y5) + (p3 + p4) := lin e3 e4
  have z4 : y4 + y5 = 256 * (y5 + y6) + (p4 + p5) := lin e4 e5
  have z5 : y5 + y6 = 256 * (y6 + p7) + (p5 + p6) := lin e5 e6
  have z6 : y6 + p7 = 256 * p7 + (p6 + p7) := by rw [e6, Nat.add_assoc]
  have bz : z ≤ 600000000000000000 := by omega
  clear e0 d0 w1 e6 e5 e4 e3 e2 e1 hz
  obtain ⟨c1, hc1⟩ : ∃ c, c = y1 + y2 := ⟨_, rfl⟩
  obtain ⟨c2, hc2⟩ : ∃ c, c = y2 + y3 := ⟨_, rfl⟩
  obtain ⟨c3, hc3⟩ : ∃ c, c = y3 + y4 := ⟨_, rfl⟩
  obtain ⟨c4, hc4⟩ : ∃ c, c = y4 + y5 := ⟨_, rfl⟩
  obtain ⟨c5, hc5⟩ : ∃ c, c = y5 + y6 := ⟨_, rfl⟩
  obtain ⟨c6, hc6⟩ : ∃ c, c = y6 + p7 := ⟨_, rfl⟩
  rw [← hc1] at z0 z1
  rw [← hc2] at z1 z2
  rw [← hc3] at z2 z3
  rw [← hc4] at z3 z4
  rw [← hc5] at z4 z5
  rw [← hc6] at z5 z6
  clear hc1 hc2 hc3 hc4 hc5 hc6 by6 by5 by4 by3 by2 by1 by0 y y1 y2 y3 y4 y5 y6
  have d1 : z / 65536 = c2 := by clear z2 z3 z4 z5 z6; omega
  have bc2 : c2 ≤ z := by clear z2 z3 z4 z5 z6; omega
  have w2 : IntKind.u64.wrap ((z : Int) + (z : Int) / 65536) = ((z + c2 : Nat) : Int) := by rw [wrapu]; omega
  rw [w2]
  obtain ⟨u, hu⟩ : ∃ u, u = z + c2 := ⟨_, rfl⟩
  rw [← hu]
  have u0 : u = 256 * (c1 + c3) + ((p0 + p1) + (p2 + p3)) := hu.trans (lin z0 z2)
  have u1 : c1 + c3 = 256 * (c2 + c4) + ((p1 + p2) + (p3 + p4)) := lin z1 z3
  have u2 : c2 + c4 = 256 * (c3 + c5) + ((p2 + p3) + (p4 + p5)) := lin z2 z4
  have u3 : c3 + c5 = 256 * (c4 + c6) + ((p3 + p4) + (p5 + p6)) := lin z3 z5
  have u4 : c4 + c6 = 256 * (c5 + p7) + ((p4 + p5) + (p6 + p7)) := lin z4 z6
  have bu : u ≤ 1200000000000000000 := by clear z0 z1 z2 z3 z4 z5 z6 u0 u1 u2 u3 u4; omega
  clear hu w2 d1 bc2 z0 z1 z2 z3 z4 z5 z6 bz
  obtain ⟨f1, hf1⟩ : ∃ c, c = c1 + c3 := ⟨_, rfl⟩
  obtain ⟨f2, hf2⟩ : ∃ c, c = c2 + c4 := ⟨_, rfl⟩
  obtain ⟨f3, hf3⟩ : ∃ c, c = c3 + c5 := ⟨_, rfl⟩
  obtain ⟨f4, hf4⟩ : ∃ c, c = c4 + c6 := ⟨_, rfl⟩
  obtain ⟨f5, hf5⟩ : ∃ c, c = c5 + p7 := ⟨_, rfl⟩
  rw [← hf1] at u0 u1
  rw [← hf2] at u1 u2
  rw [← hf3] at u2 u3
  rw [← hf4] at u3 u4
  rw [← hf5] at u4
  clear hf1 hf2 hf3 hf4 hf5 z c1 c2 c3 c4 c5 c6
  have g1 : u / 256 = f1 := by clear u1 u2 u3 u4; omega
  have g2 : f1 / 256 = f2 := by clear u0 u2 u3 u4; omega
  have g3 : f2 / 256 = f3 := by clear u0 u1 u3 u4; omega
  have g4 : f3 / 256 = f4 := by clear u0 u1 u2 u4; omega
  have d2 : u / 4294967296 = f4 := by rw [show 4294967296 = 256 * 256 * 256 * 256 from rfl, ← Nat.div_div_eq_div_mul, ← Nat.div_div_eq_div_mul, ← Nat.div_div_eq_div_mul, g1, g2, g3, g4]
  have bf : f4 ≤ u := by rw [← d2]; exact Nat.div_le_self _ _
  have d3 : (u : Int) / 4294967296 = (f4 : Int) := by rw [← d2]; rfl
  have u4' := u4
  have u0' := u0
  clear u0 u1 u2 u3 u4 g1 g2 g3 g4 d2
  have w3 : wrap64 (IntKind.u64.wrap ((u : Int) + (u : Int) / 4294967296)) = ((u + f4 : Nat) : Int) := by
    have : IntKind.u64.wrap ((u : Int) + (u : Int) / 4294967296) = ((u + f4 : Nat) : Int) := by rw [d3, wrapu]; omega
    rw [this]; unfold wrap64; omega
  rw [w3]
  have w4 := and127 (u + f4) (by clear u0' u4' w3 d3; omega)
  rw [w4]
  congr 1
  clear w3 w4 d3 bu bf
  omega
end Go.Proofs.Ytkgedpcipaogjaa.Nums
namespace Go.Proofs.Ytkgedpcipaogjaa.Nums
theorem info22 : (Try.prog.info? 22).map (fun i => (i.zero, i.size, i.bytes)) = some (some (.int .u64 0), 1, 8) := by kernel_rfl
end Go.Proofs.Ytkgedpcipaogjaa.Nums
namespace Go.Proofs.Ytkgedpcipaogjaa.Sets
open Go.RowKit Go.Proofs.YtkgedpcipaogjaaW.PrintWords Go.Proofs.YtkgedpcipaogjaaW.PrintLast Go.Proofs.YtkgedpcipaogjaaW.PrintMore Go.Proofs.Ytkgedpcipaogjaa.Mem
theorem ret_bool {a b : Bool} (h : a = b) : Ending.returned (.bool a) = .returned (.bool b) := by rw [h]
def Wd (ws : List Int) : Prop := ∀ i : Nat, 0 ≤ ws.getD i 0 ∧ ws.getD i 0 < 18446744073709551616
def SetR (F : Nat → Prop) (w : World) (b : Nat) (n : Int) (ws : List Int) : Prop :=
  F b ∧ (0 ≤ n ∧ n ≤ 1048576) ∧ (ws.length : Int) = (n + 63) / 64 ∧ Wd ws ∧
    ∃ v, w.heap[b]? = some (.cells #[.int .i64 n, v] 156 (0, 0)) ∧ (Kd.int .u64).R 22 w 0 (fun k => F k ∧ k ≠ b) v ws
theorem SetR.mono {F G : Nat → Prop} {w : World} {b : Nat} {n : Int} {ws : List Int} (h : SetR F w b n ws) (hs : ∀ k, F k → G k) : SetR G w b n ws := by
  obtain ⟨h1, h2, h3, h4, v, h5, h6⟩ := h
  exact ⟨hs _ h1, h2, h3, h4, v, h5, Kd.R_mono h6 (fun k hk => ⟨hs k hk.1, hk.2⟩)⟩
theorem SetR.step {F : Nat → Prop} {w w' : World} {b : Nat} {n : Int} {ws : List Int} (h : SetR F w b n ws) (hm : ∀ k, F k → k < w.heap.size → w'.heap[k]? = w.heap[k]?) : SetR F w' b n ws := by
  obtain ⟨h1, h2, h3, h4, v, h5, h6⟩ := h
  exact ⟨h1, h2, h3, h4, v, (hm b h1 (blk_lt h5)).trans h5, Kd.R_step h6 (fun k hk => hm k hk.1)⟩
theorem SetR.upd {F G : Nat → Prop} {w w' : World} {b : Nat} {n : Int} {ws : List Int} (h : SetR F w b n ws) (hu : Upd G w w') (hn : ∀ k, F k → ¬ G k) : SetR F w' b n ws := h.step (fun k hk hl => hu.block k hl (hn k hk))
theorem SetR.bound {F : Nat → Prop} {w : World} {b : Nat} {n : Int} {ws : List Int} (h : SetR F w b n ws) : SetR (fun k => F k ∧ k < w.heap.size) w b n ws := by
  obtain ⟨h1, h2, h3, h4, v, h5, h6⟩ := h
  exact ⟨⟨h1, blk_lt h5⟩, h2, h3, h4, v, h5, Kd.R_mono (Kd.R_bound h6) (fun k hk => ⟨⟨hk.1.1, hk.2.2.1⟩, hk.1.2⟩)⟩
theorem wd_set {ws : List Int} (h : Wd ws) (i : Nat) (x : Int) (hx : 0 ≤ x ∧ x < 18446744073709551616) : Wd (ws.set i x) := by
  intro j
  simp only [List.getD_eq_getElem?_getD, List.getElem?_set]
  by_cases e : i = j
  · by_cases hl : i < ws.length
    · simp [e, hx]; rw [if_pos (by omega)]; exact hx
    · simp [e]; rw [if_neg (by omega)]; simp
  · rw [if_neg e]; have := h j; rwa [List.getD_eq_getElem?_getD] at this
theorem SetR.put {F : Nat → Prop} {w : World} {b : Nat} {n : Int} {ws : List Int} (h : SetR F w b n ws) {g cap : Nat}
    (h5 : w.heap[b]? = some (.cells #[.int .i64 n, .slice (some ⟨g, 0, none⟩) ws.length cap] 156 (0, 0)))
    (h6 : (Kd.int .u64).R 22 w 0 (fun k => F k ∧ k ≠ b) (.slice (some ⟨g, 0, none⟩) ws.length cap) ws) (i : Nat) (hi : i < ws.length) (x : Int) (hx : 0 ≤ x ∧ x < 18446744073709551616) :
    SetR F (w.setCell ⟨g, i, none⟩ (.int .u64 x)) b n (ws.set i x) ∧ Upd F w (w.setCell ⟨g, i, none⟩ (.int .u64 x)) := by
  obtain ⟨h1, h2, h3, h4, -⟩ := h
  have hg := h6.1 g (by simp [Value.ownBlock])
  obtain ⟨hp, hgr⟩ := Kd.R_put h6 (i : Int) x
  simp only [Int.toNat_natCast] at hp hgr
  refine ⟨⟨h1, h2, by rw [List.length_set]; exact h3, wd_set h4 i x hx, _, blk_grown h5 hgr (by simpa using Ne.symm hg.2), hp⟩, ?_⟩
  exact (Upd.refl _ _).grown hgr (fun k hk => by injection hk with hk; exact .inl (hk ▸ hg.1))
theorem mod_wd (x p : Int) (h : 0 ≤ x ∧ x < 18446744073709551616) : 0 ≤ x % 2 ^ (p).toNat ∧ x % 2 ^ (p).toNat < 18446744073709551616 := by
  have hp : (0 : Int) < 2 ^ p.toNat := Int.pow_pos (by omega)
  obtain ⟨n, hn⟩ := Int.eq_ofNat_of_zero_le h.1
  have e0 : ((2 : Int) ^ p.toNat) = ((2 ^ p.toNat : Nat) : Int) := by simp
  refine ⟨Int.emod_nonneg _ (by omega), ?_⟩
  have : n % 2 ^ p.toNat ≤ n := Nat.mod_le _ _
  rw [hn, e0]; omega
theorem cut_word (x p : Int) (h0 : 0 ≤ p) (h1 : p < 64) (h : 0 ≤ x ∧ x < 18446744073709551616) :
    Go.bits .and .u64 x (IntKind.u64.wrap (IntKind.u64.wrap (2 ^ p.toNat) - 1)) = x % 2 ^ p.toNat := by
  obtain ⟨m, rfl⟩ := Int.eq_ofNat_of_zero_le h0
  obtain ⟨n, rfl⟩ := Int.eq_ofNat_of_zero_le h.1
  rw [Int.toNat_natCast]
  have hm : 2 ^ m < 2 ^ 64 := Nat.pow_lt_pow_right (by omega) (by omega)
  have hp : 0 < 2 ^ m := Nat.pow_pos (by omega)
  have e0 : ((2 : Int) ^ m) = ((2 ^ m : Nat) : Int) := by simp
  rw [e0]
  have e1 : IntKind.u64.wrap ((2 ^ m : Nat) : Int) = ((2 ^ m : Nat) : Int) := Nums.wrapu_nat (by omega)
  have e2 : IntKind.u64.wrap (((2 ^ m : Nat) : Int) - 1) = ((2 ^ m - 1 : Nat) : Int) := by
    rw [show ((2 ^ m : Nat) : Int) - 1 = ((2 ^ m - 1 : Nat) : Int) by omega]; exact Nums.wrapu_nat (by omega)
  rw [e1, e2, Go.u64_and_nat _ _ (by omega) (by omega), Nat.and_two_pow_sub_one_eq_mod]
  rfl
theorem Len_calls {F : Nat → Prop} {w : World} {b : Nat} {n : Int} {ws : List Int} (h : SetR F w b n ws) :
    Calls Try.prog 82 #[.pointer (some ⟨b, 0, none⟩)] w fun e w' => e = .returned (.int .i64 n) ∧ w = w' := by
  obtain ⟨h1, h2, h3, h4, v, h5, h6⟩ := h
  have c0 := blk_cell h5 0
  simp at c0
  clear h5 h6
  go_enter Try.func82, Try.ntmps82
  go_wp2
  go_ret
  exact ⟨rfl, rfl⟩
theorem has_calls {F : Nat → Prop} {w : World} {b : Nat} {n : Int} {ws : List Int} (h : SetR F w b n ws) (i : Int) :
    Calls Try.prog 103 #[.pointer (some ⟨b, 0, none⟩), .int .i64 i] w fun e w' => e = .returned (.bool (decide (0 ≤ i) && decide (i < n))) ∧ w = w' := by
  obtain ⟨h1, h2, h3, h4, v, h5, h6⟩ := h
  have c0 := blk_cell h5 0
  simp at c0
  clear h5 h6
  by_cases hi : 0 ≤ i
  · have hd : decide (i ≥ 0) = true := by simpa using hi
    go_enter Try.func103, Try.ntmps103
    go_wp2
    go_ret
    exact ⟨by simp [hi], rfl⟩
  · have hd : decide (i ≥ 0) = false := by simpa using hi
    go_enter Try.func103, Try.ntmps103
    go_wp2
    go_ret
    exact ⟨by simp [hi], rfl⟩
theorem and_one (x : Int) (h0 : 0 ≤ x) (h1 : x < 18446744073709551616) : Go.bits .and .u64 x 1 = x % 2 := by
  obtain ⟨n, rfl⟩ := Int.eq_ofNat_of_zero_le h0
  have := Go.u64_and_nat n 1 (by omega) (by omega)
  rw [nat_mask1] at this
  exact this.trans (by omega)
theorem bit_and (x : Int) (y : Int) (h0 : 0 ≤ x / y) (h1 : x / y < 18446744073709551616) : (Go.bits .and .u64 (x / y) 1 == 1) = (x / y % 2 == 1) := by rw [and_one _ h0 h1]
def bitI (ws : List Int) (i : Int) : Bool := ws.getD (i / 64).toNat 0 / 2 ^ (i % 64).toNat % 2 == 1
theorem Get_in {F : Nat → Prop} {w : World} {b : Nat} {n : Int} {ws : List Int} (h : SetR F w b n ws) (i : Int) (h0 : 0 ≤ i) (hn : i < n) :
    Calls Try.prog 83 #[.pointer (some ⟨b, 0, none⟩), .int .i64 i] w fun e w' => e = .returned (.bool (bitI ws i)) ∧ w = w' := by
  have hb : (decide (0 ≤ i) && decide (i < n)) = true := by simp [h0, hn]
  have hc := has_calls h i
  rw [hb] at hc
  have HC := Lib.hid hc
  clear hc hb
  obtain ⟨h1, h2, h3, h4, v, h5, h6⟩ := h
  obtain ⟨g, cap, rfl, -, -, -⟩ := Kd.R_form h6 (by omega)
  have c1 := blk_cell h5 1
  simp at c1
  have c2 := Kd.R_cell 0 h6 (i / 64) (by omega) (by omega)
  have h4' := Lib.hid h4
  clear h5 h6 h1 h4
  go_enter Try.func83, Try.ntmps83
  go_wp2_with (go_at_call 103; refine HC.out.mono ?_; rintro e w' ⟨rfl, rfl⟩)
  go_ret
  exact ⟨ret_bool (bit_and _ _ (Int.ediv_nonneg (h4'.out _).1 (by exact Int.pow_nonneg (by omega))) (Int.lt_of_le_of_lt (Int.ediv_le_self _ (h4'.out _).1) (h4'.out _).2)), rfl⟩
def cutW (n : Int) (ws : List Int) : List Int := if n % 64 = 0 then ws else ws.set (ws.length - 1) (ws.getD (ws.length - 1) 0 % 2 ^ (n % 64).toNat)
theorem cut_calls {F : Nat → Prop} {w : World} {b : Nat} {n : Int} {ws : List Int} (h : SetR F w b n ws) :
    Calls Try.prog 102 #[.pointer (some ⟨b, 0, none⟩)] w fun e w' => e = .returned (.tuple #[]) ∧ SetR F w' b n (cutW n ws) ∧ Upd F w w' := by
  have hS := h
  obtain ⟨h1, h2, h3, h4, v, h5, h6⟩ := h
  have c0 := blk_cell h5 0
  simp at c0
  by_cases hz : n % 64 = 0
  · have hd : (n % 64 != 0) = false := by simpa using hz
    rw [show cutW n ws = ws from if_pos hz]
    clear hz h6 h5 h1 h4
    go_enter Try.func102, Try.ntmps102
    go_wp2
    go_end0
    exact ⟨rfl, hS, Upd.refl _ _⟩
  · have hd : (n % 64 != 0) = true := by simpa using hz
    obtain ⟨g, cap, rfl, -, hg, -⟩ := Kd.R_form h6 (by omega)
    have c1 := blk_cell h5 1
    simp at c1
    have c2 := Kd.R_cell 0 h6 ((ws.length : Int) - 1) (by omega) (by omega)
    rw [show ((ws.length : Int) - 1).toNat = ws.length - 1 by omega] at c2
    have hw1 : wrap64 ((ws.length : Int) - 1) = (ws.length : Int) - 1 := by unfold wrap64; omega
    have hw2 : IntKind.i64.wrap ((ws.length : Int) - 1) = (ws.length : Int) - 1 := by rw [i64_w]; exact hw1
    have hw3 : 0 ≤ (ws.length : Int) - 1 := by omega
    have hw4 : 1 ≤ (ws.length : Int) := by omega
    have hw5 : (ws.length : Int) - 1 < ws.length := by omega
    have n0 : 0 ≤ n % 64 := by omega
    have n1 : n % 64 < 64 := by omega
    have H5 := Lib.hid h5
    have H6 := Lib.hid h6
    have H3 := Lib.hid h3
    have HZ := Lib.hid hz
    have HS := Lib.hid hS
    have h4' := Lib.hid h4
    clear h5 h6 h3 hz h4 hS
    go_enter Try.func102, Try.ntmps102
    go_wp2
    go_region
    go_wp2
    go_end0
    obtain ⟨hp, hu⟩ := SetR.put HS.out H5.out H6.out (ws.length - 1) (by omega) (ws.getD (ws.length - 1) 0 % 2 ^ (n % 64).toNat) (mod_wd _ _ (h4'.out _))
    rw [show cutW n ws = ws.set (ws.length - 1) (ws.getD (ws.length - 1) 0 % 2 ^ (n % 64).toNat) from if_neg HZ.out]
    have e := cut_word (ws.getD (ws.length - 1) 0) (n % 64) n0 n1 (h4'.out _)
    have e2 : rdOf 0 ws ((ws.length : Int) - 1) = ws.getD (ws.length - 1) 0 := by unfold rdOf; rw [show ((ws.length : Int) - 1).toNat = ws.length - 1 by omega]
    rw [e2, e]
    exact ⟨rfl, hp.step (fun k _ _ => rfl), hu.drew⟩
def fitN (n : Int) : Int := mx 0 (mn n 1048576)
theorem fitN_bd (n : Int) : 0 ≤ fitN n ∧ fitN n ≤ 1048576 := by unfold fitN mx mn; omega
def wdsN (n : Int) : Nat := ((fitN n + 63) / 64).toNat
def padW (k : Nat) (l : List Int) : List Int := l.take k ++ List.replicate (k - l.length) 0
def ofW (l : List Int) (n : Int) : List Int := cutW (fitN n) (padW (wdsN n) l)
theorem padW_length (k : Nat) (l : List Int) : (padW k l).length = k := by simp [padW]; omega
theorem padW_wd (k : Nat) (l : List Int) (h : Wd l) : Wd (padW k l) := by
  intro i
  unfold padW
  rw [List.getD_eq_getElem?_getD, List.getElem?_append]
  split
  · rw [List.getElem?_take]
    split
    · have := h i; rwa [List.getD_eq_getElem?_getD] at this
    · simp
  · rw [List.getElem?_replicate]
    split <;> simp
theorem pad_eq (k m : Nat) (l : List Int) (hm : l.length = m) : l.take (min m (List.replicate k (0 : Int)).length) ++ (List.replicate k (0 : Int)).drop (min m (List.replicate k (0 : Int)).length) = padW k l := by
  subst hm
  unfold padW
  rw [List.length_replicate, List.drop_replicate]
  by_cases h : l.length ≤ k
  · rw [Nat.min_eq_left h, List.take_of_length_le (Nat.le_refl _), List.take_of_length_le h]
  · rw [Nat.min_eq_right (by omega), show k - l.length = 0 by omega, show k - k = 0 by omega]
theorem made_row {w0 w1 : World} {k : Nat} (h : w1.ownsRow 0 22 1 (.slice (some ⟨w0.heap.size, 0, none⟩) k k) k (madeCells (Value.int .u64 0).cells (k * 1)).toList) :
    (Kd.int .u64).R 22 w1 0 (fun _ => True) (.slice (some ⟨w0.heap.size, 0, none⟩) k k) (List.replicate k 0) := by
  refine Kd.R_of_own (enc := Value.int .u64) ?_ (fun _ _ => trivial)
  have e : (madeCells (Value.int .u64 0).cells (k * 1)).toList = encs (Value.int .u64) (List.replicate k 0) := by
    rw [Nat.mul_one]
    exact (toList_madeCells_one _ _).trans (by simp [encs])
  rw [e] at h
  rw [List.length_replicate]; exact h
theorem of_set {w w0 w1 w2 : World} {m : Int} {k : Nat} {xs : List Int} (hB : Below w.heap.size w w0) (hgrow : w0.grownBy w1 none) (hlt : w0.heap.size < w1.heap.size)
    (hg2 : (w1.alloc (.cells #[.int .i64 m, .slice (some ⟨w0.heap.size, 0, none⟩) k k] 156)).grownBy w2 (some w0.heap.size))
    (hrow : (Kd.int .u64).R 22 w2 0 (fun _ => True) (.slice (some ⟨w0.heap.size, 0, none⟩) k k) xs) (hm : 0 ≤ m ∧ m ≤ 1048576) (hk : (xs.length : Int) = (m + 63) / 64) (hw : Wd xs) :
    SetR (New w) w2 w1.heap.size m xs ∧ Upd No w w2 := by
  have s0 := hB.size
  have s1 := hgrow.size
  refine ⟨⟨by unfold New; omega, hm, hk, hw, _, blk_grown (blk_new _ _) hg2 (by simp; omega), ?_⟩, ?_⟩
  · exact ⟨fun k hk => by
      simp [Value.ownBlock] at hk
      subst hk
      exact ⟨s0, by omega⟩, hrow.2⟩
  · have u0 : Upd No w w0 := Upd.of_below hB
    have u1 : Upd No w w1 := u0.grown hgrow (fun _ h => by cases h)
    exact (u1.alloc _).grown hg2 (fun _ h => by injection h with h; exact .inr (h ▸ s0))
theorem sz22 : (Try.prog.info? 22).map (·.size) = some 1 := by kernel_rfl
theorem below_grown {w w1 : World} (h : w.grownBy w1 none) : Below w.heap.size w w1 := (Below.refl _ _).grown h (Nat.le_refl _) (fun _ h => by cases h)
theorem Of_calls {w : World} {A : Option Addr} {c : Nat} {l : List Int} (n : Int) (hl : (Kd.int .u64).C w A l.length l) (hw : Wd l) :
    Calls Try.prog 80 #[.slice A l.length c, .int .i64 n] w fun e w' => ∃ b, e = .returned (.pointer (some ⟨b, 0, none⟩)) ∧ SetR (New w) w' b (fitN n) (ofW l n) ∧ Upd No w w' := by
  have hb := fitN_bd n
  obtain ⟨k, hk⟩ := Int.eq_ofNat_of_zero_le (show 0 ≤ (fitN n + 63) / 64 by omega)
  have HF : Hid (Go.Proofs.Ytkgedpcipaogjaa.PWalkChecks.bits_fit.f n = some (fitN n, (k : Int))) := by show _ = _; rw [← hk]; rfl
  have HK : Hid (k = wdsN n) := by show k = ((fitN n + 63) / 64).toNat; omega
  have HK2 : Hid ((k : Int) = (fitN n + 63) / 64) := hk.symm
  have hk1 : k ≤ 16384 := by omega
  have HL := Lib.hid hl
  have HW := Lib.hid hw
  clear hl hw hk
  have HO : Hid (ofW l n = cutW (fitN n) (padW (wdsN n) l)) := rfl
  generalize ofW l n = r at *
  generalize fitN n = m at *
  obtain ⟨i0, hi, hz0, hz1, hz2⟩ := info_parts Go.Proofs.Ytkgedpcipaogjaa.Nums.info22
  go_enter Try.func80, Try.ntmps80
  go_wp2_with (first
    | (go_at_call 101; refine (Go.Proofs.Ytkgedpcipaogjaa.PWalkChecks.bits_fit.calls n m k _ HF.out).mono ?_; rintro e w0 ⟨rfl, hB⟩)
    | (at_make; refine wpList_make_full _ rfl _ _ 28 rfl 0 22 i0 (.int .u64 0) 1 Try.underlying28 hi hz0 hz1 .i64 .i64 _ _ k rfl rfl rfl rfl (by rw [hz2]; omega) (by simp only [maxLen]; omega) (Nat.zero_le _) ?_; intro w1 hown hgrow; have HR := made_row hown; have hlt := Kd.R_lt HR _ rfl)
    | ((with_reducible refine gate_dst (N := 22) rfl ?_); refine Kd.R_copy 0 0 rfl _ _ 28 28 22 rfl Try.underlying28 sz22 _ (List.replicate k 0) l A l.length c (fun _ => True) rfl rfl (Kd.R_alloc HR _) (Kd.C_alloc (Kd.C_below (Kd.C_below HL.out hB) (below_grown hgrow)) _) (Below.refl _ _) (Nat.zero_le _) ?_; intro w2 hrow hb2 hg2; rw [pad_eq k l.length l rfl] at hrow; have HS := of_set hB hgrow hlt hg2 hrow hb (by rw [padW_length]; exact HK2.out) (padW_wd k l HW.out))
    | (go_at_call 102; refine (cut_calls HS.1).mono ?_; rintro e w3 ⟨rfl, hs3, hu3⟩))
  go_ret
  refine ⟨_, rfl, ?_, ?_⟩
  · rw [HO.out, ← HK.out]; exact hs3
  · exact HS.2.trans hu3 (fun k hk hl => by unfold New at hk; omega)
theorem wd_nil : Wd [] := fun i => by simp
theorem NewSet_calls (w : World) (n : Int) :
    Calls Try.prog 85 #[.int .i64 n] w fun e w' => ∃ b, e = .returned (.pointer (some ⟨b, 0, none⟩)) ∧ SetR (New w) w' b (fitN n) (ofW [] n) ∧ Upd No w w' := by
  go_enter Try.func85, Try.ntmps85
  go_wp2_with (go_at_call 80; refine (Of_calls (l := []) n (Kd.C_nil _ _) wd_nil).mono ?_; rintro e w1 ⟨b, rfl, hs, hu⟩)
  go_ret
  exact ⟨b, rfl, hs, hu⟩
theorem SetR.reads {F : Nat → Prop} {w : World} {b : Nat} {n : Int} {ws : List Int} (h : SetR F w b n ws) : ∃ A c, w.cell? ⟨b, 1, none⟩ = some (.slice A ws.length c) ∧ ws.length ≤ c ∧ (Kd.int .u64).C w A ws.length ws := by
  obtain ⟨h1, h2, h3, h4, v, h5, h6⟩ := h
  obtain ⟨A, c, rfl, hc, hr⟩ := Kd.R_reads h6
  have c1 := blk_cell h5 1
  simp at c1
  exact ⟨A, c, c1, hc, hr⟩
theorem Words_calls {F : Nat → Prop} {w : World} {b : Nat} {n : Int} {ws : List Int} (h : SetR F w b n ws) :
    Calls Try.prog 84 #[.pointer (some ⟨b, 0, none⟩)] w fun e w' => ∃ v, e = .returned v ∧ (Kd.int .u64).R 22 w' w.heap.size (fun _ => True) v ws ∧ Below w.heap.size w w' := by
  obtain ⟨A, c, c1, hc, hr⟩ := h.reads
  have h3 := h.2.2.1
  have h2 := h.2.1
  have hlen : ws.length ≤ 16384 := by omega
  have HR := Lib.hid hr
  clear hr h h3 h2 hc
  go_enter Try.func84, Try.ntmps84
  go_wp2_with ((with_reducible refine gate_dst (N := 7) rfl ?_); refine Kd.R_append_row (Value.int .u64) 0 (h1 := fun _ => rfl) w.heap.size rfl _ _ 28 22 (.int .u64 0) 8 rfl Try.underlying28 Go.Proofs.Ytkgedpcipaogjaa.Nums.info22 rfl (by omega) (.slice none 0 0) [] ws A ws.length c (fun _ => True) rfl rfl (fun _ _ => trivial) (Kd.R_nil _ _ _ _ _) HR.out (Below.refl _ _) (Nat.le_refl _) (by simp; omega) ?_; intro v1 w1 hrow hb hg hat)
  go_ret
  exact ⟨v1, rfl, hrow, hb⟩
end Go.Proofs.Ytkgedpcipaogjaa.Sets
namespace Go.Proofs.Ytkgedpcipaogjaa.SetF
open Go.RowKit Go.Proofs.YtkgedpcipaogjaaW.PrintWords Go.Proofs.YtkgedpcipaogjaaW.PrintLast Go.Proofs.YtkgedpcipaogjaaW.PrintMore Go.Proofs.Ytkgedpcipaogjaa.Nums Go.Proofs.Ytkgedpcipaogjaa.Sets
def wd (ws : List Int) (j : Nat) : Nat := (ws.getD j 0).toNat
def bitN (ws : List Int) (i : Nat) : Bool := (wd ws (i / 64)).testBit (i % 64)
theorem wd_int {ws : List Int} (h : Wd ws) (j : Nat) : ws.getD j 0 = (wd ws j : Int) := by
  have := h j
  unfold wd; omega
theorem wd_lt {ws : List Int} (h : Wd ws) (j : Nat) : wd ws j < 2 ^ 64 := by
  have := h j
  unfold wd; omega
theorem bitI_bitN {ws : List Int} (h : Wd ws) (i : Nat) : bitI ws (i : Int) = bitN ws i := by
  unfold bitI bitN
  rw [show ((i : Int) / 64).toNat = i / 64 by omega, show ((i : Int) % 64).toNat = i % 64 by omega, wd_int h, Nat.testBit_eq_decide_div_mod_eq]
  rw [Bool.eq_iff_iff, beq_iff_eq, decide_eq_true_eq]
  have e : ((2 : Int) ^ (i % 64)) = ((2 ^ (i % 64) : Nat) : Int) := by simp
  rw [e]
  omega
def Clean (n : Nat) (ws : List Int) : Prop := ∀ i, n ≤ i → bitN ws i = false
theorem padW_get (k : Nat) (l : List Int) (j : Nat) : (padW k l).getD j 0 = if j < k then l.getD j 0 else 0 := by
  unfold padW
  simp only [List.getD_eq_getElem?_getD]
  rw [List.getElem?_append]
  by_cases h : j < (l.take k).length
  · rw [if_pos h, List.getElem?_take]
    have : j < k := by simp at h; omega
    rw [if_pos this, if_pos this]
  · rw [if_neg h, List.getElem?_replicate]
    simp at h
    by_cases hk : j < k
    · rw [if_pos hk, List.getElem?_eq_none (by omega)]; split <;> rfl
    · rw [if_neg hk, if_neg (by simp; omega)]; rfl
theorem cutW_length (n : Int) (ws : List Int) : (cutW n ws).length = ws.length := by unfold cutW; split <;> simp
theorem cutW_wd {n : Int} {ws : List Int} (h : Wd ws) : Wd (cutW n ws) := by
  unfold cutW
  split
  · exact h
  · exact wd_set h _ _ (mod_wd _ _ (h _))
theorem cutW_get (n : Int) (ws : List Int) (j : Nat) : (cutW n ws).getD j 0 = if n % 64 ≠ 0 ∧ j + 1 = ws.length then ws.getD j 0 % 2 ^ (n % 64).toNat else ws.getD j 0 := by
  unfold cutW
  by_cases h : n % 64 = 0
  · rw [if_pos h, if_neg (by simp [h])]
  · rw [if_neg h]
    simp only [List.getD_eq_getElem?_getD, List.getElem?_set]
    by_cases hj : ws.length - 1 = j
    · by_cases hl : 0 < ws.length
      · rw [if_pos hj, if_pos (by omega), if_pos ⟨h, by omega⟩, hj]; rfl
      · rw [if_pos hj, if_neg (by omega), if_neg (by omega), List.getElem?_eq_none (by omega)]
    · rw [if_neg hj, if_neg (by omega)]
theorem ofW_wd {l : List Int} (h : Wd l) (n : Int) : Wd (ofW l n) := cutW_wd (padW_wd _ _ h)
theorem fitN_nat (n : Int) : ∃ m : Nat, fitN n = m ∧ m ≤ 1048576 := ⟨(fitN n).toNat, by have := fitN_bd n; omega, by have := fitN_bd n; omega⟩
theorem ofW_length (l : List Int) (n : Int) : (ofW l n).length = wdsN n := by unfold ofW; rw [cutW_length, padW_length]
theorem ofW_bit {l : List Int} (h : Wd l) (n : Int) (i : Nat) : bitN (ofW l n) i = (decide ((i : Int) < fitN n) && bitN l i) := by
  obtain ⟨m, hm, hm2⟩ := fitN_nat n
  have hk : wdsN n = (m + 63) / 64 := by unfold wdsN; rw [hm]; omega
  rw [hm, show decide ((i : Int) < (m : Int)) = decide (i < m) by rw [decide_eq_decide]; omega]
  unfold bitN
  have hg : (ofW l n).getD (i / 64) 0 = if (m : Int) % 64 ≠ 0 ∧ i / 64 + 1 = (m + 63) / 64 then (padW ((m + 63) / 64) l).getD (i / 64) 0 % 2 ^ ((m : Int) % 64).toNat else (padW ((m + 63) / 64) l).getD (i / 64) 0 := by
    unfold ofW
    rw [cutW_get, padW_length, hm, hk]
  have hp := padW_get ((m + 63) / 64) l (i / 64)
  unfold wd
  rw [hg]
  by_cases hi : i / 64 < (m + 63) / 64
  · rw [if_pos hi] at hp
    rw [hp, wd_int h]
    by_cases hc : (m : Int) % 64 ≠ 0 ∧ i / 64 + 1 = (m + 63) / 64
    · rw [if_pos hc]
      have e : ((wd l (i / 64) : Int) % 2 ^ ((m : Int) % 64).toNat).toNat = wd l (i / 64) % 2 ^ (m % 64) := by
        rw [show ((m : Int) % 64).toNat = m % 64 by omega]
        have e2 : ((2 : Int) ^ (m % 64)) = ((2 ^ (m % 64) : Nat) : Int) := by simp
        rw [e2]; omega
      rw [e, Nat.testBit_mod_two_pow]
      congr 1
      rw [decide_eq_decide]; omega
    · rw [if_neg hc, Int.toNat_natCast, decide_eq_true (by omega : i < m)]; simp [wd]
  · rw [if_neg hi] at hp
    rw [hp]
    have e : decide (i < m) = false := decide_eq_false (by omega)
    rw [e]
    split <;> simp
theorem ofW_clean {l : List Int} (h : Wd l) (n : Int) (m : Nat) (hm : fitN n = m) : Clean m (ofW l n) := by
  intro i hi
  rw [ofW_bit h, hm, decide_eq_false (by omega)]; rfl
end Go.Proofs.Ytkgedpcipaogjaa.SetF
namespace Go.Proofs.Ytkgedpcipaogjaa.Tz
open Go.RowKit Go.Proofs.YtkgedpcipaogjaaW.PrintWords Go.Proofs.YtkgedpcipaogjaaW.PrintLast Go.Proofs.YtkgedpcipaogjaaW.PrintMore Go.Proofs.Ytkgedpcipaogjaa.Nums Go.Proofs.Ytkgedpcipaogjaa.Sets Go.Proofs.Ytkgedpcipaogjaa.SetF Go.Proofs.Ytkgedpcipaogjaa.Mem
def cn (f : Nat → Bool) : Nat → Nat
  | 0 => 0
  | m + 1 => cn f m + if f m then 1 else 0
theorem cn_le (f : Nat → Bool) (m : Nat) : cn f m ≤ m := by
  induction m with
  | zero => exact Nat.le_refl _
  | succ m ih => unfold cn; split <;> omega
theorem cn_congr {f g : Nat → Bool} (m : Nat) (h : ∀ j, j < m → f j = g j) : cn f m = cn g m := by
  induction m with
  | zero => rfl
  | succ m ih => unfold cn; rw [ih (fun j hj => h j (by omega)), h m (by omega)]
theorem cn_add (f : Nat → Bool) (a b : Nat) : cn f (a + b) = cn f a + cn (fun j => f (a + j)) b := by
  induction b with
  | zero => rfl
  | succ b ih => rw [show a + (b + 1) = (a + b) + 1 from rfl, cn, ih, cn]; omega
theorem cn_none (f : Nat → Bool) (m : Nat) (h : ∀ j, j < m → f j = false) : cn f m = 0 := by
  induction m with
  | zero => rfl
  | succ m ih => unfold cn; rw [ih (fun j hj => h j (by omega)), h m (by omega)]; simp
theorem cn_pop (k : Nat) : ∀ x, cn (fun j => x.testBit j) k = Lib.popAux k (x % 2 ^ k) := by
  induction k with
  | zero => intro x; rfl
  | succ k ih =>
    intro x
    rw [show k + 1 = 1 + k by omega, cn_add]
    have e : (fun j => x.testBit (1 + j)) = fun j => (x / 2).testBit j := by
      funext j; rw [Nat.add_comm, Nat.testBit_succ]
    rw [e, ih (x / 2), show 1 + k = k + 1 by omega, Lib.popAux]
    have e1 : x % 2 ^ (k + 1) / 2 = x / 2 % 2 ^ k := by
      rw [Nat.pow_succ, Nat.mul_comm]; exact Nat.mod_mul_right_div_self x 2 (2 ^ k)
    have e2 : x % 2 ^ (k + 1) % 2 = x % 2 := by rw [Nat.pow_succ, Nat.mul_comm]; exact Nat.mod_mul_right_mod x 2 (2 ^ k)
    rw [e1, e2]
    congr 1
    simp only [cn, Nat.testBit_zero]
    have : x % 2 = 0 ∨ x % 2 = 1 := by omega
    rcases this with h | h <;> simp [h]
theorem cn_pop' (n x : Nat) (h : x < 2 ^ n) : cn (fun j => x.testBit j) n = Lib.popAux n x := by
  have := cn_pop n x
  rw [Nat.mod_eq_of_lt h] at this
  exact this
theorem cn_word' (n : Nat) (f : Nat → Bool) (a x : Nat) (h : x < 2 ^ n) (hf : ∀ j, j < n → f (a + j) = x.testBit j) : cn f (a + n) = cn f a + Lib.popAux n x := by
  rw [cn_add, ← cn_pop' n x h, cn_congr n hf]
theorem cn_word {ws : List Int} (hw : Wd ws) (k : Nat) : cn (bitN ws) (64 * (k + 1)) = cn (bitN ws) (64 * k) + Lib.popAux 64 (wd ws k) :=
  cn_word' 64 (bitN ws) (64 * k) (wd ws k) (wd_lt hw k) (fun j hj => by
    unfold bitN
    rw [show (64 * k + j) / 64 = k by omega, show (64 * k + j) % 64 = j by omega])
theorem cn_clean {ws : List Int} (m M : Nat) (hc : SetF.Clean m ws) (h : m ≤ M) : cn (bitN ws) M = cn (bitN ws) m := by
  obtain ⟨d, rfl⟩ : ∃ d, M = m + d := ⟨M - m, by omega⟩
  rw [cn_add, cn_none _ d (fun j _ => hc _ (by omega))]
  rfl
def flipW (ws : List Int) (i : Nat) : List Int := ws.set (i / 64) ((wd ws (i / 64) ^^^ 2 ^ (i % 64) : Nat) : Int)
theorem flip_lt {ws : List Int} (hw : Wd ws) (i : Nat) : wd ws (i / 64) ^^^ 2 ^ (i % 64) < 18446744073709551616 :=
  Nat.xor_lt_two_pow (n := 64) (wd_lt hw _) (Nat.pow_lt_pow_right (by omega) (by omega))
theorem flip_bit (ws : List Int) (i : Nat) (hi : i / 64 < ws.length) (j : Nat) : bitN (flipW ws i) j = if j = i then !bitN ws i else bitN ws j := by
  by_cases e : j / 64 = i / 64
  · have e1 : wd (flipW ws i) (j / 64) = wd ws (i / 64) ^^^ 2 ^ (i % 64) := by
      rw [e]
      simp only [wd, flipW]
      rw [List.getD_eq_getElem?_getD, List.getElem?_set_self (by simpa using hi)]
      rfl
    unfold bitN
    rw [e1, Nat.testBit_xor, Nat.testBit_two_pow, e]
    by_cases h : j = i
    · subst h; simp
    · rw [if_neg h, decide_eq_false (by omega)]; simp
  · have e1 : wd (flipW ws i) (j / 64) = wd ws (j / 64) := by
      unfold wd flipW
      rw [List.getD_eq_getElem?_getD, List.getElem?_set_ne (by omega), ← List.getD_eq_getElem?_getD]
    unfold bitN
    rw [e1, if_neg (by intro h; rw [h] at e; exact e rfl)]
theorem flip_clean {ws : List Int} {m : Nat} (hc : SetF.Clean m ws) (i : Nat) (hi : i < m) (hl : i / 64 < ws.length) : SetF.Clean m (flipW ws i) := by
  intro j hj
  rw [flip_bit ws i hl, if_neg (by omega)]; exact hc j hj
end Go.Proofs.Ytkgedpcipaogjaa.Tz
namespace Go.Proofs.Ytkgedpcipaogjaa.Tz
open Go.RowKit Go.Proofs.YtkgedpcipaogjaaW.PrintWords Go.Proofs.YtkgedpcipaogjaaW.PrintLast Go.Proofs.YtkgedpcipaogjaaW.PrintMore Go.Proofs.Ytkgedpcipaogjaa.Nums Go.Proofs.Ytkgedpcipaogjaa.Sets Go.Proofs.Ytkgedpcipaogjaa.SetF Go.Proofs.Ytkgedpcipaogjaa.Mem
theorem xor_word {ws : List Int} (hw : Wd ws) (i : Nat) : Go.bits .xor .u64 (rdOf 0 ws ((i : Int) / 64)) (IntKind.u64.wrap ((2 : Int) ^ (i % 64))) = ((wd ws (i / 64) ^^^ 2 ^ (i % 64) : Nat) : Int) := by
  have hl := wd_lt hw (i / 64)
  have hp : 2 ^ (i % 64) < 2 ^ 64 := Nat.pow_lt_pow_right (by omega) (by omega)
  have e0 : ((2 : Int) ^ (i % 64)) = ((2 ^ (i % 64) : Nat) : Int) := by simp
  unfold rdOf
  rw [show ((i : Int) / 64).toNat = i / 64 by omega, wd_int hw, e0, Nums.wrapu_nat (by omega)]
  exact u64_xor_nat _ _ (by omega) (by omega)
theorem Flip_in {F : Nat → Prop} {w : World} {b : Nat} {n : Int} {ws : List Int} (h : SetR F w b n ws) (i : Nat) (hn : (i : Int) < n) :
    Calls Try.prog 104 #[.pointer (some ⟨b, 0, none⟩), .int .i64 (i : Int)] w fun e w' => e = .returned (.bool true) ∧ SetR F w' b n (flipW ws i) ∧ Upd F w w' := by
  have hb : (decide (0 ≤ (i : Int)) && decide ((i : Int) < n)) = true := by simp [hn]
  have hc := has_calls h (i : Int)
  rw [hb] at hc
  have HC := Lib.hid hc
  have HS := Lib.hid h
  clear hc hb
  obtain ⟨h1, h2, h3, h4, v, h5, h6⟩ := h
  obtain ⟨g, cap, rfl, -, hg, -⟩ := Kd.R_form h6 (by omega)
  have c1 := blk_cell h5 1
  simp at c1
  have c2 := Kd.R_cell 0 h6 ((i : Int) / 64) (by omega) (by omega)
  rw [show ((i : Int) / 64).toNat = i / 64 by omega] at c2
  have hr : Int.tmod (i : Int) 64 = (i : Int) % 64 := Int.tmod_eq_emod_of_nonneg (by omega)
  have q6 : (i : Int) % 64 < 64 := by omega
  have q1 : IntKind.i64.wrap ((i : Int) / 64) = (i : Int) / 64 := by rw [i64_w]; unfold wrap64; omega
  have q2 : wrap64 ((i : Int) / 64) = (i : Int) / 64 := by unfold wrap64; omega
  have q3 : 0 ≤ (i : Int) / 64 := by omega
  have q4 : (i : Int) / 64 < ws.length := by omega
  have q5 : 0 ≤ (i : Int) % 64 := by omega
  have q0 : i / 64 < ws.length := by omega
  have H5 := Lib.hid h5
  have H6 := Lib.hid h6
  have HX := Lib.hid (xor_word h4 i)
  have HL := Lib.hid (flip_lt h4 i)
  clear h5 h6 h1 h4 h3 h2 hn
  go_enter Try.func104, Try.ntmps104
  go_wp2_with (go_at_call 103; refine HC.out.mono ?_; rintro e w' ⟨rfl, rfl⟩)
  go_region
  go_wp2
  go_ret
  obtain ⟨hp, hu⟩ := SetR.put HS.out H5.out H6.out (i / 64) q0 ((wd ws (i / 64) ^^^ 2 ^ (i % 64) : Nat) : Int) (by have := HL.out; omega)
  rw [HX.out]
  exact ⟨rfl, hp.step (fun _ _ _ => rfl), hu.drew⟩
def putW (ws : List Int) (i : Nat) (v : Bool) : List Int := if bitN ws i = v then ws else flipW ws i
theorem Put_in {F : Nat → Prop} {w : World} {b : Nat} {n : Int} {ws : List Int} (h : SetR F w b n ws) (i : Nat) (hn : (i : Int) < n) (v : Bool) :
    Calls Try.prog 88 #[.pointer (some ⟨b, 0, none⟩), .int .i64 (i : Int), .bool v] w fun e w' => e = .returned (.bool true) ∧ SetR F w' b n (putW ws i v) ∧ Upd F w w' := by
  have hb : (decide (0 ≤ (i : Int)) && decide ((i : Int) < n)) = true := by simp [hn]
  have hc := has_calls h (i : Int)
  rw [hb] at hc
  have hg := Get_in h (i : Int) (by omega) hn
  rw [bitI_bitN h.2.2.2.1] at hg
  have HC := Lib.hid hc
  have HF := Lib.hid (Flip_in h i hn)
  have HS := Lib.hid h
  unfold putW
  clear hc hn hb h
  cases hq : bitN ws i
  all_goals
    rw [hq] at hg
    have HG := Lib.hid hg
    clear hg hq
    cases v
    all_goals
      go_enter Try.func88, Try.ntmps88
      go_wp2_with (first
        | (go_at_call 103; refine HC.out.mono ?_; rintro e w' ⟨rfl, rfl⟩)
        | (go_at_call 83; refine HG.out.mono ?_; rintro e w' ⟨rfl, rfl⟩)
        | (go_at_call 104; refine HF.out.mono ?_; rintro e w' ⟨rfl, hs, hu⟩))
      go_ret
      first
        | exact ⟨rfl, HS.out, Upd.refl _ _⟩
        | exact ⟨rfl, hs, hu⟩
attribute [local go_sem] max2_int min2_int max_two min_two max_three min_three max_four min_four
set_option maxRecDepth 100000 in
set_option maxHeartbeats 4000000 in
theorem ones_c (x : Nat) (hx : x < 2 ^ 64) (w : World) : Calls Try.prog 106 #[.int .u64 (x : Int)] w fun e w' => e = .returned (.int .i64 ((Lib.popAux 64 x : Nat) : Int)) ∧ Drawn0 w w' := by
  have h1 := Lib.hid (s1 x hx)
  have h2 := Lib.hid (s2 x hx)
  have h3 := Lib.hid (s3 x hx)
  have h4 := Lib.hid (s4 x hx)
  clear hx
  go_enter Try.func106, Try.ntmps106
  go_wp2
  go_ret
  refine ⟨?_, by repeat (first | exact Drawn0.refl _ | apply Drawn0.step)⟩
  rw [← h4.out, ← h3.out, ← h2.out, ← h1.out]
  rfl
theorem count1_c (x : Nat) (hx : x < 2 ^ 64) (w : World) : Calls Try.prog 105 #[.int .u64 (x : Int)] w fun e w' => e = .returned (.int .i64 ((Lib.popAux 64 x : Nat) : Int)) ∧ Drawn0 w w' := by
  have HO := Lib.hid (ones_c x hx)
  clear hx
  go_enter Try.func105, Try.ntmps105
  go_wp2_with (go_at_call 106; refine (HO.out _).mono ?_; rintro e w1 ⟨rfl, ⟨d1, rfl⟩⟩)
  go_ret
  exact ⟨rfl, ⟨_, rfl⟩⟩
theorem add_cn (a b c : Nat) (h : c = a + b) (hb : c ≤ 1073741824) : wrap64 ((a : Int) + (b : Int)) = (c : Int) := by unfold wrap64; omega
set_option maxHeartbeats 1000000 in
theorem Count_calls {F : Nat → Prop} {w : World} {b : Nat} {m : Nat} {ws : List Int} (h : SetR F w b (m : Int) ws) (hc : SetF.Clean m ws) :
    Calls Try.prog 89 #[.pointer (some ⟨b, 0, none⟩)] w fun e w' => e = .returned (.int .i64 (cn (bitN ws) m)) ∧ Drawn0 w w' := by
  have HS := Lib.hid h
  have HCl := Lib.hid hc
  obtain ⟨A, c, c1, hlc, hr⟩ := h.reads
  have h3 := h.2.2.1
  have h2 := h.2.1
  have hlen : ws.length ≤ 16384 := by omega
  have HR := Lib.hid hr
  have HL := Lib.hid (show cn (bitN ws) (64 * ws.length) = cn (bitN ws) m from cn_clean m _ hc (by omega))
  have HW := Lib.hid h.2.2.2.1
  clear hr h h3 h2 hlc hc
  go_enter Try.func89, Try.ntmps89
  go_wp2
  go_loopw [3, 4, 10] (fun n _ i wr => ∃ k : Nat, k ≤ ws.length ∧ i = .int .i64 k ∧ n = .int .i64 (cn (bitN ws) (64 * k) : Nat) ∧ Drawn0 w wr) (fun _ _ i _ => ws.length - (intOf i).toNat)
  case atStart => exact ⟨0, by omega, rfl, rfl, Drawn0.refl _⟩
  case round =>
    obtain ⟨k, hk, rfl, rfl, ⟨d, rfl⟩⟩ := hrel
    by_cases hlt : k < ws.length
    · obtain ⟨ad, e, hx⟩ := Kd.at_int HR.out (k : Int) (by omega) (by omega)
      subst e
      rw [Int.toNat_natCast] at hx
      have HX := Lib.hid hx
      have hd : decide ((k : Int) < (ws.length : Int)) = true := by simpa using hlt
      have hx64 := wd_lt HW.out k
      have e1 := wd_int HW.out k
      have HP := Lib.hid (count1_c (wd ws k) hx64)
      have HN := Lib.hid (cn_word HW.out k)
      have HB := Lib.hid (cn_le (bitN ws) (64 * k))
      have HX2 := HX.out
      have e3 : rd ws (k : Int) = (wd ws k : Int) := by unfold rd; rw [Int.toNat_natCast]; exact e1
      clear hx HX
      try rw [e1] at HX2
      try rw [e3] at HX2
      clear e1 e3 hx64
      go_wp2_with (go_at_call 105; refine (HP.out _).mono ?_; rintro e w1 ⟨rfl, ⟨d1, rfl⟩⟩)
      go_roundw
      case rel => exact ⟨k + 1, by omega, by go_num, congrArg (Value.int .i64) (add_cn _ _ _ HN.out (by have := cn_le (bitN ws) (64 * (k + 1)); omega)), ⟨d + d1, rfl⟩⟩
      case measure => simp [intOf]; omega
    · obtain rfl : k = ws.length := by omega
      go_wp2
      go_ret
      exact ⟨by rw [HL.out]; rfl, ⟨d, rfl⟩⟩
end Go.Proofs.Ytkgedpcipaogjaa.Tz
end
section
namespace Go.Proofs.Ytkgedpcipaogjaa.WB
open Go Go.RowKit Go.Proofs.YtkgedpcipaogjaaW.PrintWords Go.Proofs.YtkgedpcipaogjaaW.PrintLast Go.Proofs.YtkgedpcipaogjaaW.PrintMore Go.Proofs.Ytkgedpcipaogjaa.PWalkChecks Go.Proofs.Ytkgedpcipaogjaa.Mem
set_option linter.unusedVariables false
set_option linter.unusedSimpArgs false
theorem bcell {W w1 : World} (hb : Below W.heap.size W w1) : (∀ b o, b < W.heap.size → w1.cell? ⟨b, o, none⟩ = W.cell? ⟨b, o, none⟩) ∧ (∀ b o, b < W.heap.size → w1.frozen? ⟨b, o, none⟩ = W.frozen? ⟨b, o, none⟩) :=
  ⟨fun b o h => hb.cell (p := ⟨b, o, none⟩) h, fun b o h => hb.frozen (p := ⟨b, o, none⟩) h⟩
def cfgV (b l o : Int) : Value := .agg #[.int .u64 b, .int .i64 l, .int .i64 o]
theorem p2_256 {n : Nat} (h : n ≤ 8) : 2 ^ n ≤ 256 := by
  have : (2 ^ n : Nat) ≤ 2 ^ 8 := Nat.pow_le_pow_right (by decide) h
  simpa using this
structure CfgOk (b l : Int) (o sz : Nat) : Prop where
  o8 : o ≤ 8
  sz_ : sz = 4096 * 2 ^ o
  lo : 4096 ≤ sz
  hi : sz ≤ 1048576
  l1 : 1 ≤ l
  l64 : l ≤ 64
  b0 : 0 < b
  pages : l * ((2 ^ o : Nat) : Int) ≤ 1024
  mod : b % (sz : Int) = 0
  top : b + l * (sz : Int) ≤ 9223372036854775808
  may : mayB b l (o : Int) = true
theorem cfgOk_of {b l o : Int} (h : mayB b l o = true) (hb : U64 b) : ∃ k sz : Nat, o = (k : Int) ∧ CfgOk b l k sz := by
  obtain ⟨k, hk, k8, l1, l64, h5, h6, h7, h8, h9⟩ := may_t h
  have hp := Nat.pow_pos (n := k) (show 0 < 2 by decide)
  have hq := p2_256 k8
  have hb0 := hb.1
  refine ⟨k, 4096 * 2 ^ k, hk, k8, rfl, by omega, by omega, l1, l64, by omega, by rw [← show ((2 : Int) ^ k) = ((2 ^ k : Nat) : Int) by simp]; exact h5, h7, by omega, hk ▸ h⟩
theorem memMay_c (b l o : Int) (hb : U64 b) (hl : I64 l) (ho : I64 o) (w : World) : Calls Try.prog 91 #[cfgV b l o] w fun e w' => e = .returned (.bool (mayB b l o)) ∧ Below w.heap.size w w' := by
  refine mem_may.calls b l o _ w ?_
  unfold mem_may.f mayB
  by_cases h1 : o < 0
  · rw [if_pos h1, inB_f.2 (by omega)]; rfl
  rw [if_neg h1]
  by_cases h2 : o > 8
  · rw [if_pos h2, inB_f.2 (by omega)]; rfl
  rw [if_neg h2, inB_t.2 (by omega)]
  by_cases h3 : l < 1
  · rw [if_pos h3, inB_f.2 (by omega)]; rfl
  rw [if_neg h3]
  by_cases h4 : l > 64
  · rw [if_pos h4, inB_f.2 (by omega)]; rfl
  rw [if_neg h4, inB_t.2 (by omega), if_pos (by omega)]
  obtain ⟨n, rfl⟩ : ∃ n : Nat, o = n := ⟨o.toNat, by omega⟩
  have hn : n ≤ 8 := by omega
  have hq := p2_256 hn
  have hp := Nat.pow_pos (n := n) (show 0 < 2 by decide)
  have e1 : shl .i64 l (n : Int) = l * ((2 ^ n : Nat) : Int) := by
    unfold shl
    rw [Int.toNat_natCast, Nat.min_eq_left (by show n ≤ 64; omega), i64_w, show ((2 : Int) ^ n) = ((2 ^ n : Nat) : Int) by simp]
    have h0 : 0 ≤ l * ((2 ^ n : Nat) : Int) := Int.mul_nonneg (by omega) (by omega)
    have h1 : l * ((2 ^ n : Nat) : Int) ≤ 64 * 256 := Int.mul_le_mul (by omega) (by omega) (by omega) (by omega)
    generalize l * ((2 ^ n : Nat) : Int) = y at *
    unfold wrap64; omega
  have e2 : shl .u64 4096 (n : Int) = ((4096 * 2 ^ n : Nat) : Int) := by
    unfold shl
    rw [Int.toNat_natCast, Nat.min_eq_left (by show n ≤ 64; omega), show (4096 : Int) * 2 ^ n = ((4096 * 2 ^ n : Nat) : Int) by simp]
    exact wrap_u64_in (by omega) (by omega)
  have e3 : RR (n : Int) = ((4096 * 2 ^ n : Nat) : Int) := by unfold RR; simp
  have e4 : l * 2 ^ (n : Int).toNat = l * ((2 ^ n : Nat) : Int) := by rw [Int.toNat_natCast]; simp
  rw [e1, e2, e3, e4]
  by_cases c1 : l * ((2 ^ n : Nat) : Int) > 1024
  · rw [if_pos c1, show decide (l * ((2 ^ n : Nat) : Int) ≤ 1024) = false from decide_eq_false (by omega)]; rfl
  rw [if_neg c1, show decide (l * ((2 ^ n : Nat) : Int) ≤ 1024) = true from decide_eq_true (by omega)]
  by_cases c2 : b = 0
  · rw [if_pos c2, c2]; rfl
  have hb0 := hb.1
  have hb1 := hb.2
  rw [if_neg c2, show (b != 0) = true by simpa using c2, if_neg (by omega), Int.tmod_eq_emod_of_nonneg hb0]
  by_cases c3 : b % ((4096 * 2 ^ n : Nat) : Int) = 0
  · rw [if_pos c3, show (b % ((4096 * 2 ^ n : Nat) : Int) == 0) = true by simpa using c3]
    by_cases c4 : b ≤ 9223372036854775808
    · rw [if_pos c4, show decide (b ≤ 9223372036854775808) = true from decide_eq_true c4]
      have hwl : IntKind.u64.wrap l = l := by rw [wrap_u64]; omega
      have hm1 : ((4096 * 2 ^ n : Nat) : Int) * l ≤ 1048576 * 64 := Int.mul_le_mul (by omega) (by omega) (by omega) (by omega)
      have hm0 : 0 ≤ ((4096 * 2 ^ n : Nat) : Int) * l := Int.mul_nonneg (by omega) (by omega)
      rw [hwl, Int.mul_comm l]
      generalize ((4096 * 2 ^ n : Nat) : Int) * l = y at *
      have hwy : IntKind.u64.wrap y = y := by rw [wrap_u64]; omega
      have hws : IntKind.u64.wrap (9223372036854775808 - b) = 9223372036854775808 - b := by rw [wrap_u64]; omega
      rw [hwy, hws]
      simp
    · rw [if_neg c4, show decide (b ≤ 9223372036854775808) = false from decide_eq_false c4]; rfl
  · rw [if_neg c3, show (b % ((4096 * 2 ^ n : Nat) : Int) == 0) = false by simpa using c3]; rfl
def spaceO (b l : Int) (o sz : Nat) (v : Value) : Obj := .cells #[.int .u64 b, .int .i64 l, .int .i64 (o : Int), .int .u64 (sz : Int), v] 140 (0, 0)
structure SpL where
  sp : Nat
  pv : Value
  ps : List Nat
def SpL.blks (L : SpL) : List Nat := L.sp :: (L.pv.ownBlock.toList ++ L.ps)
def partV (sz : Nat) (p : Nat) : Value := .slice (some ⟨p, 0, none⟩) sz sz
def PartAt (w : World) (sz : Nat) (mem : List Int) (i p : Nat) : Prop :=
  ∃ cs : Array Value, w.heap[p]? = some (.cells cs 5 (0, 0)) ∧ cs.size = sz ∧ ∀ j, j < sz → cs[j]? = some (.int .u8 (mem.getD (i * sz + j) 0))
structure SpaceR (w : World) (L : SpL) (b l : Int) (o sz : Nat) (mem : List Int) : Prop where
  at_ : w.heap[L.sp]? = some (spaceO b l o sz L.pv)
  own : w.ownsRow 0 25 1 L.pv L.ps.length (L.ps.map (partV sz))
  len : mem.length = L.ps.length * sz
  byte : ∀ x ∈ mem, 0 ≤ x ∧ x < 256
  part : ∀ i p, L.ps[i]? = some p → PartAt w sz mem i p
  nodup : L.blks.Nodup
theorem SpaceR.lt {w : World} {L : SpL} {b l : Int} {o sz : Nat} {mem : List Int} (h : SpaceR w L b l o sz mem) : ∀ k ∈ L.blks, k < w.heap.size := by
  intro k hk
  unfold SpL.blks at hk
  rcases List.mem_cons.1 hk with rfl | hk
  · exact blk_lt h.at_
  rcases List.mem_append.1 hk with hk | hk
  · exact (own_lt h.own (by simpa using hk)).2
  · obtain ⟨i, hi⟩ := List.mem_iff_getElem?.1 hk
    obtain ⟨cs, hc, -⟩ := h.part i k hi
    exact blk_lt hc
theorem SpaceR.keep {w w' : World} {L : SpL} {b l : Int} {o sz : Nat} {mem : List Int} (h : SpaceR w L b l o sz mem) (hk : ∀ k ∈ L.blks, w'.heap[k]? = w.heap[k]?) : SpaceR w' L b l o sz mem := by
  refine ⟨(hk _ (by unfold SpL.blks; simp)).trans h.at_, own_move h.own (fun k hx => hk _ (by unfold SpL.blks; simp [hx])), h.len, h.byte, fun i p hp => ?_, h.nodup⟩
  obtain ⟨cs, h1, h2⟩ := h.part i p hp
  exact ⟨cs, (hk p (by unfold SpL.blks; simp [List.mem_of_getElem? hp])).trans h1, h2⟩
set_option maxRecDepth 100000 in
theorem memNew_ok {b l : Int} {o sz : Nat} (h : CfgOk b l o sz) (hb : U64 b) (w : World) : Calls Try.prog 64 #[cfgV b l (o : Int)] w fun e w' => ∃ s, e = .returned (.tuple #[.pointer (some ⟨s, 0, none⟩), .int .i64 0]) ∧ w.heap.size ≤ s ∧ SpaceR w' ⟨s, .slice none 0 0, []⟩ b l o sz [] ∧ Below w.heap.size w w' := by
  have HM := Lib.hid (fun wx => (memMay_c b l (o : Int) hb (by have := h.l1; have := h.l64; unfold I64; omega) (by have := h.o8; unfold I64; omega) wx))
  unfold cfgV at HM ⊢
  rw [h.may] at HM
  have hmin : min o 64 = o := Nat.min_eq_left (by have := h.o8; omega)
  have hsz : IntKind.u64.wrap ((4096 : Int) * 2 ^ o) = (sz : Int) := by
    have := h.lo; have := h.hi
    have e := h.sz_
    rw [show (4096 : Int) * 2 ^ o = ((4096 * 2 ^ o : Nat) : Int) by simp, ← e]
    exact wrap_u64_in (by omega) (by omega)
  have hoI : (o : Int) ≤ 8 := by have := h.o8; omega
  clear h
  go_enter Try.func64, Try.ntmps64
  go_wp2_with (go_at_call 91; refine (HM.out _).mono ?_; rintro e w1 ⟨rfl, hb1⟩; obtain ⟨k1, k2⟩ := bcell hb1; have HB1 := Lib.hid hb1; clear hb1)
  go_region
  all_goals go_wp2
  all_goals
    go_ret2
    have hs1 := HB1.out.size
    simp at hs1
    refine ⟨w1.heap.size, rfl, by omega, ?_, ?_⟩
    · exact ⟨blk_new w1 _, World.ownsRow_nil _ _ _ _, by simp, fun x hx => by simp at hx, fun i p hp => by simp at hp, by simp [SpL.blks, Value.ownBlock]⟩
    · exact (((Below.refl _ _).alloc (Nat.le_refl _) _).trans ((HB1.out.mono (by simp)).alloc (by omega) _)).drew
theorem space_nums {b l : Int} {o sz n : Nat} (h : CfgOk b l o sz) (hn : (n : Int) ≤ l) : ∃ y : Nat, n * sz = y ∧ (n : Int) * (sz : Int) = (y : Int) ∧ y ≤ 67108864 ∧ b + (y : Int) ≤ 9223372036854775808 ∧ IntKind.u64.wrap (n : Int) = (n : Int) ∧ IntKind.u64.wrap ((sz : Int) * (n : Int)) = (y : Int) ∧ IntKind.u64.wrap (b + (y : Int)) = b + (y : Int) := by
  obtain ⟨y, hy⟩ : ∃ y, n * sz = y := ⟨_, rfl⟩
  have hyI : (n : Int) * (sz : Int) = (y : Int) := by rw [← hy]; simp
  have h64 := h.l64
  have hi := h.hi
  have h1 : y ≤ 64 * 1048576 := by rw [← hy]; exact Nat.mul_le_mul (by omega) hi
  have h2 : (y : Int) ≤ l * (sz : Int) := by rw [← hyI]; exact Int.mul_le_mul_of_nonneg_right hn (Int.natCast_nonneg _)
  have ht := h.top
  have hb := h.b0
  generalize l * (sz : Int) = z at *
  refine ⟨y, hy, hyI, h1, by omega, wrap_u64_in (by omega) (by omega), ?_, wrap_u64_in (by omega) (by omega)⟩
  rw [Int.mul_comm, hyI]
  exact wrap_u64_in (by omega) (by omega)
theorem SpaceR.cells {w : World} {L : SpL} {b l : Int} {o sz : Nat} {mem : List Int} (h : SpaceR w L b l o sz mem) :
    (w.cell? ⟨L.sp, 0, none⟩ = some (.int .u64 b) ∧ w.cell? ⟨L.sp, 1, none⟩ = some (.int .i64 l) ∧ w.cell? ⟨L.sp, 2, none⟩ = some (.int .i64 (o : Int)) ∧ w.cell? ⟨L.sp, 3, none⟩ = some (.int .u64 (sz : Int)) ∧ w.cell? ⟨L.sp, 4, none⟩ = some L.pv) ∧ ∃ A c, L.pv = .slice A L.ps.length c := by
  refine ⟨⟨blk_cell h.at_ 0, blk_cell h.at_ 1, blk_cell h.at_ 2, blk_cell h.at_ 3, blk_cell h.at_ 4⟩, ?_⟩
  rcases h.own.2 with ⟨e, e0⟩ | ⟨g, cap, cur, e, -⟩
  · exact ⟨none, 0, by rw [e, e0]⟩
  · exact ⟨_, _, e⟩
set_option maxRecDepth 100000 in
theorem End_c {w : World} {L : SpL} {b l : Int} {o sz : Nat} {mem : List Int} (h : SpaceR w L b l o sz mem) (hc : CfgOk b l o sz) (hn : (L.ps.length : Int) ≤ l) : Calls Try.prog 94 #[.pointer (some ⟨L.sp, 0, none⟩)] w fun e w' => e = .returned (.int .u64 (b + ((L.ps.length * sz : Nat) : Int))) ∧ Drawn0 w w' := by
  obtain ⟨⟨c0, c1, c2, c3, c4⟩, A, c, hv⟩ := h.cells
  obtain ⟨y, hy, hyI, n1, n2, n3, n4, n5⟩ := space_nums hc hn
  rw [hv] at c4
  rw [hy]
  have h64 := hc.l64
  clear h hc
  generalize L.ps.length = n at *
  generalize L.sp = sp at *
  clear hy hyI
  have hnl : n ≤ 9223372036854775807 := by omega
  go_enter Try.func94, Try.ntmps94
  go_wp2
  go_quiet (fail)
  go_wp2
  go_ret
  exact ⟨rfl, _, rfl⟩
theorem infoU8 : (Try.prog.info? 5).map (fun i => (i.zero, i.size, i.bytes)) = some (some (.int .u8 0), 1, 1) := by kernel_rfl
theorem infoBs : (Try.prog.info? 25).map (fun i => (i.zero, i.size, i.bytes)) = some (some (.slice none 0 0), 1, 24) := by kernel_rfl
def zeroO (n : Nat) : Obj := .cells (madeCells #[.int .u8 0] n) 5 (0, 0)
theorem makeB {n : Nat} (hn : n ≤ 67108864) (kl : IntKind) (w : World) : (Instr.makeSlice 25 (.int kl (n : Int)) (.int kl (n : Int))).run Try.prog w = .ok (.slice (some ⟨w.heap.size, 0, none⟩) n n) (w.alloc (zeroO n)) := by
  obtain ⟨i, hi, h1, h2, h3⟩ := info_parts infoU8
  have := run_make (P := Try.prog) w 25 5 i (.int .u8 0) Try.underlying25 hi h1 kl kl (n : Int) (n : Int) (by omega) (Int.le_refl _) (by rw [h3]; omega) (by omega)
  rw [this, h2]
  simp [zeroO, Value.cells]
structure GrownSp (w w' : World) (L L' : SpL) (sz : Nat) : Prop where
  sp : L'.sp = L.sp
  ps : ∃ p, L'.ps = L.ps ++ [p] ∧ w.heap.size ≤ p
  new : ∀ k ∈ L'.blks, k ∈ L.blks ∨ w.heap.size ≤ k
theorem gb_undrew {w w3 : World} {row : Option Nat} (h : w.drew.grownBy w3 row) : w.grownBy w3 row := ⟨h.os, h.tape, h.output, h.size, h.block⟩
theorem getD_app_l {l m : List Int} {i : Nat} (h : i < l.length) : (l ++ m).getD i 0 = l.getD i 0 := by
  rw [List.getD_eq_getElem?_getD, List.getD_eq_getElem?_getD, List.getElem?_append_left h]
theorem commit_rep {w w1 w3 : World} {L : SpL} {b l : Int} {o sz n cap g : Nat} {mem : List Int} {o3 : Obj} (HS : SpaceR w L b l o sz mem) (hn : L.ps.length = n) (h1 : w1.heap = w.heap) (hu1 : Upd (fun k => k ∈ L.blks) w w1)
    (hown : w3.ownsRow 0 25 1 (.slice (some ⟨g, 0, none⟩) (n + 1) cap) (n + 1) (L.ps.map (partV sz) ++ [partV sz w1.heap.size]))
    (hgrow : ((w1.alloc (zeroO sz)).alloc o3).grownBy w3 L.pv.ownBlock) (hat : L.pv.ownBlock = some g ∨ g = w1.heap.size + 2) :
    ∃ L', SpaceR (w3.setCell ⟨L.sp, 4, none⟩ (.slice (some ⟨g, 0, none⟩) (n + 1) cap)) L' b l o sz (mem ++ List.replicate sz 0) ∧ GrownSp w (w3.setCell ⟨L.sp, 4, none⟩ (.slice (some ⟨g, 0, none⟩) (n + 1) cap)) L L' sz ∧ Upd (fun k => k ∈ L.blks) w (w3.setCell ⟨L.sp, 4, none⟩ (.slice (some ⟨g, 0, none⟩) (n + 1) cap)) := by
  have hlt := HS.lt
  have hnd := HS.nodup
  have hps : ∀ p ∈ L.ps, p ∈ L.blks := fun p hp => by unfold SpL.blks; simp [hp]
  have hspb : L.sp ∈ L.blks := by unfold SpL.blks; simp
  have hss : w1.heap.size = w.heap.size := by rw [h1]
  have hgs := hgrow.size
  simp only [World.size_alloc] at hgs
  unfold SpL.blks at hnd
  obtain ⟨hn1, hn2⟩ := List.nodup_cons.1 hnd
  obtain ⟨hn3, hn4, hn5⟩ := List.nodup_append.1 hn2
  have hgne : L.sp ≠ g ∧ g ∉ L.ps ∧ g ≠ w.heap.size ∧ (g ∈ L.blks ∨ w.heap.size ≤ g) := by
    rcases hat with hat | hat
    · have hm : g ∈ L.pv.ownBlock.toList := by simp [hat]
      have hgb : g ∈ L.blks := by unfold SpL.blks; simp [hat]
      refine ⟨fun e => hn1 (by rw [e]; exact List.mem_append_left _ hm), fun hp => hn5 g hm g hp rfl, ?_, .inl hgb⟩
      have := hlt g hgb; omega
    · have := hlt _ hspb
      refine ⟨by omega, fun hp => ?_, by omega, .inr (by omega)⟩
      have := hlt g (hps g hp); omega
  have keep : ∀ k, k < w.heap.size → some k ≠ L.pv.ownBlock → w3.heap[k]? = w.heap[k]? := fun k hk hne => by
    rw [hgrow.block k (by simp; omega) hne, Below.heap_alloc _ _ _ (by simp; omega), Below.heap_alloc _ _ _ (by omega), h1]
  have far : ∀ k, k ≠ L.sp → (w3.setCell ⟨L.sp, 4, none⟩ (.slice (some ⟨g, 0, none⟩) (n + 1) cap)).heap[k]? = w3.heap[k]? := fun k hk => Below.heap_setCell w3 _ _ _ hk
  have hsne : some L.sp ≠ L.pv.ownBlock := fun e => hn1 (by rw [← e]; simp)
  have hpne : ∀ p ∈ L.ps, some p ≠ L.pv.ownBlock := fun p hp e => hn5 p (by rw [← e]; simp) p hp rfl
  have hat3 : w3.heap[L.sp]? = some (spaceO b l o sz L.pv) := (keep _ (hlt _ hspb) hsne).trans HS.at_
  have hnew : w3.heap[w1.heap.size]? = some (zeroO sz) := by
    rw [hgrow.block w1.heap.size (by simp; omega) (fun e => by
      have := hlt w1.heap.size (by unfold SpL.blks; rw [← e]; simp)
      omega), Below.heap_alloc _ _ _ (by simp)]
    exact blk_new _ _
  have hpl : w1.heap.size ∉ L.ps := fun hp => by have := hlt _ (hps _ hp); omega
  refine ⟨⟨L.sp, .slice (some ⟨g, 0, none⟩) (n + 1) cap, L.ps ++ [w1.heap.size]⟩, ⟨?_, ?_, ?_, ?_, ?_, ?_⟩, ⟨rfl, ⟨_, rfl, by omega⟩, ?_⟩, ?_⟩
  · unfold spaceO at hat3 ⊢
    exact blk_put hat3 4 _ rfl
  · have := own_setCell hown (p := ⟨L.sp, 4, none⟩) (by simp [Value.ownBlock]; exact hgne.1) (.slice (some ⟨g, 0, none⟩) (n + 1) cap)
    simpa [hn] using this
  · rw [List.length_append, List.length_append, List.length_replicate, HS.len]
    simp [Nat.add_mul]
  · intro x hx
    rcases List.mem_append.1 hx with hx | hx
    · exact HS.byte x hx
    · rw [(List.mem_replicate.1 hx).2]; decide
  · intro i p hp
    by_cases hi : i < L.ps.length
    · rw [List.getElem?_append_left hi] at hp
      obtain ⟨cs, h2, h3, h4⟩ := HS.part i p hp
      have hpm := List.mem_of_getElem? hp
      refine ⟨cs, ?_, h3, fun j hj => ?_⟩
      · rw [far p (fun e => hn1 (by rw [← e]; exact List.mem_append_right _ hpm)), keep p (hlt p (hps p hpm)) (hpne p hpm)]
        exact h2
      · rw [getD_app_l (by
          rw [HS.len]
          have : (i + 1) * sz ≤ L.ps.length * sz := Nat.mul_le_mul_right sz hi
          rw [Nat.add_mul, Nat.one_mul] at this
          omega)]
        exact h4 j hj
    · rw [List.getElem?_append_right (by omega)] at hp
      have hi2 : i = L.ps.length := by
        rcases Nat.lt_or_ge (i - L.ps.length) 1 with h | h
        · omega
        · rw [List.getElem?_eq_none (by simpa using h)] at hp; cases hp
      subst hi2
      simp at hp
      subst hp
      refine ⟨madeCells #[.int .u8 0] sz, ?_, ?_, fun j hj => ?_⟩
      · rw [far _ (by have := hlt _ hspb; omega)]
        exact hnew
      · exact size_madeCells _ _
      · rw [List.getD_eq_getElem?_getD, List.getElem?_append_right (by rw [HS.len]; omega), ← Array.getElem?_toList, toList_madeCells_one, List.getElem?_replicate, List.getElem?_replicate, HS.len]
        rw [if_pos hj, if_pos (by omega)]
        rfl
  · show (L.sp :: ((Value.slice (some ⟨g, 0, none⟩) (n + 1) cap).ownBlock.toList ++ (L.ps ++ [w1.heap.size]))).Nodup
    have hgo : (Value.slice (some ⟨g, 0, none⟩) (n + 1) cap).ownBlock.toList = [g] := rfl
    rw [hgo]
    show (L.sp :: g :: (L.ps ++ [w1.heap.size])).Nodup
    refine List.nodup_cons.2 ⟨?_, ?_⟩
    · intro hm
      simp at hm
      rcases hm with e | hm | hm
      · exact hgne.1 e
      · exact hn1 (List.mem_append_right _ hm)
      · have := hlt _ hspb; omega
    · refine List.nodup_cons.2 ⟨?_, ?_⟩
      · intro hm
        rcases List.mem_append.1 hm with hm | hm
        · exact hgne.2.1 hm
        · exact hgne.2.2.1 (by rw [List.mem_singleton.1 hm]; exact hss)
      · refine List.nodup_append.2 ⟨hn4, by simp, fun a ha c hc e => ?_⟩
        rw [List.mem_singleton.1 hc] at e
        exact hpl (e ▸ ha)
  · intro k hk
    unfold SpL.blks at hk
    simp [Value.ownBlock] at hk
    rcases hk with rfl | rfl | hk | rfl
    · exact .inl hspb
    · exact hgne.2.2.2
    · exact .inl (hps k hk)
    · exact .inr (by omega)
  · refine ⟨hgrow.os.trans hu1.os, hgrow.tape.trans hu1.tape, hgrow.output.trans hu1.output, ?_, fun k hk hne => ?_⟩
    · show w.heap.size ≤ (w3.setCell _ _).heap.size
      simp [World.setCell]; omega
    · rw [far k (fun e => hne (by rw [e]; exact hspb)), keep k hk (fun e => hne (by unfold SpL.blks; rw [← e]; simp))]
set_option maxRecDepth 100000 in
theorem Commit_c {w : World} {L : SpL} {b l : Int} {o sz : Nat} {mem : List Int} (h : SpaceR w L b l o sz mem) (hc : CfgOk b l o sz) (hn : (L.ps.length : Int) < l) : Calls Try.prog 68 #[.pointer (some ⟨L.sp, 0, none⟩), .bool false] w fun e w' => e = .returned (.tuple #[.int .u64 (b + ((L.ps.length * sz : Nat) : Int)), .int .i64 0]) ∧ ∃ L', SpaceR w' L' b l o sz (mem ++ List.replicate sz 0) ∧ GrownSp w w' L L' sz ∧ Upd (fun k => k ∈ L.blks) w w' := by
  obtain ⟨⟨c0, c1, c2, c3, c4⟩, A, c, hv⟩ := h.cells
  have HE := Lib.hid (fun (q : Nat) => End_c (h.keep (w' := w.drewN q) (fun _ _ => rfl)) hc (Int.le_of_lt hn))
  have HS := Lib.hid h
  have hd1 : ((L.ps.length : Int) == l) = false := by rw [beq_eq_false_iff_ne]; omega
  have hl64 := hc.l64
  have hsz := hc.hi
  have HMK := fun wx => makeB (n := sz) (by omega) .u64 wx
  have HSP := Lib.hid (blk_lt h.at_)
  have HFR := Lib.hid (show ∀ wx : World, wx.heap[L.sp]? = some (spaceO b l o sz L.pv) → wx.cell? ⟨L.sp, 2, none⟩ = some (.int .i64 (o : Int)) ∧ wx.cell? ⟨L.sp, 3, none⟩ = some (.int .u64 (sz : Int)) ∧ wx.cell? ⟨L.sp, 4, none⟩ = some L.pv ∧ wx.frozen? ⟨L.sp, 4, none⟩ = false from fun wx hx => by
    unfold spaceO at hx
    exact ⟨blk_cell hx 2, blk_cell hx 3, blk_cell hx 4, blk_frozen hx 4⟩)
  obtain ⟨n, hnn⟩ : ∃ n, L.ps.length = n := ⟨_, rfl⟩
  rw [hnn] at hv hd1 hn
  rw [hv] at c4
  clear h hc
  go_enter Try.func68, Try.ntmps68
  go_wp2
  go_quiet (fail)
  clear c0 c1 c2 c3 c4 hd1
  go_upto_region 4 with (go_at_call 94; refine (HE.out _).mono ?_; rintro e w1 ⟨rfl, hw1⟩)
  have HW1 := Lib.hid (show w1.heap = w.heap by obtain ⟨n1, rfl⟩ := hw1; rfl)
  have HU1 := Lib.hid (show Upd (fun k => k ∈ L.blks) w w1 by obtain ⟨n1, rfl⟩ := hw1; exact ⟨rfl, rfl, rfl, Nat.le_refl _, fun _ _ _ => rfl⟩)
  clear hw1
  have hat1 : w1.heap[L.sp]? = some (spaceO b l o sz L.pv) := by rw [HW1.out]; exact HS.out.at_
  have hsp1 : L.sp < w1.heap.size := by rw [HW1.out]; exact HSP.out
  have hat2 := blk_alloc hat1 (zeroO sz)
  have hat3 := blk_alloc hat2 (.cells #[.slice (some ⟨w1.heap.size, 0, none⟩) sz sz] 25 (0, 0))
  obtain ⟨-, a3, a4, fa⟩ := HFR.out _ hat1
  obtain ⟨-, b3, b4, fb⟩ := HFR.out _ hat2
  obtain ⟨-, d3, d4, fd⟩ := HFR.out _ hat3
  rw [hv] at a4 b4 d4
  have HAT3 := Lib.hid hat3
  have HOW := Lib.hid (show w1.ownsRow 0 25 1 (.slice A n c) n (L.ps.map (partV sz)) by
    have := HS.out.own
    rw [hv, hnn] at this
    exact own_move this (fun k hk => by rw [HW1.out]))
  obtain ⟨i0, hi0, hz0, hz1, hz2⟩ := info_parts infoBs
  have HI0 := Lib.hid hi0
  have HML := Lib.hid (show n + 1 ≤ maxLen by unfold maxLen; omega)
  have HBY := Lib.hid (show (n + 1) * 24 ≤ 140737488355328 by omega)
  have HNEW := Lib.hid (show ((w1.alloc (zeroO sz)).alloc (.cells #[.slice (some ⟨w1.heap.size, 0, none⟩) sz sz] 25 (0, 0))).heap[w1.heap.size + 1]? = some (.cells #[.slice (some ⟨w1.heap.size, 0, none⟩) sz sz] 25 (0, 0)) by
    have := blk_new (w1.alloc (zeroO sz)) (.cells #[.slice (some ⟨w1.heap.size, 0, none⟩) sz sz] 25 (0, 0))
    simpa using this)
  have HNE := Lib.hid (show some L.sp ≠ (Value.slice A n c).ownBlock from fun e => by
    have := HS.out.nodup
    rw [← hv] at e
    unfold SpL.blks at this
    rw [← e] at this
    simp at this)
  have HG3 := Lib.hid (show ∀ w3, ((w1.alloc (zeroO sz)).alloc (.cells #[.slice (some ⟨w1.heap.size, 0, none⟩) sz sz] 25 (0, 0))).grownBy w3 (Value.slice A n c).ownBlock → w3.heap[L.sp]? = some (spaceO b l o sz L.pv) from fun w3 hg => blk_grown HAT3.out hg HNE.out)
  clear hat1 hat2 hat3 hi0
  go_region_law
    (refine step_append_lies _ (by rfl) _ _ _ (by rfl) 0 25 i0 _ 1 24 Try.underlying138 HI0.out hz0 hz1 hz2 rfl (by omega) (.slice A n c) n (L.ps.map (partV sz)) (by rfl) ((HOW.out.alloc _).alloc _) ⟨w1.heap.size + 1, 0, none⟩ 1 1 [.slice (some ⟨w1.heap.size, 0, none⟩) sz sz] (by rfl) (by rfl) (World.news_of_block (cs := #[.slice (some ⟨w1.heap.size, 0, none⟩) sz sz]) (t := 25) (fr := (0, 0)) HNEW.out) (by simp [Value.oneCell']) (by omega) HML.out HBY.out (Nat.zero_le _) (w1.heap.size + 2) (by simp) ?_; intro g cap w3 hown3 hgrow3' hat3 hlt3; have hgrow3 := gb_undrew hgrow3'; clear hgrow3'; have HOWN3 := Lib.hid hown3; have HGROW3 := Lib.hid hgrow3; obtain ⟨-, -, k4, f4⟩ := HFR.out w3 (HG3.out w3 hgrow3); rw [hv] at k4; have HAT4 := Lib.hid hat3; clear hown3 hgrow3 hat3 hlt3)
  all_goals
    clear a3 a4 b3 b4 d3 d4 k4 fa fb fd f4
    go_wp2
    go_ret2
    rw [hnn, Int.natCast_mul]
    refine ⟨rfl, ?_⟩
    have hg := HGROW3.out
    have ha := HAT4.out
    rw [← hv] at hg ha
    exact commit_rep HS.out hnn HW1.out HU1.out HOWN3.out hg ha
end Go.Proofs.Ytkgedpcipaogjaa.WB
end
section
namespace Go.Proofs.Ytkgedpcipaogjaa.WB
open Go Go.RowKit Go.Proofs.YtkgedpcipaogjaaW.PrintWords Go.Proofs.YtkgedpcipaogjaaW.PrintLast Go.Proofs.YtkgedpcipaogjaaW.PrintMore
set_option linter.unusedVariables false
set_option linter.unusedSimpArgs false
def RuleB (fn gv : Nat) (w : World) (res : Option Int) : Prop :=
  Calls Try.prog fn #[.pointer (some ⟨gv, 0, none⟩)] w fun e w' => (res = none → e = .returned (.tuple #[])) ∧ (∀ pl, res = some pl → e = .panicked (thrown pl)) ∧ Below w.heap.size w w'
theorem within_i (v lo hi : Int) (w : World) : Calls Try.prog 78 #[.int .i64 v, .int .i64 lo, .int .i64 hi] w fun e w' => e = .returned (.bool (inB v lo hi)) ∧ w' = w := within_c v lo hi w
theorem must_c (so : Bool) (pl : Int) (w : World) : Calls Try.prog 77 #[.bool so, .int .i64 pl] w fun e w' => (so = true → e = .returned (.tuple #[])) ∧ (so = false → e = .panicked (thrown pl)) ∧ w' = w := by
  cases so
  · exact (must_bad pl w).mono (fun e w' h => ⟨(fun h => nomatch h), fun _ => h.1, h.2⟩)
  · exact (must_ok pl w).mono (fun e w' h => ⟨fun _ => h.1, (fun h => nomatch h), h.2⟩)
theorem rule_ok {fn gv : Nat} {w : World} {res : Option Int} (h : res = none) (hc : Calls Try.prog fn #[.pointer (some ⟨gv, 0, none⟩)] w fun e w' => e = .returned (.tuple #[]) ∧ Below w.heap.size w w') : RuleB fn gv w res := by
  subst h
  exact hc.mono (fun e w' hh => ⟨fun _ => hh.1, (fun _ h => nomatch h), hh.2⟩)
theorem rule_bad {fn gv : Nat} {w : World} {res : Option Int} {pl : Int} (h : res = some pl) (hc : Calls Try.prog fn #[.pointer (some ⟨gv, 0, none⟩)] w fun e w' => e = .panicked (thrown pl) ∧ Below w.heap.size w w') : RuleB fn gv w res := by
  subst h
  exact hc.mono (fun e w' hh => ⟨(fun h => nomatch h), (fun _ h => (Option.some.inj h) ▸ hh.1), hh.2⟩)
theorem bx_skip {PP : Program} {ops : Array Oper} {w : World} {Q : Act → Prop} {a : Act} {o : Oper} {rest : List Oper} (hw : Region.wanted o (yielded ops a.tmps) = false) (h : Aside0 (wpStill PP ops w Q rest (a.put o.dst undef))) : Aside0 (wpStill PP ops w Q (o :: rest) a) :=
  ⟨wpStill_step fun K hK => by rw [if_neg (by rw [hw]; exact Bool.false_ne_true)]; exact hK _ h.out⟩
theorem bx_want {PP : Program} {ops : Array Oper} {w : World} {Q : Act → Prop} {a : Act} {o : Oper} {rest : List Oper} (hw : Region.wanted o (yielded ops a.tmps) = true) (h : ∀ K : Act → Prop, (∀ a, Aside0 (wpStill PP ops w Q rest a) → K a) → o.still PP a w K) : Aside0 (wpStill PP ops w Q (o :: rest) a) :=
  ⟨wpStill_step fun K hK => by rw [if_pos hw]; exact h K (fun a ha => hK a ha.out)⟩
theorem bx_nil {PP : Program} {ops : Array Oper} {w : World} {Q : Act → Prop} {a : Act} (h : Q a) : Aside0 (wpStill PP ops w Q [] a) := ⟨wpStill_nil h⟩
theorem bx_tail {PP : Program} {id : Nat} {Q : Exit → Act → World → Prop} {a : Act} {w w2 : World} {l : List Oper} (n : Nat) (hw2 : w.drew = w2) (hm : PP.follows .mixedOrders = true) (hB : Region.lexTailB .any l.toArray n = true)
    (h : Aside0 (wpStill PP l.toArray w2 (fun a' => wpList PP l.toArray Q (l.drop n) a' w2) (l.take n) a)) : (Code.region id l.toArray true).wp PP Q a w := by
  subst hw2
  exact wp_region_still_tail n hm hB h.out
def RuleP (w : World) (res : Option Int) (e : Ending) (w' : World) : Prop := (res = none → e = .returned (.tuple #[])) ∧ (∀ pl, res = some pl → e = .panicked (thrown pl)) ∧ Below w.heap.size w w'
theorem RuleP_ok {w : World} {res : Option Int} {w' : World} (h : res = none) (hb : Below w.heap.size w w') : RuleP w res (.returned (.tuple #[])) w' := ⟨fun _ => rfl, fun _ h2 => (by rw [h] at h2; cases h2), hb⟩
theorem RuleP_bad {w : World} {res : Option Int} {w' : World} {pl : Int} (h : res = some pl) (hb : Below w.heap.size w w') : RuleP w res (.panicked (thrown pl)) w' :=
  ⟨fun h2 => (by rw [h] at h2; cases h2), fun pl2 h2 => (by rw [h] at h2; injection h2 with h2; rw [h2]), hb⟩
theorem within_b {v lo hi : Int} {b : Bool} (h : inB v lo hi = b) (w : World) : Calls Try.prog 78 #[.int .i64 v, .int .i64 lo, .int .i64 hi] w fun e w' => e = .returned (.bool b) ∧ w' = w := h ▸ within_i v lo hi w
end Go.Proofs.Ytkgedpcipaogjaa.WB
end
section
namespace Go.Proofs.Ytkgedpcipaogjaa.WB
open Go Go.RowKit Go.Proofs.YtkgedpcipaogjaaW.PrintWords Go.Proofs.YtkgedpcipaogjaaW.PrintLast Go.Proofs.YtkgedpcipaogjaaW.PrintMore Go.Proofs.Ytkgedpcipaogjaa.Sets Go.Proofs.Ytkgedpcipaogjaa.SetF Go.Proofs.Ytkgedpcipaogjaa.Mem
set_option linter.unusedVariables false
set_option linter.unusedSimpArgs false
structure SN (w : World) (sb n : Nat) (ws : List Int) (wi : World) : Prop where
  set : SetR (fun b => w.heap.size ≤ b) wi sb (n : Int) ws
  clean : SetF.Clean n ws
  below : Below w.heap.size w wi
theorem SN.drawn {w : World} {sb n : Nat} {ws : List Int} {wi : World} (h : SN w sb n ws wi) (d : Nat) : SN w sb n ws (wi.drewN d) := ⟨h.set.step (fun _ _ _ => rfl), h.clean, pw_below_drewN h.below d⟩
theorem SN.later {w : World} {sb n : Nat} {ws : List Int} {wi w' : World} (h : SN w sb n ws wi) (hb : Below wi.heap.size wi w') : SN w sb n ws w' := ⟨h.set.step (fun k _ hk => hb.block k hk), h.clean, h.below.trans (hb.mono h.below.size)⟩
theorem fit_nat {n : Nat} (h : n ≤ 1048576) : fitN (n : Int) = n := by unfold fitN mx mn; omega
theorem SN.get {w : World} {sb n : Nat} {ws : List Int} {wi : World} (h : SN w sb n ws wi) (i : Nat) (hi : i < n) :
    Calls Try.prog 83 #[.pointer (some ⟨sb, 0, none⟩), .int .i64 (i : Int)] wi fun e w' => e = .returned (.bool (bitN ws i)) ∧ w' = wi := by
  refine (Get_in h.set (i : Int) (by omega) (by omega)).mono ?_
  rintro e w' ⟨rfl, rfl⟩
  exact ⟨by rw [bitI_bitN h.set.2.2.2.1], rfl⟩
theorem SN.wd {w : World} {sb n : Nat} {ws : List Int} {wi : World} (h : SN w sb n ws wi) : Wd ws := h.set.2.2.2.1
theorem SN.len {w : World} {sb n : Nat} {ws : List Int} {wi : World} (h : SN w sb n ws wi) {i : Nat} (hi : i < n) : i / 64 < ws.length := by
  have := h.set.2.2.1
  omega
theorem SN.put {w : World} {sb n : Nat} {ws : List Int} {wi : World} (h : SN w sb n ws wi) (i : Nat) (hi : i < n) :
    Calls Try.prog 88 #[.pointer (some ⟨sb, 0, none⟩), .int .i64 (i : Int), .bool true] wi fun e w' => e = .returned (.bool true) ∧ SN w sb n (Tz.putW ws i true) w' := by
  refine (Tz.Put_in h.set i (by omega) true).mono ?_
  rintro e w' ⟨rfl, hs, hu⟩
  refine ⟨rfl, hs, ?_, ?_⟩
  · unfold Tz.putW
    split
    · exact h.clean
    · exact Tz.flip_clean h.clean i hi (h.len hi)
  · exact h.below.trans (hu.below h.below.size (fun k hk => hk))
theorem put_bit {ws : List Int} {i : Nat} (hi : i / 64 < ws.length) (j : Nat) : bitN (Tz.putW ws i true) j = (decide (j = i) || bitN ws j) := by
  unfold Tz.putW
  by_cases h : bitN ws i = true
  · rw [if_pos h]
    by_cases e : j = i
    · subst e; simp [h]
    · simp [e]
  · rw [if_neg h, Tz.flip_bit ws i hi]
    by_cases e : j = i
    · subst e; simp [h]
    · simp [e]
theorem new_bit (n j : Nat) : bitN (ofW [] (n : Int)) j = false := by
  rw [ofW_bit wd_nil]
  simp [bitN, wd]
theorem newSN (w : World) (n : Nat) (hn : n ≤ 1048576) :
    Calls Try.prog 85 #[.int .i64 (n : Int)] w fun e w' => ∃ sb, e = .returned (.pointer (some ⟨sb, 0, none⟩)) ∧ SN w sb n (ofW [] (n : Int)) w' := by
  refine (NewSet_calls w (n : Int)).mono ?_
  rintro e w' ⟨b, rfl, hs, hu⟩
  rw [fit_nat hn] at hs
  exact ⟨b, rfl, hs, ofW_clean wd_nil _ _ (fit_nat hn), hu.fresh⟩
theorem SN.count {w : World} {sb n : Nat} {ws : List Int} {wi : World} (h : SN w sb n ws wi) :
    Calls Try.prog 89 #[.pointer (some ⟨sb, 0, none⟩)] wi fun e w' => e = .returned (.int .i64 (Tz.cn (bitN ws) n : Nat)) ∧ Drawn0 wi w' := Tz.Count_calls h.set h.clean
end Go.Proofs.Ytkgedpcipaogjaa.WB
end
section
namespace Go.Proofs.Ytkgedpcipaogjaa.WB
open Go Go.RowKit Go.Proofs.YtkgedpcipaogjaaW.PrintWords Go.Proofs.YtkgedpcipaogjaaW.PrintLast Go.Proofs.YtkgedpcipaogjaaW.PrintMore Go.Proofs.Ytkgedpcipaogjaa.SetF Go.Proofs.Ytkgedpcipaogjaa.Sets
set_option linter.unusedVariables false
set_option linter.unusedSimpArgs false
theorem bitL_N {l : List Int} (h : Wd l) (i : Nat) : bitL l i = bitN l i := by
  rw [← bitI_bitN h i]
  unfold bitL bitI
  rw [show ((i : Int) / 64).toNat = i / 64 by omega, show ((i : Int) % 64).toNat = i % 64 by omega]
theorem tail_iff {l : List Int} {n : Nat} (hw : Wd l) (hn : n ≤ 1048576) (hl : l.length = (n + 63) / 64) : (∀ i, i < l.length → (ofW l (n : Int)).getD i 0 = l.getD i 0) ↔ ∀ j, j < 64 * l.length → n ≤ j → bitL l j = false := by
  have ho := ofW_wd hw (n : Int)
  have hbit := fun j => ofW_bit hw (n : Int) j
  rw [fit_nat hn] at hbit
  constructor
  · intro h j hj hnj
    have h1 := hbit j
    rw [decide_eq_false (by omega)] at h1
    have h2 := h (j / 64) (by omega)
    rw [bitL_N hw]
    unfold bitN wd at h1 ⊢
    rw [h2] at h1
    rw [h1]; rfl
  · intro h i hi
    rw [wd_int ho, wd_int hw]
    have e : wd (ofW l (n : Int)) i = wd l i := by
      apply Nat.eq_of_testBit_eq
      intro r
      by_cases hr : r < 64
      · have h1 := hbit (64 * i + r)
        have e1 : (64 * i + r) / 64 = i := by omega
        have e2 : (64 * i + r) % 64 = r := by omega
        have h3 : bitN l (64 * i + r) = (wd l i).testBit r := by unfold bitN; rw [e1, e2]
        have h4 : bitN (ofW l (n : Int)) (64 * i + r) = (wd (ofW l (n : Int)) i).testBit r := by unfold bitN; rw [e1, e2]
        rw [← h4, h1, ← h3]
        by_cases hlt : 64 * i + r < n
        · rw [decide_eq_true (by omega)]; simp
        · rw [decide_eq_false (by omega)]
          have := h (64 * i + r) (by omega) (by omega)
          rw [bitL_N hw] at this
          rw [this]; rfl
      · have hp : 2 ^ 64 ≤ 2 ^ r := Nat.pow_le_pow_right (by decide) (by omega)
        rw [Nat.testBit_lt_two_pow (Nat.lt_of_lt_of_le (wd_lt ho i) hp), Nat.testBit_lt_two_pow (Nat.lt_of_lt_of_le (wd_lt hw i) hp)]
    rw [e]
structure SetsAt (F : Nat → Prop) (w : World) (im : Im) (P : Value) : Prop where
  at_ : ∃ A cap, P = .slice A im.pairs.length cap ∧ ∀ k, k < im.pairs.length → ∃ ad sb, A = some ad ∧ F ad.block ∧ w.cell? (ad.add k) = some (.pointer (some ⟨sb, 0, none⟩)) ∧ SetR F w sb (im.np k : Int) (ofW (im.row k) (im.np k : Int))
theorem SetsAt.keep {F : Nat → Prop} {w w' : World} {im : Im} {P : Value} (h : SetsAt F w im P) (hk : ∀ b, F b → w'.heap[b]? = w.heap[b]?) : SetsAt F w' im P := by
  obtain ⟨A, cap, h1, h2⟩ := h.at_
  refine ⟨A, cap, h1, fun k hlt => ?_⟩
  obtain ⟨ad, sb, a1, a2, a3, a4⟩ := h2 k hlt
  exact ⟨ad, sb, a1, a2, (cell_keep (hk _ a2)).trans a3, a4.step (fun b hb _ => hk b hb)⟩
theorem Im.Wf.row {im : Im} (h : im.Wf) {k : Nat} (hk : k < im.pairs.length) : Wd (im.row k) ∧ (im.row k).length ≤ 140737488355328 := by
  have hm : im.row k ∈ im.pairs := by
    unfold Im.row
    rw [List.getD_eq_getElem?_getD, List.getElem?_eq_getElem hk]
    exact List.getElem_mem hk
  refine ⟨fun i => ?_, h.lrows _ hm⟩
  rw [List.getD_eq_getElem?_getD]
  by_cases hi : i < (im.row k).length
  · rw [List.getElem?_eq_getElem hi]
    exact h.pairs _ hm _ (List.getElem_mem hi)
  · rw [List.getElem?_eq_none (by omega)]
    exact ⟨by simp, by simp⟩
end Go.Proofs.Ytkgedpcipaogjaa.WB
end
section
namespace Go.Proofs.Ytkgedpcipaogjaa.WB
open Go Go.RowKit Go.Proofs.YtkgedpcipaogjaaW.PrintWords Go.Proofs.YtkgedpcipaogjaaW.PrintLast Go.Proofs.YtkgedpcipaogjaaW.PrintMore Go.Proofs.Ytkgedpcipaogjaa.SetF Go.Proofs.Ytkgedpcipaogjaa.Sets Go.Proofs.Ytkgedpcipaogjaa.Mem
set_option linter.unusedVariables false
set_option linter.unusedSimpArgs false
theorem C_of_RowI {F : Nat → Prop} {w : World} {A : Option Addr} {l : List Int} (h : RowI F w A .u64 l) (hl : l.length ≤ 140737488355328) : (Kd.int .u64).C w A l.length l := by
  refine ⟨rfl, by omega, fun hn => ?_⟩
  obtain ⟨ad, e, -, hx⟩ := h hn
  refine ⟨ad, e, fun j p hj => ⟨[.int .u64 p], rfl, rfl, fun i u hu => ?_⟩⟩
  have hjl : j < l.length := (List.getElem?_eq_some_iff.1 hj).1
  cases i with
  | zero =>
    simp only [List.getElem?_cons_zero, Option.some.injEq] at hu
    subst hu
    have := hx j hjl
    rw [List.getD_eq_getElem?_getD, hj] at this
    have e1 : j * (Kd.int .u64).sz + 0 = j := by show j * 1 + 0 = j; omega
    rw [e1]
    exact this
  | succ i => simp at hu
theorem r2_1 {im : Im} (h : inB im.regions 0 im.limit = false) : R2 im = some 0 := by unfold R2; rw [if_pos h]
theorem r2_2 {im : Im} (h : inB im.regions 0 im.limit = true) (h2 : (im.mem.length : Int) ≠ im.regions * RR im.order) : R2 im = some 1 := by unfold R2; rw [if_neg (by simp [h]), if_pos h2]
theorem r2_3 {im : Im} (h : inB im.regions 0 im.limit = true) (h2 : (im.mem.length : Int) = im.regions * RR im.order) (h3 : (im.n : Int) ≠ im.regions * 2 ^ im.order.toNat) : R2 im = some 2 := by unfold R2; rw [if_neg (by simp [h]), if_neg (by simp [h2]), if_pos h3]
theorem r2_4 {im : Im} (h : inB im.regions 0 im.limit = true) (h2 : (im.mem.length : Int) = im.regions * RR im.order) (h3 : (im.n : Int) = im.regions * 2 ^ im.order.toNat) (h4 : (im.pairs.length : Int) ≠ im.order) : R2 im = some 3 := by unfold R2; rw [if_neg (by simp [h]), if_neg (by simp [h2]), if_neg (by simp [h3]), if_pos h4]
def rowF (im : Im) (k : Nat) : Option Int := if (im.row k).length = (im.np k + 63) / 64 then none else some 3
theorem r2_5 {im : Im} (h : inB im.regions 0 im.limit = true) (h2 : (im.mem.length : Int) = im.regions * RR im.order) (h3 : (im.n : Int) = im.regions * 2 ^ im.order.toNat) (h4 : (im.pairs.length : Int) = im.order) :
    R2 im = match scan (rowF im) im.pairs.length 0 with
      | some p => some p
      | none => if (im.heads.length : Int) ≠ im.order + 1 then some 4 else if im.parts.length ≠ 8 then some 5 else none := by
  unfold R2; rw [if_neg (by simp [h]), if_neg (by simp [h2]), if_neg (by simp [h3]), if_neg (by simp [h4])]; rfl
def cfgO (im : Im) : Obj := .cells #[.int .u64 im.base, .int .i64 im.limit, .int .i64 im.order] 24 (0, 0)
def ptrV (b : Nat) : Value := .pointer (some ⟨b, 0, none⟩)
structure LenI (gv : Nat) (im : Im) (s : Sl) (w : World) (k : Nat) (ov : Value) (ps : List Nat) (wi : World) : Prop where
  at_ : wi.heap[gv]? = some (viewO im s ov)
  cfg : wi.heap[w.heap.size]? = some (cfgO im)
  own : wi.ownsRow (w.heap.size + 1) 129 1 ov k (ps.map ptrV)
  kb : KeptBut1 gv w wi
  len : ps.length = k
  size : w.heap.size < wi.heap.size
  sets : ∀ j, j < k → ∃ G : Nat → Prop, SetR G wi (ps.getD j 0) (im.np j : Int) (ofW (im.row j) (im.np j : Int)) ∧ ∀ b, G b → w.heap.size < b ∧ b < wi.heap.size ∧ ov.ownBlock ≠ some b
theorem LenI.drew {gv : Nat} {im : Im} {s : Sl} {w : World} {k : Nat} {ov : Value} {ps : List Nat} {wi : World} (h : LenI gv im s w k ov ps wi) : LenI gv im s w k ov ps wi.drew :=
  ⟨h.at_, h.cfg, own_move h.own (fun _ _ => rfl), h.kb.drew, h.len, h.size, fun j hj => by
    obtain ⟨G, h1, h2⟩ := h.sets j hj
    exact ⟨G, h1.step (fun _ _ _ => rfl), h2⟩⟩
theorem LenI.step {gv : Nat} {im : Im} {s : Sl} {w : World} {k : Nat} {ov : Value} {ps : List Nat} {wi w1 w2 : World} (h : LenI gv im s w k ov ps wi) (hgv : gv < w.heap.size) {b g cap : Nat} {o : Obj}
    (hs : SetR (New wi) w1 b (im.np k : Int) (ofW (im.row k) (im.np k : Int))) (hu : Upd No wi w1) (hown : w2.ownsRow (w.heap.size + 1) 129 1 (.slice (some ⟨g, 0, none⟩) (k + 1) cap) (k + 1) (ps.map ptrV ++ [ptrV b]))
    (hgrow : (w1.alloc o).grownBy w2 ov.ownBlock) (hat : ov.ownBlock = some g ∨ g = w1.heap.size + 1) :
    LenI gv im s w (k + 1) (.slice (some ⟨g, 0, none⟩) (k + 1) cap) (ps ++ [b]) (w2.setCell ⟨gv, 9, none⟩ (.slice (some ⟨g, 0, none⟩) (k + 1) cap)) := by
  have hsz := h.size
  have h1s := hu.size
  have h2s := hgrow.size
  simp only [World.size_alloc] at h2s
  have hlt := h.own.lt
  have hg : w.heap.size < g := by
    have := hown.lt g (by simp [Value.ownBlock])
    omega
  have keep : ∀ x, x < wi.heap.size → ov.ownBlock ≠ some x → w2.heap[x]? = wi.heap[x]? := fun x hx hne =>
    ((hgrow.block x (by simp; omega) (Ne.symm hne)).trans (Below.heap_alloc w1 o x (by omega))).trans (hu.block x hx (fun hf => hf.elim))
  have hne : ∀ x, x ≤ w.heap.size → ov.ownBlock ≠ some x := fun x hx e => by
    have := hlt x e
    omega
  have hgv2 : w2.heap[gv]? = some (viewO im s ov) := (keep gv (by omega) (hne gv (by omega))).trans h.at_
  have far : ∀ x, x ≠ gv → (w2.setCell ⟨gv, 9, none⟩ (.slice (some ⟨g, 0, none⟩) (k + 1) cap)).heap[x]? = w2.heap[x]? := fun x hx => Below.heap_setCell w2 _ _ _ hx
  have hsz2 : (w2.setCell ⟨gv, 9, none⟩ (.slice (some ⟨g, 0, none⟩) (k + 1) cap)).heap.size = w2.heap.size := by simp [World.setCell]
  refine ⟨?_, ?_, ?_, ⟨?_, ?_, ?_, ?_, ?_⟩, by simp [h.len], by rw [hsz2]; omega, ?_⟩
  · unfold viewO at hgv2 ⊢
    exact blk_put hgv2 9 _ rfl
  · rw [far _ (by omega), keep _ hsz (hne _ (Nat.le_refl _))]
    exact h.cfg
  · rw [List.map_append]
    exact own_setCell hown (by simp [Value.ownBlock]; omega) _
  · exact (hgrow.os.trans hu.os).trans h.kb.os
  · exact (hgrow.tape.trans hu.tape).trans h.kb.tape
  · exact (hgrow.output.trans hu.output).trans h.kb.output
  · rw [hsz2]; omega
  · intro x hx hxg
    rw [far x hxg, keep x (by omega) (hne x (by omega))]
    exact h.kb.block x hx hxg
  · intro j hj
    rw [hsz2]
    by_cases e : j = k
    · subst e
      refine ⟨fun x => New wi x ∧ x < w1.heap.size, ?_, fun x hx => ?_⟩
      · have hb := hs.bound
        have e2 : (ps ++ [b]).getD j 0 = b := by
          rw [List.getD_eq_getElem?_getD, List.getElem?_append_right (by rw [h.len]; exact Nat.le_refl _)]
          simp [h.len]
        rw [e2]
        refine hb.step (fun x hx _ => ?_)
        have hx1 : wi.heap.size ≤ x := hx.1
        rw [far x (by omega), hgrow.block x (by simp; omega) (by
          intro e3
          have := hlt x e3.symm
          omega), Below.heap_alloc w1 o x hx.2]
      · have hx1 : wi.heap.size ≤ x := hx.1
        refine ⟨by omega, by omega, ?_⟩
        intro e3
        simp only [Value.ownBlock, Option.some.injEq] at e3
        subst e3
        rcases hat with hat | hat
        · have := hlt _ hat; omega
        · omega
    · obtain ⟨G, g1, g2⟩ := h.sets j (by omega)
      refine ⟨G, ?_, fun x hx => ?_⟩
      · have e2 : (ps ++ [b]).getD j 0 = ps.getD j 0 := by
          rw [List.getD_eq_getElem?_getD, List.getElem?_append_left (by rw [h.len]; omega), ← List.getD_eq_getElem?_getD]
        rw [e2]
        refine g1.step (fun x hx hxl => ?_)
        have := g2 x hx
        rw [far x (by omega), keep x this.2.1 this.2.2]
      · have := g2 x hx
        refine ⟨this.1, by omega, ?_⟩
        intro e3
        simp only [Value.ownBlock, Option.some.injEq] at e3
        subst e3
        rcases hat with hat | hat
        · exact this.2.2 hat
        · omega
def LenP (F : Nat → Prop) (gv : Nat) (im : Im) (s : Sl) (w : World) (res : Option Int) (e : Ending) (w' : World) : Prop :=
  (res = none → e = .returned (.tuple #[]) ∧ ∃ P, V F gv im s P w' ∧ SetsAt (fun b => w.heap.size ≤ b ∧ b < w'.heap.size) w' im P) ∧ (∀ pl, res = some pl → e = .panicked (thrown pl)) ∧ KeptBut1 gv w w'
theorem LenP_bad {F : Nat → Prop} {gv : Nat} {im : Im} {s : Sl} {w : World} {res : Option Int} {w' : World} {pl : Int} (h : res = some pl) (hk : KeptBut1 gv w w') : LenP F gv im s w res (.panicked (thrown pl)) w' :=
  ⟨fun h2 => (by rw [h] at h2; cases h2), fun pl2 h2 => (by rw [h] at h2; injection h2 with h2; rw [h2]), hk⟩
theorem LenP_ok {F : Nat → Prop} {gv : Nat} {im : Im} {s : Sl} {w : World} {res : Option Int} {wi : World} {ov : Value} {ps : List Nat} (hr : res = none) (hv : ImAt F w im s) (hF : ∀ b, F b → b < w.heap.size ∧ b ≠ gv) (h : LenI gv im s w im.pairs.length ov ps wi) : LenP F gv im s w res (.returned (.tuple #[])) wi := by
  refine ⟨fun _ => ⟨rfl, ov, ⟨h.at_, hv.keep (fun b hb => h.kb.block b (hF b hb).1 (hF b hb).2)⟩, ⟨?_⟩⟩, fun pl h2 => (by rw [hr] at h2; cases h2), h.kb⟩
  by_cases h0 : im.pairs.length = 0
  · rcases h.own.2 with ⟨e, -⟩ | ⟨g, cap, cur, e, r⟩
    · exact ⟨none, 0, by rw [e, h0], fun k hk => by omega⟩
    · exact ⟨_, cap, e, fun k hk => by omega⟩
  · rcases h.own.2 with ⟨-, e⟩ | ⟨g, cap, cur, rfl, hg, hrest⟩
    · exact absurd e h0
    · refine ⟨some ⟨g, 0, none⟩, cap, rfl, fun k hk => ?_⟩
      obtain ⟨G, g1, g2⟩ := h.sets k hk
      have hlt := h.own.lt g (by simp [Value.ownBlock])
      refine ⟨⟨g, 0, none⟩, ps.getD k 0, rfl, ⟨by show w.heap.size ≤ g; omega, hlt.2⟩, ?_, g1.mono (fun b hb => ⟨by have := g2 b hb; omega, (g2 b hb).2.1⟩)⟩
      have hc := h.own.cells (g := g) (by simp [Value.ownBlock]) k (ptrV (ps.getD k 0)) (by
        rw [List.getElem?_map, List.getD_eq_getElem?_getD, List.getElem?_eq_getElem (by rw [h.len]; exact hk)]
        rfl)
      exact hc
end Go.Proofs.Ytkgedpcipaogjaa.WB
end
