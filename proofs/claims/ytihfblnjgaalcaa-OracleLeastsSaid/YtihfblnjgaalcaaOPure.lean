/- What the oracle's functions compute, on lists and functions: no program in sight. -/
import Derived.Test.YtihfblnjgaalcaaRB1
import Derived.Test.YtihfblnjgaalcaaOM
namespace Go.Proofs.Ytihfblnjgaalcaa.OP
open Go Go.RowKit Go.Proofs.Ytihfblnjgaalcaa.R Go.Proofs.Ytihfblnjgaalcaa.OM
set_option linter.unusedVariables false
/-- What a page holds: a great block's part, or small blocks of one size: the sizes at their addresses, and how many. -/
inductive Lot where
 | great (s : Int)
 | small (s : Int) (cs : Int → Option Int) (n : Nat)
abbrev PM := Int → Option Lot
def PM.none : PM := fun _ => Option.none
def pmSet (m : PM) (x : Int) (l : Lot) : PM := fun y => if y = x then some l else m y
theorem pmSet_same (m : PM) (x : Int) (l : Lot) : pmSet m x l x = some l := by simp [pmSet]
theorem pmSet_other (m : PM) {x y : Int} (l : Lot) (h : y ≠ x) : pmSet m x l y = m y := by simp [pmSet, h]
/-- A region's bytes. -/
def RR (order : Int) : Int := 4096 * 2 ^ order.toNat
def powB (s : Int) : Bool := if s = 0 then false else (Go.bits .and .u64 s (IntKind.u64.wrap (s - 1))) == 0
def sizeB (order s : Int) : Bool := powB s && (decide (16 ≤ s) && decide (s ≤ RR order))
/-- May a Config be? -/
def mayB (base limit order : Int) : Bool :=
 decide (0 ≤ order) && decide (order ≤ 8) && decide (1 ≤ limit) && decide (limit ≤ 64) && decide (limit * 2 ^ order.toNat ≤ 1024) && decide (base ≠ 0) && decide (base % RR order = 0) && decide (base ≤ 9223372036854775808 - limit * RR order)
/-- Is a block one of a Config's, with n regions? -/
def okB (base order n : Int) (b : S55) : Bool :=
 sizeB order b.f1 && (decide (b.f0 % b.f1 = 0) && (decide (base ≤ b.f0) && decide (b.f0 - base < n * RR order)))
def pageOf (base : Int) (b : S55) : Int := (b.f0 - base) / 4096
def noCells : Int → Option Int := fun _ => none
/-- k pages of a great block, from q on. -/
def fill (s : Int) : Nat → Int → PM → Option PM
 | 0, _, m => some m
 | k + 1, q, m => match m q with
  | some _ => none
  | none => fill s k (q + 1) (pmSet m q (.great s))
def put1 (q : Int) (b : S55) (m : PM) : Lot → Option PM
 | .great _ => none
 | .small s cs n => if (cs b.f0).isSome = true ∨ s ≠ b.f1 then none else some (pmSet m q (.small s (upd cs b.f0 b.f1) (n + 1)))
/-- One block more. -/
def step (base order n : Int) (m : PM) (b : S55) : Option PM :=
 if okB base order n b = true then
  if b.f1 < 4096 then
   match m (pageOf base b) with
   | none => put1 (pageOf base b) b (pmSet m (pageOf base b) (.small b.f1 noCells 0)) (.small b.f1 noCells 0)
   | some l => put1 (pageOf base b) b m l
  else fill b.f1 (b.f1 / 4096).toNat (pageOf base b) m
 else none
/-- All blocks: the pages, or nothing; the number of the first that can't be, or -1. -/
def scan (base order n : Int) : PM → List S55 → Int → Option PM × Int
 | m, [], _ => (some m, -1)
 | m, b :: l, i => match step base order n m b with
  | none => (none, i)
  | some m' => scan base order n m' l (i + 1)
theorem scan_cons_some {base order n i : Int} {m m' : PM} {b : S55} {l : List S55} (h : step base order n m b = some m') : scan base order n m (b :: l) i = scan base order n m' l (i + 1) := by
 simp only [scan, h]
theorem scan_cons_none {base order n i : Int} {m : PM} {b : S55} {l : List S55} (h : step base order n m b = none) : scan base order n m (b :: l) i = (none, i) := by
 simp only [scan, h]
/-- The list's numbers are what they are in Go. -/
def Wd (l : List S55) : Prop := ∀ b ∈ l, (0 ≤ b.f0 ∧ b.f0 < 18446744073709551616) ∧ (0 ≤ b.f1 ∧ b.f1 < 18446744073709551616)
theorem mayB_iff {base limit order : Int} : mayB base limit order = true ↔ 0 ≤ order ∧ order ≤ 8 ∧ 1 ≤ limit ∧ limit ≤ 64 ∧ limit * 2 ^ order.toNat ≤ 1024 ∧ base ≠ 0 ∧ base % RR order = 0 ∧ base ≤ 9223372036854775808 - limit * RR order := by
 unfold mayB
 simp only [Bool.and_eq_true, decide_eq_true_eq]
 constructor
 ·rintro ⟨⟨⟨⟨⟨⟨⟨a, b⟩, c⟩, d⟩, e⟩, f⟩, g⟩, h⟩; exact ⟨a, b, c, d, e, f, g, h⟩
 ·rintro ⟨a, b, c, d, e, f, g, h⟩; exact ⟨⟨⟨⟨⟨⟨⟨a, b⟩, c⟩, d⟩, e⟩, f⟩, g⟩, h⟩
theorem okB_iff {base order n : Int} {b : S55} : okB base order n b = true ↔ sizeB order b.f1 = true ∧ b.f0 % b.f1 = 0 ∧ base ≤ b.f0 ∧ b.f0 - base < n * RR order := by
 unfold okB
 simp only [Bool.and_eq_true, decide_eq_true_eq]
theorem sizeB_iff {order s : Int} : sizeB order s = true ↔ powB s = true ∧ 16 ≤ s ∧ s ≤ RR order := by
 unfold sizeB
 simp only [Bool.and_eq_true, decide_eq_true_eq]
theorem pow_nat (k : Nat) : (2 : Int) ^ k = ((2 ^ k : Nat) : Int) := by simp
theorem RR_cases {order : Int} (h0 : 0 ≤ order) (h8 : order ≤ 8) : RR order = 4096 ∨ RR order = 8192 ∨ RR order = 16384 ∨ RR order = 32768 ∨ RR order = 65536 ∨ RR order = 131072 ∨ RR order = 262144 ∨ RR order = 524288 ∨ RR order = 1048576 := by
 have : order = 0 ∨ order = 1 ∨ order = 2 ∨ order = 3 ∨ order = 4 ∨ order = 5 ∨ order = 6 ∨ order = 7 ∨ order = 8 := by omega
 rcases this with rfl | rfl | rfl | rfl | rfl | rfl | rfl | rfl | rfl <;> decide
theorem RR_bd {order : Int} (h0 : 0 ≤ order) (h8 : order ≤ 8) : 4096 ≤ RR order ∧ RR order ≤ 1048576 := by
 rcases RR_cases h0 h8 with h | h | h | h | h | h | h | h | h <;> omega
/-- All committed bytes are few. -/
theorem may_bytes {base limit order n : Int} (h : mayB base limit order = true) (h0 : 0 ≤ n) (hn : n ≤ limit) : 0 ≤ n * RR order ∧ n * RR order ≤ 4194304 := by
 obtain ⟨a, b, c, d, e, f, g, i⟩ := mayB_iff.1 h
 have e1 : n * RR order = 4096 * (n * 2 ^ order.toNat) := by unfold RR; rw [← Int.mul_assoc, Int.mul_comm n 4096, Int.mul_assoc]
 have hp : (0 : Int) ≤ 2 ^ order.toNat := Int.pow_nonneg (by decide)
 have h2 : n * 2 ^ order.toNat ≤ limit * 2 ^ order.toNat := Int.mul_le_mul_of_nonneg_right hn hp
 have h3 : 0 ≤ n * 2 ^ order.toNat := Int.mul_nonneg h0 hp
 omega
theorem page_bd {base limit order n : Int} {b : S55} (hm : mayB base limit order = true) (h0 : 0 ≤ n) (hn : n ≤ limit) (h : okB base order n b = true) :
  0 ≤ pageOf base b ∧ pageOf base b < 1024 ∧ 0 ≤ b.f0 - base ∧ b.f0 - base < 4194304 ∧ 16 ≤ b.f1 ∧ b.f1 ≤ 1048576 := by
 obtain ⟨h1, h2, h3, h4⟩ := okB_iff.1 h
 obtain ⟨h5, h6, h7⟩ := sizeB_iff.1 h1
 obtain ⟨a, c, d, e, f, g, i, j⟩ := mayB_iff.1 hm
 have h8 := may_bytes hm h0 hn
 have h9 := RR_bd a c
 unfold pageOf
 omega
end Go.Proofs.Ytihfblnjgaalcaa.OP
