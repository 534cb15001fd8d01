/- Part 2 of what the rows of this seat rest on: words of the print that they need; how images, spaces, sets lie in memory; the functions walked. -/
import Derived.Lib.Hide
import Derived.WalkKit
import Derived.ProofKit
import Derived.OpenShut
import Derived.SizedLaws
import Derived.Lib.SmallJoins
import Derived.Deep.Slices
import Derived.Deep.AppendLies
import Derived.Laws.StructEq
import Derived.Test.YtkgedpcipaogjaaProg
import Derived.Below
import Derived.Deep.Draws
import Derived.Maps.AppendAt
import Derived.OwnWalk
import Derived.Laws.BytesArg
import Derived.Laws.MakeOwn
import Derived.Laws.OwnMore
import Derived.Deep.OwnRows
import Derived.Tactics
import Derived.Lib.ConvBytes
import Derived.Laws.Slices
import Derived.KernelRfl
import Derived.RowKit3
import Derived.Deep.LoopGhost
import Derived.Deep.QuietTactic
import Derived.BigQuiet
import Derived.WideLaws
import Derived.Deep.DeepCutAuto
import Derived.Deep.CutBlock
import Derived.Deep.RegionHeld3
import Derived.Laws.Rows
import Derived.Lib.AppendStr
import Derived.ArgAppend
import Derived.Laws.IdiomCopy
import Derived.OrdersHeld
import Derived.Laws.BitsLemmas
import Derived.RowKit
import Derived.Test.YtkgedpcipaogjaaZ1
section
set_option linter.unusedVariables false
namespace Go.Proofs.Ytkgedpcipaogjaa.WB
theorem nodup_len {l m : List Nat} (h : l.Nodup) (hs : ∀ x ∈ l, x ∈ m) : l.length ≤ m.length := by
  induction l generalizing m with
  | nil => exact Nat.zero_le _
  | cons a l ih =>
    have ha : a ∈ m := hs a List.mem_cons_self
    rw [List.nodup_cons] at h
    have := ih (m := m.erase a) h.2 (fun x hx => (List.mem_erase_of_ne (by rintro rfl; exact h.1 hx)).2 (hs x (List.mem_cons_of_mem _ hx)))
    rw [List.length_erase_of_mem ha] at this
    have := List.length_pos_of_mem ha
    simp only [List.length_cons]
    omega
theorem nodup_all {l m : List Nat} (h : l.Nodup) (hs : ∀ x ∈ l, x ∈ m) (hl : m.length ≤ l.length) : ∀ x ∈ m, x ∈ l := by
  intro x hx
  by_cases hxl : x ∈ l
  · exact hxl
  · have := nodup_len (l := x :: l) (m := m) (List.nodup_cons.2 ⟨hxl, h⟩) (fun y hy => by
      rcases List.mem_cons.1 hy with rfl | hy
      · exact hx
      · exact hs y hy)
    simp only [List.length_cons] at this
    omega
structure Ln where
  n : Nat
  ok : Nat → Bool
  idx : Int → Option Nat
  nul : Int
  bnul : Int
  nx : Nat → Int
  pv : Nat → Int
structure Ln.Ok (L : Ln) : Prop where
  idx_ok : ∀ p i, L.idx p = some i → i < L.n ∧ L.ok i = true
  nul : L.idx L.nul = none
  bnul : L.idx L.bnul = none
def Ln.fol (L : Ln) : Nat → Int → Int → List Nat → Option (List Nat)
  | 0, _, _, _ => none
  | d + 1, p, b, acc => if p = L.nul then some acc else match L.idx p with
    | none => none
    | some i => if acc.contains i = false ∧ L.pv i = b then L.fol d (L.nx i) p (i :: acc) else none
def Ln.rf (L : Ln) : Nat → Int → Int → Bool
  | 0, p, _ => p == L.nul
  | d + 1, p, b => match L.idx p with
    | none => false
    | some i => if L.pv i = b then L.rf d (L.nx i) p else false
def Ln.good (L : Ln) : Int → List Nat → Prop
  | b, [] => b = L.bnul
  | b, i :: rest => L.idx b = some i ∧ L.good (L.pv i) rest
theorem Ln.good_eq {L : Ln} (h : L.Ok) : ∀ {b : Int} {l m : List Nat}, L.good b l → L.good b m → l = m
  | b, [], [], _, _ => rfl
  | b, [], j :: m, h1, h2 => by
    have := h2.1
    rw [show b = L.bnul from h1, h.bnul] at this
    cases this
  | b, i :: l, [], h1, h2 => by
    have := h1.1
    rw [show b = L.bnul from h2, h.bnul] at this
    cases this
  | b, i :: l, j :: m, h1, h2 => by
    have e := h1.1.symm.trans h2.1
    injection e with e
    subst e
    rw [Ln.good_eq h h1.2 h2.2]
theorem Ln.good_tail {L : Ln} : ∀ {b : Int} {u v : List Nat} {i : Nat}, L.good b (u ++ i :: v) → L.good (L.pv i) v
  | _, [], _, _, h => h.2
  | _, _ :: u, v, i, h => Ln.good_tail (u := u) h.2
theorem Ln.new {L : Ln} (h : L.Ok) {b : Int} {acc : List Nat} (hg : L.good b acc) {i : Nat} (hp : L.pv i = b) : i ∉ acc := by
  intro hm
  obtain ⟨u, v, rfl⟩ := List.append_of_mem hm
  have h1 := Ln.good_tail hg
  rw [hp] at h1
  have := congrArg List.length (Ln.good_eq h h1 hg)
  simp at this
  omega
theorem Ln.good_nodup {L : Ln} (h : L.Ok) : ∀ {b : Int} {l : List Nat}, L.good b l → l.Nodup
  | _, [], _ => List.nodup_nil
  | _, i :: l, hg => List.nodup_cons.2 ⟨Ln.new h hg.2 rfl, Ln.good_nodup h hg.2⟩
theorem Ln.good_sub {L : Ln} (h : L.Ok) : ∀ {b : Int} {l : List Nat}, L.good b l → ∀ i ∈ l, i < L.n ∧ L.ok i = true
  | _, [], _, i, hi => by cases hi
  | b, j :: l, hg, i, hi => by
    rcases List.mem_cons.1 hi with rfl | hi
    · exact h.idx_ok _ _ hg.1
    · exact Ln.good_sub h hg.2 i hi
def Ln.all (L : Ln) : List Nat := (List.range L.n).filter L.ok
theorem Ln.mem_all {L : Ln} {i : Nat} : i ∈ L.all ↔ i < L.n ∧ L.ok i = true := by simp [Ln.all]
theorem Ln.all_len (L : Ln) : L.all.length ≤ L.n := by
  have := List.length_filter_le L.ok (List.range L.n)
  simpa [Ln.all] using this
theorem Ln.fol_rf {L : Ln} (h : L.Ok) : ∀ (d : Nat) (p b : Int) (acc : List Nat), L.good b acc → ∀ r, L.fol d p b acc = some r → ∃ k, r.length = acc.length + k ∧ L.rf k p b = true ∧ ∃ b', L.good b' r
  | 0, _, _, _, _, _, hr => by cases hr
  | d + 1, p, b, acc, hg, r, hr => by
    unfold Ln.fol at hr
    by_cases hp : p = L.nul
    · rw [if_pos hp] at hr
      injection hr with hr
      subst hr
      exact ⟨0, rfl, by unfold Ln.rf; simp [hp], b, hg⟩
    · rw [if_neg hp] at hr
      cases hi : L.idx p with
      | none => rw [hi] at hr; cases hr
      | some i =>
        rw [hi] at hr
        simp only at hr
        by_cases hc : acc.contains i = false ∧ L.pv i = b
        · rw [if_pos hc] at hr
          obtain ⟨k, k1, k2, k3⟩ := Ln.fol_rf h d (L.nx i) p (i :: acc) ⟨hi, by rw [hc.2]; exact hg⟩ r hr
          refine ⟨k + 1, by rw [k1, List.length_cons]; omega, ?_, k3⟩
          unfold Ln.rf
          rw [hi]
          simp only
          rw [if_pos hc.2]
          exact k2
        · rw [if_neg hc] at hr; cases hr
theorem Ln.rf_fol {L : Ln} (h : L.Ok) : ∀ (k d : Nat) (p b : Int) (acc : List Nat), L.good b acc → L.rf k p b = true → k < d → ∃ r, L.fol d p b acc = some r ∧ r.length = acc.length + k ∧ ∃ b', L.good b' r
  | 0, d + 1, p, b, acc, hg, hr, _ => by
    unfold Ln.rf at hr
    refine ⟨acc, ?_, rfl, b, hg⟩
    unfold Ln.fol
    rw [if_pos (by simpa using hr)]
  | k + 1, d + 1, p, b, acc, hg, hr, hk => by
    unfold Ln.rf at hr
    cases hi : L.idx p with
    | none => rw [hi] at hr; cases hr
    | some i =>
      rw [hi] at hr
      simp only at hr
      by_cases hb : L.pv i = b
      · rw [if_pos hb] at hr
        obtain ⟨r, r1, r2, r3⟩ := Ln.rf_fol h k d (L.nx i) p (i :: acc) ⟨hi, by rw [hb]; exact hg⟩ hr (by omega)
        refine ⟨r, ?_, by rw [r2, List.length_cons]; omega, r3⟩
        unfold Ln.fol
        rw [if_neg (fun e => by rw [e, h.nul] at hi; cases hi), hi]
        simp only
        rw [if_pos ⟨by have := Ln.new h hg hb; simpa using this, hb⟩]
        exact r1
      · rw [if_neg hb] at hr; cases hr
def Ln.folB (L : Ln) (hd : Int) : Bool := match L.fol (L.n + 1) hd L.bnul [] with
  | none => false
  | some r => L.all.all (fun i => r.contains i)
theorem Ln.same {L : Ln} (h : L.Ok) (hd : Int) : L.folB hd = L.rf L.all.length hd L.bnul := by
  have hg0 : L.good L.bnul [] := rfl
  have hal := L.all_len
  rw [Bool.eq_iff_iff]
  unfold Ln.folB
  constructor
  · intro hr
    cases hf : L.fol (L.n + 1) hd L.bnul [] with
    | none => rw [hf] at hr; cases hr
    | some r =>
      rw [hf] at hr
      simp only [List.all_eq_true, List.contains_eq_mem, decide_eq_true_eq] at hr
      obtain ⟨k, k1, k2, b', hg⟩ := Ln.fol_rf h _ _ _ _ hg0 r hf
      have l1 := nodup_len (Ln.good_nodup h hg) (m := L.all) (fun x hx => Ln.mem_all.2 (Ln.good_sub h hg x hx))
      have l2 := nodup_len (l := L.all) (m := r) (List.nodup_range.sublist List.filter_sublist) hr
      simp only [List.length_nil] at k1
      rw [show L.all.length = k by omega]
      exact k2
  · intro hr
    obtain ⟨r, r1, r2, b', hg⟩ := Ln.rf_fol h _ (L.n + 1) _ _ [] hg0 hr (by omega)
    rw [r1]
    simp only [List.all_eq_true, List.contains_eq_mem, decide_eq_true_eq]
    simp only [List.length_nil] at r2
    exact nodup_all (Ln.good_nodup h hg) (fun x hx => Ln.mem_all.2 (Ln.good_sub h hg x hx)) (by omega)
inductive Nx where
  | fin
  | bad
  | onto (j : Nat)
def cfol (n : Nat) (lv : Nat → Bool) (nx : Nat → Nx) : Nat → Int → List Nat → Option (List Nat)
  | 0, _, _ => none
  | d + 1, i, acc => if i = -1 then some acc else
    if 0 ≤ i ∧ i < n ∧ lv i.toNat = false ∧ acc.contains i.toNat = false then
      match nx i.toNat with
      | .fin => some (i.toNat :: acc)
      | .bad => none
      | .onto j => cfol n lv nx d (j : Int) (i.toNat :: acc)
    else none
def crf (n : Nat) (lv : Nat → Bool) (nx : Nat → Nx) : Nat → Int → List Nat → Bool
  | 0, i, _ => i == -1
  | d + 1, i, acc => if 0 ≤ i ∧ i < n ∧ lv i.toNat = false ∧ acc.contains i.toNat = false then
      match nx i.toNat with
      | .fin => crf n lv nx d (-1) (i.toNat :: acc)
      | .bad => false
      | .onto j => crf n lv nx d (j : Int) (i.toNat :: acc)
    else false
theorem cfol_len {n : Nat} {lv : Nat → Bool} {nx : Nat → Nx} : ∀ (d : Nat) (i : Int) (acc r : List Nat), cfol n lv nx d i acc = some r → (i = -1 ∧ r = acc) ∨ acc.length < r.length
  | 0, _, _, _, h => by cases h
  | d + 1, i, acc, r, h => by
    unfold cfol at h
    by_cases hi : i = -1
    · rw [if_pos hi] at h
      injection h with h
      exact Or.inl ⟨hi, h.symm⟩
    · rw [if_neg hi] at h
      by_cases hc : 0 ≤ i ∧ i < n ∧ lv i.toNat = false ∧ acc.contains i.toNat = false
      · rw [if_pos hc] at h
        cases hn : nx i.toNat with
        | fin => rw [hn] at h; injection h with h; subst h; right; simp
        | bad => rw [hn] at h; cases h
        | onto j =>
          rw [hn] at h
          rcases cfol_len d j _ r h with ⟨h1, h2⟩ | h1
          · omega
          · right; simp only [List.length_cons] at h1; omega
      · rw [if_neg hc] at h; cases h
theorem crf_cfol {n : Nat} {lv : Nat → Bool} {nx : Nat → Nx} : ∀ (d D : Nat) (i : Int) (acc : List Nat), d < D → (crf n lv nx d i acc = true ↔ ∃ r, cfol n lv nx D i acc = some r ∧ r.length = acc.length + d)
  | 0, D + 1, i, acc, _ => by
    unfold crf
    constructor
    · intro h
      refine ⟨acc, ?_, rfl⟩
      unfold cfol
      rw [if_pos (by simpa using h)]
    · rintro ⟨r, h1, h2⟩
      rcases cfol_len _ _ _ _ h1 with ⟨h3, -⟩ | h3
      · simp [h3]
      · omega
  | d + 1, D + 1, i, acc, hd => by
    unfold crf cfol
    by_cases hc : 0 ≤ i ∧ i < n ∧ lv i.toNat = false ∧ acc.contains i.toNat = false
    · rw [if_pos hc, if_neg (by omega), if_pos hc]
      cases hn : nx i.toNat with
      | fin =>
        simp only
        cases d with
        | zero => exact ⟨fun _ => ⟨_, rfl, by simp⟩, fun _ => rfl⟩
        | succ d =>
          constructor
          · intro h
            unfold crf at h
            rw [if_neg (by omega)] at h
            cases h
          · rintro ⟨r, h1, h2⟩
            injection h1 with h1
            subst h1
            simp only [List.length_cons] at h2
            omega
      | bad => exact ⟨(fun h => nomatch h), (fun ⟨_, h, _⟩ => nomatch h)⟩
      | onto j =>
        simp only
        rw [crf_cfol d D j _ (by omega)]
        simp only [List.length_cons]
        constructor
        · rintro ⟨r, h1, h2⟩; exact ⟨r, h1, by omega⟩
        · rintro ⟨r, h1, h2⟩; exact ⟨r, h1, by omega⟩
    · rw [if_neg hc]
      by_cases hi : i = -1
      · rw [if_pos hi]
        refine ⟨(fun h => nomatch h), ?_⟩
        rintro ⟨r, h1, h2⟩
        injection h1 with h1
        subst h1
        omega
      · rw [if_neg hi, if_neg hc]
        exact ⟨(fun h => nomatch h), (fun ⟨_, h, _⟩ => nomatch h)⟩
def scan (f : Nat → Option Int) : Nat → Nat → Option Int
  | 0, _ => none
  | d + 1, k => match f k with
    | some p => some p
    | none => scan f d (k + 1)
theorem scan_congr {f g : Nat → Option Int} : ∀ (d k : Nat), (∀ i, k ≤ i → i < k + d → f i = g i) → scan f d k = scan g d k
  | 0, _, _ => rfl
  | d + 1, k, h => by
    unfold scan
    rw [h k (Nat.le_refl _) (by omega), scan_congr d (k + 1) (fun i h1 h2 => h i (by omega) (by omega))]
theorem scan_none {f : Nat → Option Int} : ∀ {d k : Nat}, scan f d k = none ↔ ∀ i, k ≤ i → i < k + d → f i = none
  | 0, k => ⟨fun _ i h1 h2 => by omega, fun _ => rfl⟩
  | d + 1, k => by
    unfold scan
    cases hf : f k with
    | some p => exact ⟨(fun h => nomatch h), fun h => by rw [h k (Nat.le_refl _) (by omega)] at hf; cases hf⟩
    | none =>
      simp only
      rw [scan_none]
      constructor
      · intro h i h1 h2
        by_cases e : i = k
        · rw [e, hf]
        · exact h i (by omega) (by omega)
      · intro h i h1 h2
        exact h i (by omega) (by omega)
theorem scan_ok {f : Nat → Option Int} {d k : Nat} (h : f k = none) : scan f (d + 1) k = scan f d (k + 1) := by
  rw [scan, h]
theorem scan_bad {f : Nat → Option Int} {d k : Nat} {p : Int} (h : f k = some p) : scan f (d + 1) k = some p := by
  rw [scan, h]
structure Pg where
  kd : Int
  od : Int
  cl : Int
  lv : Int
  nx : Int
  pv : Int
  fs : Int
  b0 : Int
  b1 : Int
  b2 : Int
  b3 : Int
def pg0 : Pg := ⟨0, 0, 0, 0, 0, 0, 0, 0, 0, 0, 0⟩
def Pg.wd (p : Pg) (k : Nat) : Int := match k with
  | 0 => p.b0
  | 1 => p.b1
  | 2 => p.b2
  | _ => p.b3
structure Im where
  base : Int
  limit : Int
  order : Int
  regions : Int
  mem : List Int
  pages : List Pg
  pairs : List (List Int)
  heads : List Int
  parts : List Int
def Im.pg (im : Im) (i : Nat) : Pg := im.pages.getD i pg0
def Im.n (im : Im) : Nat := im.pages.length
def I64 (x : Int) : Prop := -9223372036854775808 ≤ x ∧ x ≤ 9223372036854775807
def U64 (x : Int) : Prop := 0 ≤ x ∧ x < 18446744073709551616
structure Pg.Wf (p : Pg) : Prop where
  kd : I64 p.kd
  od : I64 p.od
  cl : I64 p.cl
  lv : I64 p.lv
  nx : I64 p.nx
  pv : I64 p.pv
  fs : I64 p.fs
  b0 : U64 p.b0
  b1 : U64 p.b1
  b2 : U64 p.b2
  b3 : U64 p.b3
structure Im.Wf (im : Im) : Prop where
  base : U64 im.base
  limit : I64 im.limit
  order : I64 im.order
  regions : I64 im.regions
  mem : ∀ x ∈ im.mem, 0 ≤ x ∧ x < 256
  pages : ∀ p ∈ im.pages, p.Wf
  pairs : ∀ l ∈ im.pairs, ∀ x ∈ l, U64 x
  heads : ∀ x ∈ im.heads, U64 x
  parts : ∀ x ∈ im.parts, I64 x
  lmem : im.mem.length ≤ 140737488355328
  lpages : im.pages.length ≤ 140737488355328
  lpairs : im.pairs.length ≤ 140737488355328
  lrows : ∀ l ∈ im.pairs, l.length ≤ 140737488355328
  lheads : im.heads.length ≤ 140737488355328
  lparts : im.parts.length ≤ 140737488355328
theorem Im.pg_mem {im : Im} {i : Nat} (hi : i < im.pages.length) : im.pg i ∈ im.pages := by
  unfold Im.pg
  rw [List.getD_eq_getElem?_getD, List.getElem?_eq_getElem hi]
  exact List.getElem_mem hi
theorem Im.Wf.pg {im : Im} (h : im.Wf) {i : Nat} (hi : i < im.pages.length) : (im.pg i).Wf := h.pages _ (im.pg_mem hi)
def inB (v lo hi : Int) : Bool := decide (lo ≤ v) && decide (v ≤ hi)
theorem inB_t {v lo hi : Int} : inB v lo hi = true ↔ lo ≤ v ∧ v ≤ hi := by unfold inB; simp
theorem inB_f {v lo hi : Int} : inB v lo hi = false ↔ ¬ (lo ≤ v ∧ v ≤ hi) := by rw [← inB_t]; simp
def RR (order : Int) : Int := 4096 * 2 ^ order.toNat
def mayB (base limit order : Int) : Bool :=
  inB order 0 8 && (inB limit 1 64 && (decide (limit * 2 ^ order.toNat ≤ 1024) && (base != 0 && (base % RR order == 0 && (decide (base ≤ 9223372036854775808) && decide (limit * RR order ≤ 9223372036854775808 - base))))))
def cellsN (cl : Int) : Nat := 256 / 2 ^ cl.toNat
def openP (p : Pg) (k : Int) : Bool := p.kd == 0 && p.od == k
def Im.openB (im : Im) (i : Nat) (k : Int) : Bool := openP (im.pg i) k
def roomP (p : Pg) (k : Int) : Bool := p.kd == 4 && (p.cl == k && decide (p.lv < cellsN p.cl))
def Im.roomB (im : Im) (i : Nat) (k : Int) : Bool := roomP (im.pg i) k
def Pg.bit (p : Pg) (c : Nat) : Bool := p.wd (c / 64) / 2 ^ (c % 64) % 2 == 1
def psum (mem : List Int) (off : Nat) : Nat → Int
  | 0 => 0
  | k + 1 => psum mem off k + mem.getD (off + k) 0 * 256 ^ k
def wordM (mem : List Int) (off : Nat) : Int := psum mem off 8
theorem psum_bd {mem : List Int} (h : ∀ x ∈ mem, 0 ≤ x ∧ x < 256) (off k : Nat) : 0 ≤ psum mem off k ∧ psum mem off k < 256 ^ k := by
  induction k with
  | zero => exact ⟨by simp [psum], by simp [psum]⟩
  | succ k ih =>
    have hb : 0 ≤ mem.getD (off + k) 0 ∧ mem.getD (off + k) 0 ≤ 255 := by
      rw [List.getD_eq_getElem?_getD]
      by_cases hl : off + k < mem.length
      · rw [List.getElem?_eq_getElem hl]
        have := h _ (List.getElem_mem hl)
        simp only [Option.getD_some]
        omega
      · rw [List.getElem?_eq_none (by omega)]
        simp
    have hp : (0 : Int) < 256 ^ k := Int.pow_pos (by decide)
    have e : (256 : Int) ^ (k + 1) = 256 ^ k * 256 := Int.pow_succ ..
    rw [psum, e]
    generalize (256 : Int) ^ k = q at *
    generalize psum mem off k = x at *
    generalize mem.getD (off + k) 0 = b at *
    have h1 : 0 ≤ b * q := Int.mul_nonneg hb.1 (by omega)
    have h2 : b * q ≤ 255 * q := Int.mul_le_mul_of_nonneg_right hb.2 (by omega)
    omega
theorem wordM_bd {mem : List Int} (h : ∀ x ∈ mem, 0 ≤ x ∧ x < 256) (off : Nat) : U64 (wordM mem off) := by
  have := psum_bd h off 8
  unfold U64 wordM
  omega
def cnt (f : Nat → Bool) : Nat → Nat
  | 0 => 0
  | k + 1 => cnt f k + if f k then 1 else 0
theorem cnt_le (f : Nat → Bool) : ∀ k, cnt f k ≤ k
  | 0 => Nat.le_refl _
  | k + 1 => by unfold cnt; have := cnt_le f k; split <;> omega
theorem cnt_filter (f : Nat → Bool) : ∀ k, cnt f k = ((List.range k).filter f).length
  | 0 => rfl
  | k + 1 => by
    rw [cnt, cnt_filter f k, List.range_succ, List.filter_append, List.length_append, List.filter_cons]
    split <;> simp
def bitL (l : List Int) (i : Nat) : Bool := l.getD (i / 64) 0 / 2 ^ (i % 64) % 2 == 1
def R1 (im : Im) : Option Int := if mayB im.base im.limit im.order = true then none else some 0
def Im.np (im : Im) (k : Nat) : Nat := im.n / 2 ^ (k + 1)
def Im.row (im : Im) (k : Nat) : List Int := im.pairs.getD k []
def R2 (im : Im) : Option Int :=
  if inB im.regions 0 im.limit = false then some 0 else
  if (im.mem.length : Int) ≠ im.regions * RR im.order then some 1 else
  if (im.n : Int) ≠ im.regions * 2 ^ im.order.toNat then some 2 else
  if (im.pairs.length : Int) ≠ im.order then some 3 else
  match scan (fun k => if (im.row k).length = (im.np k + 63) / 64 then none else some 3) im.pairs.length 0 with
  | some p => some p
  | none => if (im.heads.length : Int) ≠ im.order + 1 then some 4 else if im.parts.length ≠ 8 then some 5 else none
def rangeB (order last : Int) (p : Pg) : Bool :=
  inB p.kd 0 4 && (inB p.od 0 order && (inB p.cl 0 7 && (inB p.lv 0 256 && (inB p.nx (-1) last && (inB p.pv (-1) last && inB p.fs (-1) 255)))))
def R3 (im : Im) : Option Int := scan (fun i => if rangeB im.order ((im.n : Int) - 1) (im.pg i) = true then none else some i) im.n 0
def plainB (p : Pg) : Bool := decide (p.cl = 0 ∧ p.lv = 0 ∧ p.nx = -1 ∧ p.pv = -1 ∧ p.fs = -1 ∧ p.b0 = 0 ∧ p.b1 = 0 ∧ p.b2 = 0 ∧ p.b3 = 0)
def runF (im : Im) : Nat → Nat → Option Int
  | 0, _ => none
  | d + 1, at_ => if at_ < im.n then
      if (im.pg at_).kd = 4 then if (im.pg at_).od = 0 then runF im d (at_ + 1) else some at_
      else if ((im.pg at_).kd = 0 ∨ (im.pg at_).kd = 2) ∧ at_ % 2 ^ (im.pg at_).od.toNat = 0 ∧ plainB (im.pg at_) = true then
        match scan (fun i => if (im.pg (at_ + i)).kd = (im.pg at_).kd + 1 ∧ (im.pg (at_ + i)).od = (im.pg at_).od ∧ plainB (im.pg (at_ + i)) = true then none else some ((at_ + i : Nat) : Int)) (2 ^ (im.pg at_).od.toNat - 1) 1 with
        | some p => some p
        | none => runF im d (at_ + 2 ^ (im.pg at_).od.toNat)
      else some at_
    else none
def R4 (im : Im) : Option Int := runF im (im.n + 1) 0
def slabB (p : Pg) : Bool := (List.range 256).all (fun k => !p.bit k || decide (k < cellsN p.cl)) && (decide (((cnt p.bit 256 : Nat) : Int) = p.lv) && decide (0 < cnt p.bit 256))
def R5 (im : Im) : Option Int := scan (fun i => if (im.pg i).kd = 4 ∧ slabB (im.pg i) = false then some i else none) im.n 0
def halfB (im : Im) (i : Nat) : Bool := decide ((im.pg i).kd = 0 ∧ (im.pg i).od < im.order ∧ i % 2 ^ ((im.pg i).od.toNat + 1) = 0 ∧ im.openB (i + 2 ^ (im.pg i).od.toNat) (im.pg i).od = true)
def R6 (im : Im) : Option Int := scan (fun i => if halfB im i = true then some i else none) im.n 0
def pairR (im : Im) (k : Nat) : Option Int :=
  match scan (fun i => if bitL (im.row k) i = (im.openB (i * 2 ^ (k + 1)) k != im.openB (i * 2 ^ (k + 1) + 2 ^ k) k) then none else some ((i * 2 ^ (k + 1) : Nat) : Int)) (im.np k) 0 with
  | some p => some p
  | none => if ∀ j, j < 64 * (im.row k).length → im.np k ≤ j → bitL (im.row k) j = false then none else some im.n
def R7 (im : Im) : Option Int := scan (pairR im) im.pairs.length 0
def freeL (im : Im) (k : Nat) : Ln where
  n := im.n
  ok i := im.openB i k
  idx p := if im.base ≤ p ∧ p - im.base < im.mem.length ∧ p % 4096 = 0 ∧ im.openB ((p - im.base) / 4096).toNat k = true then some ((p - im.base) / 4096).toNat else none
  nul := 0
  bnul := 0
  nx i := wordM im.mem (4096 * i)
  pv i := wordM im.mem (4096 * i + 8)
def R8 (im : Im) : Option Int := scan (fun k => if (freeL im k).folB (im.heads.getD k 0) = true then none else some k) im.heads.length 0
def cellZ (p : Pg) : Nat := 16 * 2 ^ p.cl.toNat
def nxC (im : Im) (page : Nat) (c : Nat) : Nx :=
  if wordM im.mem (4096 * page + c * cellZ (im.pg page)) = 0 then .fin
  else if im.base + 4096 * page ≤ wordM im.mem (4096 * page + c * cellZ (im.pg page)) ∧ wordM im.mem (4096 * page + c * cellZ (im.pg page)) - (im.base + 4096 * page) < 4096 ∧ wordM im.mem (4096 * page + c * cellZ (im.pg page)) % cellZ (im.pg page) = 0 then
    .onto ((wordM im.mem (4096 * page + c * cellZ (im.pg page)) - (im.base + 4096 * page)) / cellZ (im.pg page)).toNat
  else .bad
def cellsB (im : Im) (i : Nat) : Bool := match cfol (cellsN (im.pg i).cl) (im.pg i).bit (nxC im i) (cellsN (im.pg i).cl + 1) (im.pg i).fs [] with
  | none => false
  | some r => decide ((r.length : Int) + (im.pg i).lv = cellsN (im.pg i).cl)
def R9 (im : Im) : Option Int := scan (fun i => if (im.pg i).kd = 4 ∧ cellsB im i = false then some i else none) im.n 0
def partL (im : Im) (k : Nat) : Ln where
  n := im.n
  ok i := im.roomB i k
  idx p := if 0 ≤ p ∧ p < im.n ∧ im.roomB p.toNat k = true then some p.toNat else none
  nul := -1
  bnul := -1
  nx i := (im.pg i).nx
  pv i := (im.pg i).pv
def R10 (im : Im) : Option Int := scan (fun k => if (partL im k).folB (im.parts.getD k 0) = true then none else some k) im.parts.length 0
def R11 (im : Im) : Option Int := scan (fun i => if (im.pg i).kd = 4 ∧ (im.pg i).lv = cellsN (im.pg i).cl ∧ ¬ ((im.pg i).nx = -1 ∧ (im.pg i).pv = -1) then some i else none) im.n 0
def res (im : Im) : Nat → Option Int
  | 0 => R1 im
  | 1 => R2 im
  | 2 => R3 im
  | 3 => R4 im
  | 4 => R5 im
  | 5 => R6 im
  | 6 => R7 im
  | 7 => R8 im
  | 8 => R9 im
  | 9 => R10 im
  | _ => R11 im
structure Geo (im : Im) (o r : Nat) : Prop where
  order : im.order = o
  o8 : o ≤ 8
  limit : 1 ≤ im.limit ∧ im.limit ≤ 64
  regions : im.regions = r
  rl : (r : Int) ≤ im.limit
  mem : im.mem.length = 4096 * (r * 2 ^ o)
  n : im.n = r * 2 ^ o
  n1024 : im.n ≤ 1024
  base0 : 0 < im.base
  baseR : im.base % (4096 * 2 ^ o : Nat) = 0
  base : im.base % 4096 = 0
  top : im.base + im.mem.length ≤ 9223372036854775808
  pairs : im.pairs.length = o
  rows : ∀ k, k < o → (im.row k).length = (im.np k + 63) / 64
  heads : im.heads.length = o + 1
  parts : im.parts.length = 8
theorem may_t {b l o : Int} (h : mayB b l o = true) : ∃ k : Nat, o = k ∧ k ≤ 8 ∧ 1 ≤ l ∧ l ≤ 64 ∧ l * 2 ^ k ≤ 1024 ∧ b ≠ 0 ∧ b % (4096 * 2 ^ k : Nat) = 0 ∧ b ≤ 9223372036854775808 ∧ l * (4096 * 2 ^ k : Nat) ≤ 9223372036854775808 - b := by
  unfold mayB at h
  simp only [Bool.and_eq_true, inB_t, decide_eq_true_eq, bne_iff_ne, beq_iff_eq] at h
  obtain ⟨h1, h2, h3, h4, h5, h6, h7⟩ := h
  refine ⟨o.toNat, by omega, by omega, h2.1, h2.2, h3, h4, ?_, h6, ?_⟩
  · rw [← h5]; unfold RR; simp
  · have : ((4096 * 2 ^ o.toNat : Nat) : Int) = RR o := by unfold RR; simp
    rw [this]; exact h7
theorem R1_none {im : Im} : R1 im = none ↔ mayB im.base im.limit im.order = true := by
  unfold R1
  split
  · exact ⟨fun _ => by assumption, fun _ => rfl⟩
  · exact ⟨(fun h => nomatch h), fun h => absurd h (by assumption)⟩
theorem R2_none {im : Im} (h : R2 im = none) : inB im.regions 0 im.limit = true ∧ (im.mem.length : Int) = im.regions * RR im.order ∧ (im.n : Int) = im.regions * 2 ^ im.order.toNat ∧ (im.pairs.length : Int) = im.order ∧
    (∀ k, k < im.pairs.length → (im.row k).length = (im.np k + 63) / 64) ∧ (im.heads.length : Int) = im.order + 1 ∧ im.parts.length = 8 := by
  unfold R2 at h
  by_cases h1 : inB im.regions 0 im.limit = false
  · rw [if_pos h1] at h; cases h
  rw [if_neg h1] at h
  by_cases h2 : (im.mem.length : Int) ≠ im.regions * RR im.order
  · rw [if_pos h2] at h; cases h
  rw [if_neg h2] at h
  by_cases h3 : (im.n : Int) ≠ im.regions * 2 ^ im.order.toNat
  · rw [if_pos h3] at h; cases h
  rw [if_neg h3] at h
  by_cases h4 : (im.pairs.length : Int) ≠ im.order
  · rw [if_pos h4] at h; cases h
  rw [if_neg h4] at h
  cases hs : scan (fun k => if (im.row k).length = (im.np k + 63) / 64 then none else some 3) im.pairs.length 0 with
  | some p => rw [hs] at h; cases h
  | none =>
    rw [hs] at h
    simp only at h
    by_cases h5 : (im.heads.length : Int) ≠ im.order + 1
    · rw [if_pos h5] at h; cases h
    rw [if_neg h5] at h
    by_cases h6 : im.parts.length ≠ 8
    · rw [if_pos h6] at h; cases h
    rw [scan_none] at hs
    refine ⟨by simpa using h1, by simpa using h2, by simpa using h3, by simpa using h4, fun k hk => ?_, by simpa using h5, by simpa using h6⟩
    have := hs k (Nat.zero_le _) (by omega)
    by_cases e : (im.row k).length = (im.np k + 63) / 64
    · exact e
    · rw [if_neg e] at this; cases this
theorem geo_of {im : Im} (hw : im.Wf) (h1 : R1 im = none) (h2 : R2 im = none) : ∃ o r, Geo im o r := by
  obtain ⟨o, ho, ho8, l1, l2, hl, hb0, hbR, hb63, htop⟩ := may_t (R1_none.1 h1)
  obtain ⟨g1, g2, g3, g4, g5, g6, g7⟩ := R2_none h2
  rw [inB_t] at g1
  obtain ⟨r, hr⟩ : ∃ r : Nat, im.regions = r := ⟨im.regions.toNat, by omega⟩
  have hbase := hw.base
  rw [ho] at g2 g3 g6 g4
  unfold RR at g2
  rw [Int.toNat_natCast] at g2 g3
  rw [hr] at g1 g2 g3
  have e2 : ((2 : Int) ^ o) = ((2 ^ o : Nat) : Int) := by simp
  have hp : 0 < 2 ^ o := Nat.pow_pos (by decide)
  rw [e2] at g2 g3 hl
  generalize hq : (2 : Nat) ^ o = q at *
  have g3' : im.n = r * q := by
    have : (im.n : Int) = ((r * q : Nat) : Int) := by rw [g3]; simp
    omega
  have g2' : im.mem.length = 4096 * (r * q) := by
    have : (im.mem.length : Int) = ((4096 * (r * q) : Nat) : Int) := by
      rw [g2]
      simp only [Int.natCast_mul, Int.cast_ofNat_Int]
      rw [Int.mul_left_comm]
    omega
  have hrl : ((r * q : Nat) : Int) ≤ im.limit * (q : Int) := by
    rw [Int.natCast_mul]
    exact Int.mul_le_mul_of_nonneg_right g1.2 (by omega)
  have htop' : im.limit * ((4096 * q : Nat) : Int) = 4096 * (im.limit * (q : Int)) := by
    rw [Int.natCast_mul, Int.mul_left_comm]; rfl
  rw [htop'] at htop
  unfold U64 at hbase
  have hdvd : im.base % 4096 = 0 := by
    have h4 : (4096 : Int) ∣ ((4096 * q : Nat) : Int) := by rw [Int.natCast_mul]; exact Int.dvd_mul_right _ _
    exact Int.emod_eq_zero_of_dvd (Int.dvd_trans h4 (Int.dvd_of_emod_eq_zero hbR))
  refine ⟨o, r, ho, ho8, ⟨l1, l2⟩, hr, g1.2, by rw [hq]; exact g2', by rw [hq]; exact g3', by omega, by omega, by rw [hq]; exact hbR, hdvd, by omega, by omega, fun k hk => g5 k (by omega), by omega, g7⟩
theorem R3_none {im : Im} : R3 im = none ↔ ∀ i, i < im.n → rangeB im.order ((im.n : Int) - 1) (im.pg i) = true := by
  unfold R3
  rw [scan_none]
  constructor
  · intro h i hi
    have := h i (Nat.zero_le _) (by omega)
    by_cases e : rangeB im.order ((im.n : Int) - 1) (im.pg i) = true
    · exact e
    · rw [if_neg e] at this; cases this
  · intro h i _ hi
    rw [if_pos (h i (by omega))]
structure Rng (order last : Int) (p : Pg) : Prop where
  kd : 0 ≤ p.kd ∧ p.kd ≤ 4
  od : 0 ≤ p.od ∧ p.od ≤ order
  cl : 0 ≤ p.cl ∧ p.cl ≤ 7
  lv : 0 ≤ p.lv ∧ p.lv ≤ 256
  nx : -1 ≤ p.nx ∧ p.nx ≤ last
  pv : -1 ≤ p.pv ∧ p.pv ≤ last
  fs : -1 ≤ p.fs ∧ p.fs ≤ 255
theorem rangeB_t {o l : Int} {p : Pg} (h : rangeB o l p = true) : Rng o l p := by
  unfold rangeB at h
  simp only [Bool.and_eq_true, inB_t] at h
  obtain ⟨h1, h2, h3, h4, h5, h6, h7⟩ := h
  exact ⟨h1, h2, h3, h4, h5, h6, h7⟩
theorem pow_dvd {a b : Nat} (h : a ≤ b) : 2 ^ a ∣ 2 ^ b := Nat.pow_dvd_pow 2 h
theorem Geo.fits {im : Im} {o r : Nat} (g : Geo im o r) {k i : Nat} (hk : k ≤ o) (hi : i < im.n) (hm : i % 2 ^ k = 0) : i + 2 ^ k ≤ im.n := by
  have hd : 2 ^ k ∣ im.n := by rw [g.n]; exact Nat.dvd_trans (pow_dvd hk) (Nat.dvd_mul_left _ _)
  obtain ⟨a, ha⟩ := hd
  obtain ⟨b, hb⟩ := Nat.dvd_of_mod_eq_zero hm
  have hp : 0 < 2 ^ k := Nat.pow_pos (by decide)
  generalize 2 ^ k = q at *
  rw [ha, hb] at hi ⊢
  have : b < a := Nat.lt_of_mul_lt_mul_left hi
  have h2 : q * (b + 1) ≤ q * a := Nat.mul_le_mul_left q this
  rw [Nat.mul_add] at h2
  omega
theorem Geo.np {im : Im} {o r : Nat} (g : Geo im o r) {k i : Nat} (hk : k < o) (hi : i < im.np k) : i * 2 ^ (k + 1) + 2 ^ (k + 1) ≤ im.n := by
  unfold Im.np at hi
  have hp : 0 < 2 ^ (k + 1) := Nat.pow_pos (by decide)
  generalize 2 ^ (k + 1) = q at *
  have h1 := Nat.mul_le_of_le_div q (i + 1) im.n hi
  rw [Nat.add_mul] at h1
  omega
theorem scan_some {f : Nat → Option Int} : ∀ {d k : Nat} {p : Int}, scan f d k = some p → ∃ i, k ≤ i ∧ i < k + d ∧ f i = some p
  | 0, _, _, h => by cases h
  | d + 1, k, p, h => by
    unfold scan at h
    cases hf : f k with
    | some q => rw [hf] at h; exact ⟨k, Nat.le_refl _, by omega, hf.trans h⟩
    | none =>
      rw [hf] at h
      obtain ⟨i, h1, h2, h3⟩ := scan_some h
      exact ⟨i, by omega, by omega, h3⟩
def halfF (im : Im) (i k : Nat) : Option Int := if i % (2 * 2 ^ k) = 0 ∧ im.openB i k = true ∧ im.openB (i + 2 ^ k) k = true then some i else none
theorem open_t {im : Im} {i : Nat} {k : Int} : im.openB i k = true ↔ (im.pg i).kd = 0 ∧ (im.pg i).od = k := by unfold Im.openB openP; simp
theorem half_eq {im : Im} {o : Nat} (ho : im.order = o) {i : Nat} (h0 : 0 ≤ (im.pg i).od) : scan (halfF im i) o 0 = if halfB im i = true then some (i : Int) else none := by
  have key : ∀ k, halfF im i k ≠ none → (k : Int) = (im.pg i).od := by
    intro k hk
    unfold halfF at hk
    by_cases hc : i % (2 * 2 ^ k) = 0 ∧ im.openB i k = true ∧ im.openB (i + 2 ^ k) k = true
    · exact (open_t.1 hc.2.1).2.symm
    · rw [if_neg hc] at hk; exact absurd rfl hk
  have val : ∀ k p, halfF im i k = some p → p = i := by
    intro k p hk
    unfold halfF at hk
    split at hk
    · injection hk with hk; exact hk.symm
    · cases hk
  obtain ⟨k, hk⟩ : ∃ k : Nat, (im.pg i).od = k := ⟨(im.pg i).od.toNat, by omega⟩
  have hB : halfB im i = true ↔ k < o ∧ halfF im i k = some (i : Int) := by
    unfold halfB halfF
    rw [hk, Int.toNat_natCast, ho, Nat.pow_succ, Nat.mul_comm _ 2]
    simp only [decide_eq_true_eq, open_t, hk]
    constructor
    · rintro ⟨a, b, c, d⟩
      exact ⟨by omega, by rw [if_pos ⟨c, ⟨a, trivial⟩, d⟩]⟩
    · rintro ⟨a, b⟩
      by_cases hc : i % (2 * 2 ^ k) = 0 ∧ ((im.pg i).kd = 0 ∧ True) ∧ (im.pg (i + 2 ^ k)).kd = 0 ∧ (im.pg (i + 2 ^ k)).od = k
      · exact ⟨hc.2.1.1, by omega, hc.1, hc.2.2⟩
      · rw [if_neg hc] at b; cases b
  by_cases hb : halfB im i = true
  · rw [if_pos hb]
    obtain ⟨h1, h2⟩ := hB.1 hb
    cases hs : scan (halfF im i) o 0 with
    | none =>
      rw [scan_none] at hs
      have := hs k (Nat.zero_le _) (by omega)
      rw [this] at h2; cases h2
    | some p =>
      obtain ⟨j, _, _, j3⟩ := scan_some hs
      rw [val j p j3]
  · rw [if_neg hb, scan_none]
    intro j _ hj
    cases hf : halfF im i j with
    | none => rfl
    | some p =>
      have e := key j (by rw [hf]; simp)
      rw [hk] at e
      have e : j = k := by omega
      subst e
      exact absurd (hB.2 ⟨by omega, by rw [hf, val _ _ hf]⟩) hb
theorem freeL_ok {im : Im} {o r : Nat} (g : Geo im o r) (k : Nat) : (freeL im k).Ok := by
  have hb := g.base0
  constructor
  · intro p i h
    simp only [freeL] at h ⊢
    split at h
    · rename_i hc
      injection h with h
      subst h
      refine ⟨?_, hc.2.2.2⟩
      have h1 := hc.2.1
      rw [g.mem, ← g.n] at h1
      omega
    · cases h
  · simp only [freeL]; rw [if_neg (by omega)]
  · simp only [freeL]; rw [if_neg (by omega)]
theorem partL_ok (im : Im) (k : Nat) : (partL im k).Ok := by
  constructor
  · intro p i h
    simp only [partL] at h ⊢
    split at h
    · rename_i hc
      injection h with h
      subst h
      exact ⟨by omega, hc.2.2⟩
    · cases h
  · simp only [partL]; rw [if_neg (by omega)]
  · simp only [partL]; rw [if_neg (by omega)]
theorem all_cnt (L : Ln) : L.all.length = cnt L.ok L.n := (cnt_filter L.ok L.n).symm
theorem free_eq {im : Im} {o r : Nat} (g : Geo im o r) (k : Nat) (hd : Int) : (freeL im k).folB hd = (freeL im k).rf (cnt (fun i => im.openB i k) im.n) hd 0 := by
  rw [Ln.same (freeL_ok g k), all_cnt]; rfl
theorem part_eq (im : Im) (k : Nat) (hd : Int) : (partL im k).folB hd = (partL im k).rf (cnt (fun i => im.roomB i k) im.n) hd (-1) := by
  rw [Ln.same (partL_ok im k), all_cnt]; rfl
theorem cells_eq {im : Im} {i : Nat} (h : 0 ≤ (im.pg i).lv) (hl : (im.pg i).lv ≤ cellsN (im.pg i).cl) : cellsB im i = crf (cellsN (im.pg i).cl) (im.pg i).bit (nxC im i) (cellsN (im.pg i).cl - (im.pg i).lv.toNat) (im.pg i).fs [] := by
  rw [Bool.eq_iff_iff, crf_cfol _ (cellsN (im.pg i).cl + 1) _ _ (by omega)]
  unfold cellsB
  cases hc : cfol (cellsN (im.pg i).cl) (im.pg i).bit (nxC im i) (cellsN (im.pg i).cl + 1) (im.pg i).fs [] with
  | none => exact ⟨(fun h => nomatch h), fun ⟨_, h, _⟩ => nomatch h⟩
  | some r =>
    simp only [decide_eq_true_eq, List.length_nil]
    constructor
    · intro h; exact ⟨r, rfl, by omega⟩
    · rintro ⟨r', h1, h2⟩
      injection h1 with h1
      subst h1
      omega
def cellBs (im : Im) (i : Nat) : Nat → List (Int × Int)
  | 0 => []
  | c + 1 => cellBs im i c ++ if (im.pg i).bit c = true then [(im.base + 4096 * (i : Int) + (c : Int) * (cellZ (im.pg i) : Int), (cellZ (im.pg i) : Int))] else []
def pageBs (im : Im) (i : Nat) : List (Int × Int) :=
  if (im.pg i).kd = 2 then [(im.base + 4096 * (i : Int), 4096 * 2 ^ (im.pg i).od.toNat)] else if (im.pg i).kd = 4 then cellBs im i (cellsN (im.pg i).cl) else []
def blocksTo (im : Im) : Nat → List (Int × Int)
  | 0 => []
  | i + 1 => blocksTo im i ++ pageBs im i
def Im.blocks (im : Im) : List (Int × Int) := blocksTo im im.n
def Sound (im : Im) : Prop := ∀ k, k < 11 → res im k = none
theorem cell_page {cl : Int} (h0 : 0 ≤ cl) (h7 : cl ≤ 7) : ∃ c : Nat, cl = c ∧ c ≤ 7 ∧ cellsN cl = 2 ^ (8 - c) ∧ 16 * 2 ^ cl.toNat = 2 ^ (4 + c) ∧ cellsN cl * (16 * 2 ^ cl.toNat) = 4096 := by
  obtain ⟨c, hc⟩ : ∃ c : Nat, cl = c := ⟨cl.toNat, by omega⟩
  have hc7 : c ≤ 7 := by omega
  refine ⟨c, hc, hc7, ?_⟩
  rw [hc]
  unfold cellsN
  rw [Int.toNat_natCast]
  have : c = 0 ∨ c = 1 ∨ c = 2 ∨ c = 3 ∨ c = 4 ∨ c = 5 ∨ c = 6 ∨ c = 7 := by omega
  rcases this with rfl | rfl | rfl | rfl | rfl | rfl | rfl | rfl <;> decide
end Go.Proofs.Ytkgedpcipaogjaa.WB
end
section
namespace Go.Proofs.Ytkgedpcipaogjaa.WB
open Go Go.RowKit Go.Proofs.YtkgedpcipaogjaaW.PrintWords Go.Proofs.YtkgedpcipaogjaaW.PrintLast Go.Proofs.YtkgedpcipaogjaaW.PrintMore
set_option linter.unusedVariables false
set_option linter.unusedSimpArgs false
def Pg.cells (p : Pg) : List Value := [.int .i64 p.kd, .int .i64 p.od, .int .i64 p.cl, .int .i64 p.lv, .int .i64 p.nx, .int .i64 p.pv, .int .i64 p.fs, .int .u64 p.b0, .int .u64 p.b1, .int .u64 p.b2, .int .u64 p.b3]
def RowI (F : Nat → Prop) (w : World) (A : Option Addr) (k : IntKind) (xs : List Int) : Prop :=
  0 < xs.length → ∃ ad, A = some ad ∧ F ad.block ∧ ∀ i, i < xs.length → w.cell? (ad.add i) = some (.int k (xs.getD i 0))
def RowP (F : Nat → Prop) (w : World) (A : Option Addr) (ps : List Pg) : Prop :=
  0 < ps.length → ∃ ad, A = some ad ∧ F ad.block ∧ ∀ i, i < ps.length → ∀ j v, (ps.getD i pg0).cells[j]? = some v → w.cell? (ad.add (i * 11 + j)) = some v
def RowR (F : Nat → Prop) (w : World) (A : Option Addr) (rs : List (List Int)) : Prop :=
  0 < rs.length → ∃ ad, A = some ad ∧ F ad.block ∧ ∀ i, i < rs.length → ∃ (B : Option Addr) (c : Nat), (rs.getD i []).length ≤ c ∧ w.cell? (ad.add i) = some (.slice B (rs.getD i []).length c) ∧ RowI F w B .u64 (rs.getD i [])
theorem cell_keep {w w' : World} {a : Addr} {i : Nat} (h : w'.heap[a.block]? = w.heap[a.block]?) : w'.cell? (a.add i) = w.cell? (a.add i) := World.cell?_of_block (by rw [add_block]; exact h)
theorem RowI.keep {F : Nat → Prop} {w w' : World} {A : Option Addr} {k : IntKind} {xs : List Int} (h : RowI F w A k xs) (hk : ∀ b, F b → w'.heap[b]? = w.heap[b]?) : RowI F w' A k xs := fun h0 => by
  obtain ⟨ad, e, hF, hx⟩ := h h0
  exact ⟨ad, e, hF, fun i hi => (cell_keep (hk _ hF)).trans (hx i hi)⟩
theorem RowP.keep {F : Nat → Prop} {w w' : World} {A : Option Addr} {ps : List Pg} (h : RowP F w A ps) (hk : ∀ b, F b → w'.heap[b]? = w.heap[b]?) : RowP F w' A ps := fun h0 => by
  obtain ⟨ad, e, hF, hx⟩ := h h0
  exact ⟨ad, e, hF, fun i hi j v hv => (cell_keep (hk _ hF)).trans (hx i hi j v hv)⟩
theorem RowR.keep {F : Nat → Prop} {w w' : World} {A : Option Addr} {rs : List (List Int)} (h : RowR F w A rs) (hk : ∀ b, F b → w'.heap[b]? = w.heap[b]?) : RowR F w' A rs := fun h0 => by
  obtain ⟨ad, e, hF, hx⟩ := h h0
  refine ⟨ad, e, hF, fun i hi => ?_⟩
  obtain ⟨B, c, h1, h2, h3⟩ := hx i hi
  exact ⟨B, c, h1, (cell_keep (hk _ hF)).trans h2, h3.keep hk⟩
theorem RowI.mono {F F' : Nat → Prop} {w : World} {A : Option Addr} {k : IntKind} {xs : List Int} (h : RowI F w A k xs) (hk : ∀ b, F b → F' b) : RowI F' w A k xs := fun h0 => by
  obtain ⟨ad, e, hF, hx⟩ := h h0
  exact ⟨ad, e, hk _ hF, hx⟩
theorem RowP.mono {F F' : Nat → Prop} {w : World} {A : Option Addr} {ps : List Pg} (h : RowP F w A ps) (hk : ∀ b, F b → F' b) : RowP F' w A ps := fun h0 => by
  obtain ⟨ad, e, hF, hx⟩ := h h0
  exact ⟨ad, e, hk _ hF, hx⟩
theorem RowR.mono {F F' : Nat → Prop} {w : World} {A : Option Addr} {rs : List (List Int)} (h : RowR F w A rs) (hk : ∀ b, F b → F' b) : RowR F' w A rs := fun h0 => by
  obtain ⟨ad, e, hF, hx⟩ := h h0
  refine ⟨ad, e, hk _ hF, fun i hi => ?_⟩
  obtain ⟨B, c, h1, h2, h3⟩ := hx i hi
  exact ⟨B, c, h1, h2, h3.mono hk⟩
structure Sl where
  A : Option Addr
  a : Nat
  B : Option Addr
  b : Nat
  C : Option Addr
  c : Nat
  D : Option Addr
  d : Nat
  E : Option Addr
  e : Nat
structure ImAt (F : Nat → Prop) (w : World) (im : Im) (s : Sl) : Prop where
  mem : RowI F w s.A .u8 im.mem
  pages : RowP F w s.B im.pages
  pairs : RowR F w s.C im.pairs
  heads : RowI F w s.D .u64 im.heads
  parts : RowI F w s.E .i64 im.parts
  cmem : im.mem.length ≤ s.a
  cpages : im.pages.length ≤ s.b
  cpairs : im.pairs.length ≤ s.c
  cheads : im.heads.length ≤ s.d
  cparts : im.parts.length ≤ s.e
  wf : im.Wf
theorem ImAt.keep {F : Nat → Prop} {w w' : World} {im : Im} {s : Sl} (h : ImAt F w im s) (hk : ∀ b, F b → w'.heap[b]? = w.heap[b]?) : ImAt F w' im s :=
  ⟨h.mem.keep hk, h.pages.keep hk, h.pairs.keep hk, h.heads.keep hk, h.parts.keep hk, h.cmem, h.cpages, h.cpairs, h.cheads, h.cparts, h.wf⟩
theorem ImAt.mono {F F' : Nat → Prop} {w : World} {im : Im} {s : Sl} (h : ImAt F w im s) (hk : ∀ b, F b → F' b) : ImAt F' w im s :=
  ⟨h.mem.mono hk, h.pages.mono hk, h.pairs.mono hk, h.heads.mono hk, h.parts.mono hk, h.cmem, h.cpages, h.cpairs, h.cheads, h.cparts, h.wf⟩
def Im.cells (im : Im) (s : Sl) : Array Value := #[.int .u64 im.base, .int .i64 im.limit, .int .i64 im.order, .int .i64 im.regions, .slice s.A im.mem.length s.a, .slice s.B im.pages.length s.b, .slice s.C im.pairs.length s.c, .slice s.D im.heads.length s.d, .slice s.E im.parts.length s.e]
def viewO (im : Im) (s : Sl) (P : Value) : Obj := .cells #[.int .u64 im.base, .int .i64 im.limit, .int .i64 im.order, .int .i64 im.regions, .slice s.A im.mem.length s.a, .slice s.B im.pages.length s.b, .slice s.C im.pairs.length s.c, .slice s.D im.heads.length s.d, .slice s.E im.parts.length s.e, P] 61 (0, 0)
structure V (F : Nat → Prop) (gv : Nat) (im : Im) (s : Sl) (P : Value) (w : World) : Prop where
  at_ : w.heap[gv]? = some (viewO im s P)
  im : ImAt F w im s
theorem V.keep {F : Nat → Prop} {gv : Nat} {im : Im} {s : Sl} {P : Value} {w w' : World} (h : V F gv im s P w) (hg : w'.heap[gv]? = w.heap[gv]?) (hk : ∀ b, F b → w'.heap[b]? = w.heap[b]?) : V F gv im s P w' := ⟨hg.trans h.at_, h.im.keep hk⟩
theorem V.cell {F : Nat → Prop} {gv : Nat} {im : Im} {s : Sl} {P : Value} {w : World} (h : V F gv im s P w) :
    w.cell? ⟨gv, 0, none⟩ = some (.int .u64 im.base) ∧ w.cell? ⟨gv, 1, none⟩ = some (.int .i64 im.limit) ∧ w.cell? ⟨gv, 2, none⟩ = some (.int .i64 im.order) ∧ w.cell? ⟨gv, 3, none⟩ = some (.int .i64 im.regions) ∧ w.cell? ⟨gv, 4, none⟩ = some (.slice s.A im.mem.length s.a) ∧
    w.cell? ⟨gv, 5, none⟩ = some (.slice s.B im.pages.length s.b) ∧ w.cell? ⟨gv, 6, none⟩ = some (.slice s.C im.pairs.length s.c) ∧ w.cell? ⟨gv, 7, none⟩ = some (.slice s.D im.heads.length s.d) ∧ w.cell? ⟨gv, 8, none⟩ = some (.slice s.E im.parts.length s.e) ∧ w.cell? ⟨gv, 9, none⟩ = some P :=
  ⟨blk_cell h.at_ 0, blk_cell h.at_ 1, blk_cell h.at_ 2, blk_cell h.at_ 3, blk_cell h.at_ 4, blk_cell h.at_ 5, blk_cell h.at_ 6, blk_cell h.at_ 7, blk_cell h.at_ 8, blk_cell h.at_ 9⟩
theorem V.page {F : Nat → Prop} {gv : Nat} {im : Im} {s : Sl} {P : Value} {w : World} (h : V F gv im s P w) (i : Nat) (hi : i < im.pages.length) : ∃ ad, s.B = some ad ∧ F ad.block ∧
    w.cell? (ad.add (i * 11)) = some (.int .i64 (im.pg i).kd) ∧ w.cell? ⟨(ad.add (i * 11)).block, (ad.add (i * 11)).off + 1, none⟩ = some (.int .i64 (im.pg i).od) ∧ w.cell? ⟨(ad.add (i * 11)).block, (ad.add (i * 11)).off + 2, none⟩ = some (.int .i64 (im.pg i).cl) ∧ w.cell? ⟨(ad.add (i * 11)).block, (ad.add (i * 11)).off + 3, none⟩ = some (.int .i64 (im.pg i).lv) ∧ w.cell? ⟨(ad.add (i * 11)).block, (ad.add (i * 11)).off + 4, none⟩ = some (.int .i64 (im.pg i).nx) ∧ w.cell? ⟨(ad.add (i * 11)).block, (ad.add (i * 11)).off + 5, none⟩ = some (.int .i64 (im.pg i).pv) ∧ w.cell? ⟨(ad.add (i * 11)).block, (ad.add (i * 11)).off + 6, none⟩ = some (.int .i64 (im.pg i).fs) ∧ w.cell? ⟨(ad.add (i * 11)).block, (ad.add (i * 11)).off + 7, none⟩ = some (.int .u64 (im.pg i).b0) ∧ w.cell? ⟨(ad.add (i * 11)).block, (ad.add (i * 11)).off + 8, none⟩ = some (.int .u64 (im.pg i).b1) ∧ w.cell? ⟨(ad.add (i * 11)).block, (ad.add (i * 11)).off + 9, none⟩ = some (.int .u64 (im.pg i).b2) ∧ w.cell? ⟨(ad.add (i * 11)).block, (ad.add (i * 11)).off + 10, none⟩ = some (.int .u64 (im.pg i).b3) := by
  obtain ⟨ad, e, hF, hx⟩ := h.im.pages (by omega)
  have h0 := hx i hi
  have h1 : ∀ j v, (im.pg i).cells[j + 1]? = some v → w.cell? ⟨(ad.add (i * 11)).block, (ad.add (i * 11)).off + (j + 1), none⟩ = some v := by
    intro j v hv
    rw [← Addr.add_succ', Addr.add_add]
    exact h0 (j + 1) v hv
  exact ⟨ad, e, hF, h0 0 _ rfl, h1 0 _ rfl, h1 1 _ rfl, h1 2 _ rfl, h1 3 _ rfl, h1 4 _ rfl, h1 5 _ rfl, h1 6 _ rfl, h1 7 _ rfl, h1 8 _ rfl, h1 9 _ rfl⟩
end Go.Proofs.Ytkgedpcipaogjaa.WB
end
section
namespace Go.Proofs.Ytkgedpcipaogjaa.WB
open Go Go.RowKit Go.ChangeShapes Go.WideShapes Go.ChangeAt Go.Joins Go.Proofs.YtkgedpcipaogjaaW.PrintWords Go.Proofs.YtkgedpcipaogjaaW.PrintLast Go.Proofs.YtkgedpcipaogjaaW.PrintMore
set_option linter.unusedVariables false
set_option linter.unusedSimpArgs false
def Old (W : World) (b : Nat) : Prop := b < W.heap.size
theorem old_of_cell {W : World} {a : Addr} {i : Nat} {v : Value} (h : W.cell? (a.add i) = some v) : Old W a.block := by
  have := World.block_lt_of_cell? W _ h
  rwa [add_block] at this
theorem weights_all {H : Type} {P : Program} {e : TypeId} : ∀ {l : List (DataW H)} {d : DataW H}, d ∈ l → ∀ n ∈ d.weights P e, n ∈ DataW.weightsAll P e l
  | d0 :: l, d, hd, n, hn => by
    rw [DataW.weightsAll]
    rcases List.mem_cons.1 hd with rfl | hd
    · exact List.mem_append_left _ hn
    · exact List.mem_append_right _ (weights_all hd n hn)
section
variable {H : Type} {enc : TypeId × Value → H} {W : World} {base : Nat} {spare : Nat → Bool} {held : Bool}
theorem nums_open {fuel len cap : Nat} {a : Option Addr} {x : DataW H × List MemPlace} {t e : TypeId} {k : IntKind} {b : Nat} (ht : Try.prog.underlying t = some (.slice e)) (he : Try.prog.underlying e = some (.int k)) (hce : Try.prog.cellsOf e = 1) (hb : Try.prog.bytesOf e = b)
    (hf : DataW.trod enc Try.prog W base spare held fuel t [.slice a len cap] = some x) (hw : ∀ n ∈ x.1.weights Try.prog t, n ≤ reachBytes) :
    len ≤ cap ∧ len * b ≤ reachBytes ∧ ∃ L : List Int, L.length = len ∧ RowI (Old W) W a k L ∧ ∀ y ∈ L, (Lit.int k y).wf = true := by
  rcases Go.Deep.open_slice1 ht hce hf with ⟨hcs, _⟩ | ⟨ad, l, c, m, n, V, D, Pl, hcs, hbb, hl, hm, hmm, hx0, hx⟩
  · simp at hcs
    obtain ⟨rfl, rfl, rfl⟩ := hcs
    exact ⟨Nat.le_refl _, by omega, [], rfl, fun h => absurd h (by simp), fun y hy => by cases hy⟩
  · simp at hcs
    obtain ⟨rfl, rfl, rfl⟩ := hcs
    have key : ∀ i, ∃ z : Int, i < len → (Lit.int k z).wf = true ∧ W.cell? (ad.add i) = some (.int k z) := by
      intro i
      by_cases hi : i < len
      · have hkm : i < m := by rw [hmm]; split <;> omega
        obtain ⟨h1, h2⟩ := hx i hkm
        obtain ⟨n0, e0, -, w0⟩ := DataW.trod_int he h2
        simp at e0
        rw [e0] at h1
        exact ⟨n0, fun _ => ⟨w0, h1⟩⟩
      · exact ⟨0, fun h => absurd h hi⟩
    obtain ⟨B, hB⟩ := Classical.axiomOfChoice key
    refine ⟨hl, ?_, (List.range len).map B, by simp, fun h0 => ?_, fun y hy => ?_⟩
    · rw [hx0] at hw
      have := hw _ (by simp only [DataW.weights, ht]; exact List.mem_cons_self ..)
      rw [List.length_map, List.length_range, hb] at this
      exact Nat.le_trans (Nat.mul_le_mul_right b (Nat.le_add_right _ _)) this
    · have h00 : 0 < len := by simpa using h0
      refine ⟨ad, rfl, old_of_cell (hB 0 h00).2, fun i hi => ?_⟩
      have hi' : i < len := by simpa using hi
      rw [(hB i hi').2]
      simp [List.getD_eq_getElem?_getD, List.getElem?_range hi']
    · obtain ⟨i, hi, rfl⟩ := List.mem_map.1 hy
      exact (hB i (List.mem_range.1 hi)).1
theorem one_field {cl : List Value} {n : Nat} {t : TypeId} {j : Nat} {k : IntKind} {y : Option (DataW H × List MemPlace)} {v : Value} {z : DataW H × List MemPlace} (h : DataW.trod enc Try.prog W base spare held n t ((cl.drop j).take (Try.prog.cellsOf t)) = y) (hc : Try.prog.cellsOf t = 1) (hu : Try.prog.underlying t = some (.int k)) (hj : cl[j]? = some v) (hy : y = some z) :
    ∃ m : Int, v = .int k m ∧ (Lit.int k m).wf = true := by
  subst hy
  have e : (cl.drop j).take 1 = [v] := by
    obtain ⟨hl, he⟩ := List.getElem?_eq_some_iff.1 hj
    rw [List.drop_eq_getElem_cons hl, he]
    rfl
  rw [hc, e] at h
  obtain ⟨m, h1, -, h2⟩ := DataW.trod_int hu h
  simp at h1
  exact ⟨m, h1, h2⟩
theorem cellsPg : Try.prog.cellsOf 39 = 11 := by kernel_rfl
theorem cellsI : Try.prog.cellsOf 3 = 1 := by kernel_rfl
theorem cellsU : Try.prog.cellsOf 22 = 1 := by kernel_rfl
theorem cellsU8 : Try.prog.cellsOf 5 = 1 := by kernel_rfl
theorem cells4 : Try.prog.cellsOf 37 = 4 := by kernel_rfl
theorem cellsCfg : Try.prog.cellsOf 24 = 3 := by kernel_rfl
theorem cellsIm : Try.prog.cellsOf 31 = 9 := by kernel_rfl
theorem cellsSU : Try.prog.cellsOf 28 = 1 := by kernel_rfl
theorem cellsSB : Try.prog.cellsOf 25 = 1 := by kernel_rfl
theorem cellsSI : Try.prog.cellsOf 29 = 1 := by kernel_rfl
theorem cellsSP : Try.prog.cellsOf 26 = 1 := by kernel_rfl
theorem cellsSS : Try.prog.cellsOf 27 = 1 := by kernel_rfl
theorem bytesPg : Try.prog.bytesOf 39 = 88 := by kernel_rfl
theorem bytesSU : Try.prog.bytesOf 28 = 24 := by kernel_rfl
theorem bytesU : Try.prog.bytesOf 22 = 8 := by kernel_rfl
theorem bytesI : Try.prog.bytesOf 3 = 8 := by kernel_rfl
theorem bytesU8 : Try.prog.bytesOf 5 = 1 := by kernel_rfl
theorem u64_of {z : Int} (h : (Lit.int .u64 z).wf = true) : U64 z := by
  have := bounds_u64 h
  unfold U64; omega
theorem i64_of {z : Int} (h : (Lit.int .i64 z).wf = true) : I64 z := by
  have := bounds_i64 h
  unfold I64; omega
set_option maxRecDepth 100000 in
theorem page_open {fuel : Nat} {cl : List Value} {x : DataW H × List MemPlace} (hf : DataW.trod enc Try.prog W base spare held fuel 39 cl = some x) (hl : cl.length = 11) : ∃ p : Pg, cl = p.cells ∧ p.Wf := by
  obtain ⟨xs, n, -, -, -, hlen, hg⟩ := DataW.trod_struct Try.underlying39 hf
  match cl, hl with
  | [c0, c1, c2, c3, c4, c5, c6, c7, c8, c9, c10], _ =>
    match xs, hlen with
    | [y0, y1, y2, y3, y4, y5, y6, y7], _ =>
      obtain ⟨m0, rfl, w0⟩ := one_field (hg 0 _ rfl) cellsI Try.underlying3 (v := c0) rfl rfl
      obtain ⟨m1, rfl, w1⟩ := one_field (hg 1 _ rfl) cellsI Try.underlying3 (v := c1) rfl rfl
      obtain ⟨m2, rfl, w2⟩ := one_field (hg 2 _ rfl) cellsI Try.underlying3 (v := c2) rfl rfl
      obtain ⟨m3, rfl, w3⟩ := one_field (hg 3 _ rfl) cellsI Try.underlying3 (v := c3) rfl rfl
      obtain ⟨m4, rfl, w4⟩ := one_field (hg 4 _ rfl) cellsI Try.underlying3 (v := c4) rfl rfl
      obtain ⟨m5, rfl, w5⟩ := one_field (hg 5 _ rfl) cellsI Try.underlying3 (v := c5) rfl rfl
      obtain ⟨m6, rfl, w6⟩ := one_field (hg 6 _ rfl) cellsI Try.underlying3 (v := c6) rfl rfl
      have f7 : DataW.trod enc Try.prog W base spare held n 37 (([Value.int .i64 m0, .int .i64 m1, .int .i64 m2, .int .i64 m3, .int .i64 m4, .int .i64 m5, .int .i64 m6, c7, c8, c9, c10].drop 7).take (Try.prog.cellsOf 37)) = some y7 := hg 7 _ rfl
      rw [cells4] at f7
      replace f7 : DataW.trod enc Try.prog W base spare held n 37 [c7, c8, c9, c10] = some y7 := f7
      obtain ⟨zs, n', -, -, -, hzl, hz⟩ := DataW.trod_array Try.underlying37 f7
      rw [cellsU] at hz
      match zs, hzl with
      | [z0, z1, z2, z3], _ =>
        have g0 : DataW.trod enc Try.prog W base spare held n' 22 [c7] = some z0 := hz 0 (by decide)
        have g1 : DataW.trod enc Try.prog W base spare held n' 22 [c8] = some z1 := hz 1 (by decide)
        have g2 : DataW.trod enc Try.prog W base spare held n' 22 [c9] = some z2 := hz 2 (by decide)
        have g3 : DataW.trod enc Try.prog W base spare held n' 22 [c10] = some z3 := hz 3 (by decide)
        obtain ⟨b0, e0, -, v0⟩ := DataW.trod_int Try.underlying22 g0
        obtain ⟨b1, e1, -, v1⟩ := DataW.trod_int Try.underlying22 g1
        obtain ⟨b2, e2, -, v2⟩ := DataW.trod_int Try.underlying22 g2
        obtain ⟨b3, e3, -, v3⟩ := DataW.trod_int Try.underlying22 g3
        simp at e0 e1 e2 e3
        subst e0 e1 e2 e3
        exact ⟨⟨m0, m1, m2, m3, m4, m5, m6, b0, b1, b2, b3⟩, rfl, i64_of w0, i64_of w1, i64_of w2, i64_of w3, i64_of w4, i64_of w5, i64_of w6, u64_of v0, u64_of v1, u64_of v2, u64_of v3⟩
set_option maxRecDepth 100000 in
theorem pages_open {fuel len cap : Nat} {a : Option Addr} {x : DataW H × List MemPlace} (hf : DataW.trod enc Try.prog W base spare held fuel 26 [.slice a len cap] = some x) (hw : ∀ n ∈ x.1.weights Try.prog 26, n ≤ reachBytes) :
    len ≤ cap ∧ len * 88 ≤ reachBytes ∧ ∃ L : List Pg, L.length = len ∧ RowP (Old W) W a L ∧ ∀ p ∈ L, p.Wf := by
  rcases Go.Deep.open_slice Try.underlying26 hf with ⟨hcs, _⟩ | ⟨ad, l, c, m, n, D, Pl, hcs, hbb, hl, hm, hmm, hx0, hx⟩
  · simp at hcs
    obtain ⟨rfl, rfl, rfl⟩ := hcs
    exact ⟨Nat.le_refl _, by omega, [], rfl, fun h => absurd h (by simp), fun y hy => by cases hy⟩
  · simp at hcs
    obtain ⟨rfl, rfl, rfl⟩ := hcs
    have key : ∀ i, ∃ p : Pg, i < len → p.Wf ∧ ∀ j v, p.cells[j]? = some v → W.cell? (ad.add (i * 11 + j)) = some v := by
      intro i
      by_cases hi : i < len
      · have hkm : i < m := by rw [hmm]; split <;> omega
        obtain ⟨cs', h1, h2⟩ := hx i hkm
        rw [cellsPg] at h1
        obtain ⟨_, hlen, hcell⟩ := World.cells?_some h1
        obtain ⟨p, rfl, hp⟩ := page_open h2 hlen
        refine ⟨p, fun _ => ⟨hp, fun j v hj => ?_⟩⟩
        have hj11 : j < 11 := (List.getElem?_eq_some_iff.1 hj).1
        have := hcell j hj11
        rw [Addr.add_add] at this
        rw [this, hj]
      · exact ⟨pg0, fun h => absurd h hi⟩
    obtain ⟨B, hB⟩ := Classical.axiomOfChoice key
    refine ⟨hl, ?_, (List.range len).map B, by simp, fun h0 => ?_, fun y hy => ?_⟩
    · rw [hx0] at hw
      have := hw _ (by simp only [DataW.weights, Try.underlying26]; exact List.mem_cons_self ..)
      rw [List.length_map, List.length_range, bytesPg] at this
      exact Nat.le_trans (Nat.mul_le_mul_right 88 (Nat.le_add_right _ _)) this
    · have h00 : 0 < len := by simpa using h0
      refine ⟨ad, rfl, old_of_cell ((hB 0 h00).2 0 _ rfl), fun i hi j v hv => ?_⟩
      have hi' : i < len := by simpa using hi
      rw [List.getD_eq_getElem?_getD, List.getElem?_map, List.getElem?_range hi'] at hv
      exact (hB i hi').2 j v hv
    · obtain ⟨i, hi, rfl⟩ := List.mem_map.1 hy
      exact (hB i (List.mem_range.1 hi)).1
set_option maxRecDepth 100000 in
theorem rows_open {fuel len cap : Nat} {a : Option Addr} {x : DataW H × List MemPlace} (hf : DataW.trod enc Try.prog W base spare held fuel 27 [.slice a len cap] = some x) (hw : ∀ n ∈ x.1.weights Try.prog 27, n ≤ reachBytes) :
    len ≤ cap ∧ len * 24 ≤ reachBytes ∧ ∃ L : List (List Int), L.length = len ∧ RowR (Old W) W a L ∧ (∀ l ∈ L, ∀ y ∈ l, U64 y) ∧ ∀ l ∈ L, l.length * 8 ≤ reachBytes := by
  rcases Go.Deep.open_slice1 Try.underlying27 cellsSU hf with ⟨hcs, _⟩ | ⟨ad, l, c, m, n, V, D, Pl, hcs, hbb, hl, hm, hmm, hx0, hx⟩
  · simp at hcs
    obtain ⟨rfl, rfl, rfl⟩ := hcs
    exact ⟨Nat.le_refl _, by omega, [], rfl, fun h => absurd h (by simp), fun y hy => (by cases hy), fun y hy => by cases hy⟩
  · simp at hcs
    obtain ⟨rfl, rfl, rfl⟩ := hcs
    have hwi : ∀ i, i < len → ∀ n ∈ (D i).weights Try.prog 28, n ≤ reachBytes := by
      intro i hi n hn
      rw [hx0] at hw
      refine hw n ?_
      simp only [DataW.weights, Try.underlying27]
      refine List.mem_cons_of_mem _ (List.mem_append_left _ (weights_all (List.mem_map.2 ⟨i, List.mem_range.2 hi, rfl⟩) n hn))
    have key : ∀ i, ∃ l : List Int, i < len → (∀ y ∈ l, U64 y) ∧ l.length * 8 ≤ reachBytes ∧ Old W ad.block ∧ ∃ (B : Option Addr) (c : Nat), l.length ≤ c ∧ W.cell? (ad.add i) = some (.slice B l.length c) ∧ RowI (Old W) W B .u64 l := by
      intro i
      by_cases hi : i < len
      · have hkm : i < m := by rw [hmm]; split <;> omega
        obtain ⟨h1, h2⟩ := hx i hkm
        obtain ⟨B, len2, cap2, e4⟩ := slice_form Try.underlying28 h2
        simp at e4
        rw [e4] at h1 h2
        obtain ⟨k1, k2, L, rfl, k4, k5⟩ := nums_open Try.underlying28 Try.underlying22 cellsU bytesU h2 (hwi i hi)
        exact ⟨L, fun _ => ⟨fun y hy => u64_of (k5 y hy), k2, old_of_cell h1, B, cap2, k1, h1, k4⟩⟩
      · exact ⟨[], fun h => absurd h hi⟩
    obtain ⟨B, hB⟩ := Classical.axiomOfChoice key
    refine ⟨hl, ?_, (List.range len).map B, by simp, fun h0 => ?_, fun y hy => ?_, fun y hy => ?_⟩
    · rw [hx0] at hw
      have := hw _ (by simp only [DataW.weights, Try.underlying27]; exact List.mem_cons_self ..)
      rw [List.length_map, List.length_range, bytesSU] at this
      exact Nat.le_trans (Nat.mul_le_mul_right 24 (Nat.le_add_right _ _)) this
    · have h00 : 0 < len := by simpa using h0
      refine ⟨ad, rfl, (hB 0 h00).2.2.1, fun i hi => ?_⟩
      have hi' : i < len := by simpa using hi
      rw [List.getD_eq_getElem?_getD, List.getElem?_map, List.getElem?_range hi']
      exact (hB i hi').2.2.2
    · obtain ⟨i, hi, rfl⟩ := List.mem_map.1 hy
      exact (hB i (List.mem_range.1 hi)).1
    · obtain ⟨i, hi, rfl⟩ := List.mem_map.1 hy
      exact (hB i (List.mem_range.1 hi)).2.1
theorem slice_field {cl : List Value} {n : Nat} {t e : TypeId} {j : Nat} {y : Option (DataW H × List MemPlace)} {v : Value} {z : DataW H × List MemPlace} (h : DataW.trod enc Try.prog W base spare held n t ((cl.drop j).take (Try.prog.cellsOf t)) = y) (hc : Try.prog.cellsOf t = 1) (hu : Try.prog.underlying t = some (.slice e)) (hj : cl[j]? = some v) (hy : y = some z) :
    ∃ (A : Option Addr) (len cap : Nat), v = .slice A len cap ∧ DataW.trod enc Try.prog W base spare held n t [.slice A len cap] = some z := by
  subst hy
  have e : (cl.drop j).take 1 = [v] := by
    obtain ⟨hl, he⟩ := List.getElem?_eq_some_iff.1 hj
    rw [List.drop_eq_getElem_cons hl, he]
    rfl
  rw [hc, e] at h
  obtain ⟨A, len, cap, h1⟩ := slice_form hu h
  simp at h1
  subst h1
  exact ⟨A, len, cap, rfl, h⟩
set_option maxRecDepth 100000 in
set_option maxHeartbeats 1000000 in
theorem image_open_fit {b0 : Nat} {rc : Reach} {v : Value} {d : DataW H} {p : List MemPlace} (hv : Value.okWide Try.prog W rc b0 31 v) (h : DataW.Trod enc Try.prog W base spare held 31 v d p) (hw : ∀ n ∈ d.weights Try.prog 31, n ≤ reachBytes) :
    ∃ (im : Im) (s : Sl), v = .agg (im.cells s) ∧ ImAt (Old W) W im s ∧ (im.mem.length ≤ 140737488351232 ∧ im.pages.length * 88 ≤ 140737488351232 ∧ im.pairs.length * 24 ≤ 140737488351232 ∧ (∀ l ∈ im.pairs, l.length * 8 ≤ 140737488351232) ∧ im.heads.length * 8 ≤ 140737488351232 ∧ im.parts.length * 8 ≤ 140737488351232) := by
  obtain ⟨cs, rfl, hsz⟩ := okWide_struct Try.underlying31 hv
  obtain ⟨fuel, hf⟩ := h
  rw [cellsIm] at hsz
  obtain ⟨xs, n, -, hx, hl, hlen, hg⟩ := DataW.trod_struct Try.underlying31 hf
  obtain ⟨cl⟩ := cs
  match cl, hsz with
  | [c0, c1, c2, c3, c4, c5, c6, c7, c8], _ =>
    match xs, hlen with
    | [y0, y1, y2, y3, y4, y5, y6], _ =>
      have f0 : DataW.trod enc Try.prog W base spare held n 24 (([c0, c1, c2, c3, c4, c5, c6, c7, c8].drop 0).take (Try.prog.cellsOf 24)) = some y0 := hg 0 _ rfl
      rw [cellsCfg] at f0
      replace f0 : DataW.trod enc Try.prog W base spare held n 24 [c0, c1, c2] = some y0 := f0
      obtain ⟨ys, n', -, -, -, hylen, hyf⟩ := DataW.trod_struct Try.underlying24 f0
      match ys, hylen with
      | [z0, z1, z2], _ =>
        obtain ⟨m0, rfl, w0⟩ := one_field (hyf 0 _ rfl) cellsU Try.underlying22 (v := c0) rfl rfl
        obtain ⟨m1, rfl, w1⟩ := one_field (hyf 1 _ rfl) cellsI Try.underlying3 (v := c1) rfl rfl
        obtain ⟨m2, rfl, w2⟩ := one_field (hyf 2 _ rfl) cellsI Try.underlying3 (v := c2) rfl rfl
        obtain ⟨m3, rfl, w3⟩ := one_field (hg 1 _ rfl) cellsI Try.underlying3 (v := c3) rfl rfl
        obtain ⟨A, la, ca, rfl, f2⟩ := slice_field (hg 2 _ rfl) cellsSB Try.underlying25 (v := c4) rfl rfl
        obtain ⟨B, lb, cb, rfl, f3⟩ := slice_field (hg 3 _ rfl) cellsSP Try.underlying26 (v := c5) rfl rfl
        obtain ⟨C, lc, cc, rfl, f4⟩ := slice_field (hg 4 _ rfl) cellsSS Try.underlying27 (v := c6) rfl rfl
        obtain ⟨D, ld, cd, rfl, f5⟩ := slice_field (hg 5 _ rfl) cellsSU Try.underlying28 (v := c7) rfl rfl
        obtain ⟨E, le, ce, rfl, f6⟩ := slice_field (hg 6 _ rfl) cellsSI Try.underlying29 (v := c8) rfl rfl
        simp only [Prod.mk.injEq] at hx
        have hwk : ∀ (j : Nat) (t : TypeId) (y : DataW H × List MemPlace), ([24, 3, 25, 26, 27, 28, 29] : List TypeId)[j]? = some t → [y0, y1, y2, y3, y4, y5, y6][j]? = some y → ∀ k ∈ y.1.weights Try.prog t, k ≤ reachBytes := by
          intro j t y ht hy k hk
          refine hw k ?_
          rw [hx.1]
          simp only [DataW.weights, Try.underlying31]
          exact DataW.weights_mem_each (j := j) (t := t) ht (by rw [List.getElem?_map, hy]; rfl) k hk
        obtain ⟨p1, p2, L2, rfl, p4, p5⟩ := nums_open Try.underlying25 Try.underlying5 cellsU8 bytesU8 f2 (hwk 2 _ _ rfl rfl)
        obtain ⟨q1, q2, L3, rfl, q4, q5⟩ := pages_open f3 (hwk 3 _ _ rfl rfl)
        obtain ⟨r1, r2, L4, rfl, r4, r5, r6⟩ := rows_open f4 (hwk 4 _ _ rfl rfl)
        obtain ⟨s1, s2, L5, rfl, s4, s5⟩ := nums_open Try.underlying28 Try.underlying22 cellsU bytesU f5 (hwk 5 _ _ rfl rfl)
        obtain ⟨t1, t2, L6, rfl, t4, t5⟩ := nums_open Try.underlying29 Try.underlying3 cellsI bytesI f6 (hwk 6 _ _ rfl rfl)
        have hR : reachBytes = 140737488351232 := rfl
        rw [hR] at p2 q2 r2 s2 t2
        refine ⟨⟨m0, m1, m2, m3, L2, L3, L4, L5, L6⟩, ⟨A, ca, B, cb, C, cc, D, cd, E, ce⟩, rfl, ⟨p4, q4, r4, s4, t4, p1, q1, r1, s1, t1, ?_⟩, by show L2.length ≤ _; omega, q2, r2, fun y hy => (by have := r6 y hy; rw [hR] at this; exact this), s2, t2⟩
        refine ⟨u64_of w0, i64_of w1, i64_of w2, i64_of w3, fun y hy => ?_, q5, r5, fun y hy => u64_of (s5 y hy), fun y hy => i64_of (t5 y hy), ?_, ?_, ?_, fun y hy => ?_, ?_, ?_⟩
        · have := bounds_u8 (p5 y hy); omega
        · show L2.length ≤ _; omega
        · show L3.length ≤ _; omega
        · show L4.length ≤ _; omega
        · have := r6 y hy; rw [hR] at this; omega
        · show L5.length ≤ _; omega
        · show L6.length ≤ _; omega
set_option maxRecDepth 100000 in
theorem image_open {b0 : Nat} {rc : Reach} {v : Value} {d : DataW H} {p : List MemPlace} (hv : Value.okWide Try.prog W rc b0 31 v) (h : DataW.Trod enc Try.prog W base spare held 31 v d p) (hw : ∀ n ∈ d.weights Try.prog 31, n ≤ reachBytes) :
    ∃ (im : Im) (s : Sl), v = .agg (im.cells s) ∧ ImAt (Old W) W im s := by
  obtain ⟨im, s, h1, h2, -⟩ := image_open_fit hv h hw
  exact ⟨im, s, h1, h2⟩
end
theorem sized_at {H : Type} {ts : List TypeId} {ds : List (DataW H)} (h : (DataW.weightsEach Try.prog ts ds).all (· ≤ reachBytes) = true) {j : Nat} {t : TypeId} {d : DataW H} (ht : ts[j]? = some t) (hd : ds[j]? = some d) : ∀ n ∈ d.weights Try.prog t, n ≤ reachBytes := by
  intro n hn
  have := List.all_eq_true.1 h _ (DataW.weights_mem_each ht hd n hn)
  simpa using this
end Go.Proofs.Ytkgedpcipaogjaa.WB
end
section
namespace Go.Proofs.Ytkgedpcipaogjaa.WB
open Go Go.RowKit Go.Proofs.YtkgedpcipaogjaaW.PrintWords Go.Proofs.YtkgedpcipaogjaaW.PrintLast Go.Proofs.YtkgedpcipaogjaaW.PrintMore
set_option linter.unusedVariables false
set_option linter.unusedSimpArgs false
def RowB (F : Nat → Prop) (w : World) (A : Option Addr) (bs : List (Int × Int)) : Prop :=
  0 < bs.length → ∃ ad, A = some ad ∧ F ad.block ∧ ∀ i, i < bs.length → w.cell? (ad.add (i * 2)) = some (.int .u64 (bs.getD i (0, 0)).1) ∧ w.cell? ⟨(ad.add (i * 2)).block, (ad.add (i * 2)).off + 1, none⟩ = some (.int .u64 (bs.getD i (0, 0)).2)
theorem RowB.keep {F : Nat → Prop} {w w' : World} {A : Option Addr} {bs : List (Int × Int)} (h : RowB F w A bs) (hk : ∀ b, F b → w'.heap[b]? = w.heap[b]?) : RowB F w' A bs := fun h0 => by
  obtain ⟨ad, e, hF, hx⟩ := h h0
  refine ⟨ad, e, hF, fun i hi => ?_⟩
  obtain ⟨h1, h2⟩ := hx i hi
  refine ⟨(cell_keep (hk _ hF)).trans h1, (World.cell?_of_block ?_).trans h2⟩
  show w'.heap[(ad.add (i * 2)).block]? = w.heap[(ad.add (i * 2)).block]?
  rw [add_block]
  exact hk _ hF
theorem RowB.mono {F F' : Nat → Prop} {w : World} {A : Option Addr} {bs : List (Int × Int)} (h : RowB F w A bs) (hk : ∀ b, F b → F' b) : RowB F' w A bs := fun h0 => by
  obtain ⟨ad, e, hF, hx⟩ := h h0
  exact ⟨ad, e, hk _ hF, hx⟩
def bVals : List (Int × Int) → List Value
  | [] => []
  | b :: l => .int .u64 b.1 :: .int .u64 b.2 :: bVals l
theorem bVals_app : ∀ (l m : List (Int × Int)), bVals (l ++ m) = bVals l ++ bVals m
  | [], _ => rfl
  | b :: l, m => by rw [List.cons_append, bVals, bVals, bVals_app l m]; rfl
theorem bVals_one (b : Int × Int) : bVals [b] = [.int .u64 b.1, .int .u64 b.2] := rfl
theorem bVals_get : ∀ (l : List (Int × Int)) (i : Nat), i < l.length → (bVals l)[i * 2]? = some (.int .u64 (l.getD i (0, 0)).1) ∧ (bVals l)[i * 2 + 1]? = some (.int .u64 (l.getD i (0, 0)).2)
  | [], i, h => absurd h (Nat.not_lt_zero _)
  | b :: l, 0, _ => ⟨rfl, rfl⟩
  | b :: l, i + 1, h => by
    have := bVals_get l i (by simpa using h)
    rw [show (i + 1) * 2 = i * 2 + 1 + 1 by omega]
    exact this
theorem own_rowB {w : World} {base : Nat} {v : Value} {bs : List (Int × Int)} (h : w.ownsRow base 42 2 v bs.length (bVals bs)) :
    ∃ A cap, v = .slice A bs.length cap ∧ bs.length ≤ cap ∧ RowB (fun b => base ≤ b ∧ b < w.heap.size ∧ v.ownBlock = some b) w A bs := by
  rcases h.2 with ⟨hv, h0⟩ | ⟨g, cap, cur, hv, hb, hg, hc1, hc2, hc3, hc4⟩
  · refine ⟨none, 0, ?_, by omega, fun hp => by omega⟩
    rw [hv, h0]
  · refine ⟨some ⟨g, 0, none⟩, cap, hv, hc1, fun _ => ⟨⟨g, 0, none⟩, rfl, ⟨hb, blk_lt hg, by rw [hv]; rfl⟩, fun i hi => ?_⟩⟩
    have hx := bVals_get bs i hi
    rw [← hc4, List.getElem?_take, List.getElem?_take, if_pos (by omega), if_pos (by omega)] at hx
    have e : (⟨g, 0, none⟩ : Addr).add (i * 2) = ⟨g, i * 2, none⟩ := by unfold Addr.add; split <;> simp_all
    rw [e]
    exact ⟨(blk_cell hg _).trans (by simpa using hx.1), (blk_cell hg _).trans (by simpa using hx.2)⟩
end Go.Proofs.Ytkgedpcipaogjaa.WB
end
section
namespace Go.Proofs.Ytkgedpcipaogjaa.WB
open Go Go.RowKit Go.Proofs.YtkgedpcipaogjaaW.PrintWords Go.Proofs.YtkgedpcipaogjaaW.PrintLast Go.Proofs.YtkgedpcipaogjaaW.PrintMore
set_option linter.unusedVariables false
set_option linter.unusedSimpArgs false
section
variable {F : Nat → Prop} {gv : Nat} {im : Im} {s : Sl} {P : Value} {w : World}
def pageO (p : Pg) : Obj := .cells #[.int .i64 p.kd, .int .i64 p.od, .int .i64 p.cl, .int .i64 p.lv, .int .i64 p.nx, .int .i64 p.pv, .int .i64 p.fs, .int .u64 p.b0, .int .u64 p.b1, .int .u64 p.b2, .int .u64 p.b3] 39 (0, 0)
theorem page_var {w : World} {g : Nat} {p : Pg} (h : w.heap[g]? = some (pageO p)) :
    w.cell? ⟨g, 0, none⟩ = some (.int .i64 p.kd) ∧ w.cell? ⟨g, 1, none⟩ = some (.int .i64 p.od) ∧ w.cell? ⟨g, 2, none⟩ = some (.int .i64 p.cl) ∧ w.cell? ⟨g, 3, none⟩ = some (.int .i64 p.lv) ∧ w.cell? ⟨g, 4, none⟩ = some (.int .i64 p.nx) ∧ w.cell? ⟨g, 5, none⟩ = some (.int .i64 p.pv) ∧ w.cell? ⟨g, 6, none⟩ = some (.int .i64 p.fs) ∧ w.cell? ⟨g, 7, none⟩ = some (.int .u64 p.b0) ∧ w.cell? ⟨g, 8, none⟩ = some (.int .u64 p.b1) ∧ w.cell? ⟨g, 9, none⟩ = some (.int .u64 p.b2) ∧ w.cell? ⟨g, 10, none⟩ = some (.int .u64 p.b3) :=
  ⟨blk_cell h 0, blk_cell h 1, blk_cell h 2, blk_cell h 3, blk_cell h 4, blk_cell h 5, blk_cell h 6, blk_cell h 7, blk_cell h 8, blk_cell h 9, blk_cell h 10⟩
theorem wrap_u64 (n : Int) : IntKind.u64.wrap n = n % 18446744073709551616 := by simp [IntKind.wrap, IntKind.bits, IntKind.signed]
theorem wrap_u64_in {n : Int} (h0 : 0 ≤ n) (h1 : n < 18446744073709551616) : IntKind.u64.wrap n = n := by rw [wrap_u64]; exact Int.emod_eq_of_lt h0 h1
theorem below_var (w : World) (o : Obj) (n : Nat) : Below w.heap.size w ((w.alloc o).drewN n) := pw_below_drewN (((Below.refl w.heap.size w).alloc (Nat.le_refl _) _)) n
theorem len_i64 (h : im.Wf) : im.pages.length ≤ 9223372036854775807 := by have := h.lpages; omega
theorem shr256 {cl : Int} (h0 : 0 ≤ cl) (h7 : cl ≤ 7) : ∃ c : Nat, cl = c ∧ c ≤ 7 := ⟨cl.toNat, by omega, by omega⟩
set_option maxRecDepth 100000 in
theorem slab_c (h : V F gv im s P w) (i : Nat) (hi : i < im.pages.length) (h0 : 0 ≤ (im.pg i).cl) (h7 : (im.pg i).cl ≤ 7) :
    Calls Try.prog 27 #[.pointer (some ⟨gv, 0, none⟩), .int .i64 (i : Int)] w fun e w' => e = .returned (.tuple #[.int .i64 (cellsN (im.pg i).cl : Nat), .bool ((im.pg i).kd == 4)]) ∧ Below w.heap.size w w' := by
  obtain ⟨c0, c1, c2, c3, c4, c5, c6, c7, c8, c9⟩ := h.cell
  obtain ⟨ad, e, hF, p0, p1, p2, p3, p4, p5, p6, p7, p8, p9, p10⟩ := h.page i hi
  have hl := len_i64 h.im.wf
  rw [e] at c5
  have hiI : (i : Int) < (im.pages.length : Int) := by omega
  obtain ⟨c, hc, hc7⟩ := shr256 h0 h7
  generalize im.pg i = p at *
  have hnew := page_var (blk_new w (pageO p))
  unfold pageO at hnew
  obtain ⟨q0, q1, q2, q3, -⟩ := hnew
  rw [hc] at q2 p2
  clear h
  go_enter Try.func27, Try.ntmps27
  go_wp2
  go_quiet (fail)
  go_wp2
  go_ret2
  refine ⟨?_, below_var _ _ _⟩
  show Ending.returned (.tuple #[.int .i64 (256 / 2 ^ c), .bool (p.kd == 4)]) = _
  rw [hc]
  simp [cellsN]
set_option maxRecDepth 100000 in
theorem open_c (h : V F gv im s P w) (i : Nat) (hi : i < im.pages.length) (k : Int) :
    Calls Try.prog 81 #[.pointer (some ⟨gv, 0, none⟩), .int .i64 (i : Int), .int .i64 k] w fun e w' => e = .returned (.bool (im.openB i k)) ∧ w' = w := by
  obtain ⟨c0, c1, c2, c3, c4, c5, c6, c7, c8, c9⟩ := h.cell
  obtain ⟨ad, e, hF, p0, p1, p2, p3, p4, p5, p6, p7, p8, p9, p10⟩ := h.page i hi
  have hl := len_i64 h.im.wf
  rw [e] at c5
  have hiI : (i : Int) < (im.pages.length : Int) := by omega
  unfold Im.openB openP
  generalize im.pg i = p at *
  clear h
  by_cases hk : p.kd = 0
  · have hd : (p.kd == 0) = true := by simpa using hk
    go_enter Try.func81, Try.ntmps81
    go_wp2
    go_ret
    exact ⟨by simp [hk], rfl⟩
  · have hd : (p.kd == 0) = false := by simpa using hk
    go_enter Try.func81, Try.ntmps81
    go_wp2
    go_ret
    exact ⟨by simp [hk], rfl⟩
set_option maxRecDepth 100000 in
theorem size_c (h : V F gv im s P w) (h0 : 0 ≤ im.order) (h8 : im.order ≤ 8) :
    Calls Try.prog 79 #[.pointer (some ⟨gv, 0, none⟩)] w fun e w' => e = .returned (.int .u64 (4096 * 2 ^ im.order.toNat)) ∧ w' = w := by
  obtain ⟨c0, c1, c2, c3, c4, c5, c6, c7, c8, c9⟩ := h.cell
  obtain ⟨o, ho⟩ : ∃ o : Nat, im.order = o := ⟨im.order.toNat, by omega⟩
  rw [ho] at c2 h8 ⊢
  have h8' : o ≤ 8 := by omega
  have hp : 2 ^ o ≤ 2 ^ 8 := Nat.pow_le_pow_right (by decide) h8'
  clear h
  go_enter Try.func79, Try.ntmps79
  go_wp2
  go_ret
  refine ⟨?_, rfl⟩
  show Ending.returned (.int .u64 (IntKind.u64.wrap (4096 * 2 ^ o))) = _
  have e1 : (4096 : Int) * 2 ^ o = ((4096 * 2 ^ o : Nat) : Int) := by simp
  rw [Int.toNat_natCast, e1, wrap_u64, Int.emod_eq_of_lt (by omega) (by omega)]
set_option maxRecDepth 100000 in
theorem address_c (h : V F gv im s P w) (i : Nat) :
    Calls Try.prog 26 #[.pointer (some ⟨gv, 0, none⟩), .int .i64 (i : Int)] w fun e w' => e = .returned (.int .u64 (IntKind.u64.wrap (im.base + 4096 * i))) ∧ w' = w := by
  obtain ⟨c0, c1, c2, c3, c4, c5, c6, c7, c8, c9⟩ := h.cell
  clear h
  go_enter Try.func26, Try.ntmps26
  go_wp2
  go_ret
  refine ⟨?_, rfl⟩
  show Ending.returned (.int .u64 (IntKind.u64.wrap (im.base + IntKind.u64.wrap (IntKind.u64.wrap i * 4096)))) = _
  simp only [wrap_u64]
  congr 2
  omega
set_option maxRecDepth 100000 in
theorem page_no (h : V F gv im s P w) (p : Int) (hp : U64 p) (hn : ¬ (im.base ≤ p ∧ p - im.base < im.mem.length ∧ p % 4096 = 0)) :
    Calls Try.prog 86 #[.pointer (some ⟨gv, 0, none⟩), .int .u64 p] w fun e w' => e = .returned (.tuple #[.int .i64 0, .bool false]) ∧ Drawn0 w w' := by
  obtain ⟨c0, c1, c2, c3, c4, c5, c6, c7, c8, c9⟩ := h.cell
  have hb := h.im.wf.base
  have hm := h.im.wf.lmem
  clear h
  by_cases h1 : p < im.base
  · have hd : decide (p < im.base) = true := decide_eq_true h1
    clear hn
    go_enter Try.func86, Try.ntmps86
    go_wp2
    go_quiet (fail)
    go_wp2
    go_ret2
    exact ⟨rfl, _, rfl⟩
  · have hd : decide (p < im.base) = false := decide_eq_false h1
    have hw : IntKind.u64.wrap (p - im.base) = p - im.base := wrap_u64_in (by omega) (by have := hp.2; have := hb.1; omega)
    have hw2 : IntKind.u64.wrap ((im.mem.length : Nat) : Int) = ((im.mem.length : Nat) : Int) := wrap_u64_in (by omega) (by omega)
    by_cases h2 : p - im.base ≥ im.mem.length
    · have hd2 : decide (p - im.base ≥ (im.mem.length : Int)) = true := decide_eq_true h2
      clear hn
      go_enter Try.func86, Try.ntmps86
      go_wp2
      go_quiet (fail)
      go_wp2
      go_ret2
      exact ⟨rfl, _, rfl⟩
    · have hd2 : decide (p - im.base ≥ (im.mem.length : Int)) = false := decide_eq_false h2
      have ht : p.tmod 4096 = p % 4096 := Int.tmod_eq_emod_of_nonneg hp.1
      have hd3 : (p % 4096 != 0) = true := by simp; omega
      clear hn
      go_enter Try.func86, Try.ntmps86
      go_wp2
      go_quiet (fail)
      go_wp2
      go_ret2
      exact ⟨rfl, _, rfl⟩
set_option maxRecDepth 100000 in
theorem page_yes (h : V F gv im s P w) (p : Int) (hp : U64 p) (i : Nat) (h1 : p = im.base + 4096 * i) (h2 : (4096 * i : Int) < im.mem.length) (h3 : p % 4096 = 0) :
    Calls Try.prog 86 #[.pointer (some ⟨gv, 0, none⟩), .int .u64 p] w fun e w' => e = .returned (.tuple #[.int .i64 (i : Int), .bool true]) ∧ Drawn0 w w' := by
  obtain ⟨c0, c1, c2, c3, c4, c5, c6, c7, c8, c9⟩ := h.cell
  have hb := h.im.wf.base
  have hm := h.im.wf.lmem
  clear h
  have hd : decide (p < im.base) = false := decide_eq_false (by omega)
  have hw : IntKind.u64.wrap (p - im.base) = p - im.base := wrap_u64_in (by omega) (by have := hp.2; have := hb.1; omega)
  have hw2 : IntKind.u64.wrap ((im.mem.length : Nat) : Int) = ((im.mem.length : Nat) : Int) := wrap_u64_in (by omega) (by omega)
  have hd2 : decide (p - im.base ≥ (im.mem.length : Int)) = false := decide_eq_false (by omega)
  have ht : p.tmod 4096 = p % 4096 := Int.tmod_eq_emod_of_nonneg hp.1
  have hd3 : (p % 4096 != 0) = false := by simp [h3]
  have hpi : (p - im.base) / 4096 = (i : Int) := by omega
  have hfin : wrap64 (IntKind.u64.wrap ((p - im.base).tdiv 4096)) = (i : Int) := by
    rw [Int.tdiv_eq_ediv_of_nonneg (by omega), hpi, wrap_u64]
    unfold wrap64
    omega
  have HFIN := Lib.hid hfin
  clear hb hp h1 h2 h3 hm hfin hpi
  go_enter Try.func86, Try.ntmps86
  go_wp2
  go_quiet (fail)
  go_wp2
  go_ret2
  refine ⟨?_, _, rfl⟩
  show Ending.returned (.tuple #[.int .i64 (wrap64 (IntKind.u64.wrap ((p - im.base).tdiv 4096))), .bool true]) = _
  rw [HFIN.out]
set_option maxRecDepth 100000 in
theorem room_c (h : V F gv im s P w) (hgF : gv < w.heap.size) (hF : ∀ b, F b → b < w.heap.size) (i : Nat) (hi : i < im.pages.length) (h0 : 0 ≤ (im.pg i).cl) (h7 : (im.pg i).cl ≤ 7) (k : Int) :
    Calls Try.prog 90 #[.pointer (some ⟨gv, 0, none⟩), .int .i64 (i : Int), .int .i64 k] w fun e w' => e = .returned (.bool (im.roomB i k)) ∧ Below w.heap.size w w' := by
  have HS := Lib.hid (slab_c h i hi h0 h7)
  have HV := Lib.hid h
  have hl := len_i64 h.im.wf
  have hiI : (i : Int) < (im.pages.length : Int) := by omega
  obtain ⟨n, hn⟩ : ∃ n, cellsN (im.pg i).cl = n := ⟨_, rfl⟩
  obtain ⟨c, hc⟩ : ∃ c, (im.pg i).cl = c := ⟨_, rfl⟩
  obtain ⟨lv, hlv⟩ : ∃ lv, (im.pg i).lv = lv := ⟨_, rfl⟩
  obtain ⟨kd, hkd⟩ : ∃ kd, (im.pg i).kd = kd := ⟨_, rfl⟩
  have HN := Lib.hid hn
  have HC := Lib.hid hc
  have HLV := Lib.hid hlv
  have HKD := Lib.hid hkd
  rw [hn, hkd] at HS
  have HIF := Lib.hid hF
  have HGF := Lib.hid hgF
  clear h h0 h7 hn hc hlv hkd hF hgF
  have HR : im.roomB i k = (kd == 4 && (c == k && decide (lv < n))) := by
    unfold Im.roomB roomP
    rw [HC.out, HLV.out, HKD.out, ← HN.out, HC.out]
  rw [HR]
  clear HR
  have key : ∀ r : Bool, (kd == 4 && (c == k && decide (lv < n))) = r → Calls Try.prog 90 #[.pointer (some ⟨gv, 0, none⟩), .int .i64 (i : Int), .int .i64 k] w fun e w' => e = .returned (.bool r) ∧ Below w.heap.size w w' := by
    intro r hr
    have HR := Lib.hid hr
    clear hr
    by_cases hk : kd = 4
    · have hd : (kd == 4) = true := by simpa using hk
      have HK := Lib.hid hk
      clear hk
      by_cases hck : c = k
      · have hd2 : (c == k) = true := by simpa using hck
        have HCK := Lib.hid hck
        clear hck
        go_enter Try.func90, Try.ntmps90
        go_wp2_with (go_at_call 27; refine HS.out.mono ?_; rintro e w5 ⟨rfl, hb5⟩; have HB5 := Lib.hid hb5; have hv5 := HV.out.keep (hb5.block _ HGF.out) (fun b hb => hb5.block b (HIF.out b hb)); obtain ⟨c0, c1, c2, c3, c4, c5, c6, c7, c8, c9⟩ := hv5.cell; obtain ⟨ad, e5, hF, p0, p1, p2, p3, p4, p5, p6, p7, p8, p9, p10⟩ := hv5.page i hi; rw [e5] at c5; rw [HC.out] at p2; rw [HLV.out] at p3; rw [HKD.out] at p0; clear hv5 hb5)
        go_ret
        exact ⟨by rw [← HR.out, hd, hd2]; rfl, HB5.out⟩
      · have hd2 : (c == k) = false := by simpa using hck
        have HCK := Lib.hid hck
        clear hck
        go_enter Try.func90, Try.ntmps90
        go_wp2_with (go_at_call 27; refine HS.out.mono ?_; rintro e w5 ⟨rfl, hb5⟩; have HB5 := Lib.hid hb5; have hv5 := HV.out.keep (hb5.block _ HGF.out) (fun b hb => hb5.block b (HIF.out b hb)); obtain ⟨c0, c1, c2, c3, c4, c5, c6, c7, c8, c9⟩ := hv5.cell; obtain ⟨ad, e5, hF, p0, p1, p2, p3, p4, p5, p6, p7, p8, p9, p10⟩ := hv5.page i hi; rw [e5] at c5; rw [HC.out] at p2; rw [HLV.out] at p3; rw [HKD.out] at p0; clear hv5 hb5)
        go_ret
        exact ⟨by rw [← HR.out, hd, hd2]; rfl, HB5.out⟩
    · have hd : (kd == 4) = false := by simpa using hk
      have HK := Lib.hid hk
      clear hk
      go_enter Try.func90, Try.ntmps90
      go_wp2_with (go_at_call 27; refine HS.out.mono ?_; rintro e w5 ⟨rfl, hb5⟩; have HB5 := Lib.hid hb5; clear hb5)
      go_ret
      exact ⟨by rw [← HR.out, hd]; rfl, HB5.out⟩
  exact key _ rfl
theorem and_one (x : Int) (h0 : 0 ≤ x) (h1 : x < 18446744073709551616) : Go.bits .and .u64 x 1 = x % 2 := by
  obtain ⟨n, rfl⟩ := Int.eq_ofNat_of_zero_le h0
  have := Go.u64_and_nat n 1 (by omega) (by omega)
  rw [nat_mask1] at this
  exact this.trans (by omega)
set_option maxRecDepth 100000 in
theorem live_c (h : V F gv im s P w) (i : Nat) (hi : i < im.pages.length) (c : Nat) (hc : c < 256) :
    Calls Try.prog 28 #[.pointer (some ⟨gv, 0, none⟩), .int .i64 (i : Int), .int .i64 (c : Int)] w fun e w' => e = .returned (.bool ((im.pg i).bit c)) ∧ w' = w := by
  obtain ⟨c0, c1, c2, c3, c4, c5, c6, c7, c8, c9⟩ := h.cell
  obtain ⟨ad, e, hF, p0, p1, p2, p3, p4, p5, p6, p7, p8, p9, p10⟩ := h.page i hi
  have hl := len_i64 h.im.wf
  rw [e] at c5
  have hiI : (i : Int) < (im.pages.length : Int) := by omega
  obtain ⟨q, r, hq, hr, hqc⟩ : ∃ q r : Nat, c / 64 = q ∧ c % 64 = r ∧ q < 4 := ⟨_, _, rfl, rfl, by omega⟩
  have hwf := h.im.wf.pg hi
  have hw : ∃ x, (im.pg i).wd q = x ∧ U64 x ∧ w.cell? ⟨(ad.add (i * 11)).block, (ad.add (i * 11)).off + 7 + q, none⟩ = some (.int .u64 x) := by
    match q, hqc with
    | 0, _ => exact ⟨_, rfl, hwf.b0, p7⟩
    | 1, _ => exact ⟨_, rfl, hwf.b1, p8⟩
    | 2, _ => exact ⟨_, rfl, hwf.b2, p9⟩
    | 3, _ => exact ⟨_, rfl, hwf.b3, p10⟩
  obtain ⟨x, hx, hxu, hxc⟩ := hw
  have hq1 : ((c : Int)) / 64 = (q : Int) := by omega
  have hr1 : ((c : Int)) % 64 = (r : Int) := by omega
  have hr2 : Int.tmod (c : Int) 64 = (r : Int) := by rw [Int.tmod_eq_emod_of_nonneg (by omega)]; exact hr1
  have hq2 : Int.tdiv (c : Int) 64 = (q : Int) := by rw [Int.tdiv_eq_ediv_of_nonneg (by omega)]; exact hq1
  have hr64 : r < 64 := by omega
  have hqI : (q : Int) < 4 := by omega
  have hwq : wrap64 (q : Int) = q := by unfold wrap64; omega
  have HX := Lib.hid (show (Go.bits .and .u64 (x / 2 ^ r) 1 == 1) = (im.pg i).bit c from by
    have h0 : 0 ≤ x / 2 ^ r := Int.ediv_nonneg hxu.1 (Int.pow_nonneg (by decide))
    have h1 : x / 2 ^ r < 18446744073709551616 := Int.lt_of_le_of_lt (Int.ediv_le_self _ hxu.1) hxu.2
    rw [and_one _ h0 h1]
    unfold Pg.bit
    rw [hq, hr, hx])
  clear h hwf hx hxu hq hr
  go_enter Try.func28, Try.ntmps28
  go_wp2
  go_ret
  refine ⟨?_, rfl⟩
  rw [← HX.out]
  rfl
end
end Go.Proofs.Ytkgedpcipaogjaa.WB
end
section
namespace Go.Proofs.Ytkgedpcipaogjaa.WB
open Go Go.RowKit Go.Proofs.YtkgedpcipaogjaaW.PrintWords Go.Proofs.YtkgedpcipaogjaaW.PrintLast Go.Proofs.YtkgedpcipaogjaaW.PrintMore
set_option linter.unusedVariables false
set_option linter.unusedSimpArgs false
theorem below_grown {W w1 w2 : World} {row : Option Nat} (h : Below W.heap.size W w1) (hg : w1.grownBy w2 row) (hr : ∀ g, row = some g → W.heap.size ≤ g) : Below W.heap.size W w2 :=
  ⟨hg.os.trans h.os, hg.tape.trans h.tape, hg.output.trans h.output, Nat.le_trans h.size hg.size, fun b hb => (hg.block b (Nat.lt_of_lt_of_le hb h.size) (fun e => by have := hr b e.symm; omega)).trans (h.block b hb)⟩
theorem own_lt {w : World} {base n size : Nat} {e : TypeId} {v : Value} {xs : List Value} (h : w.ownsRow base e size v n xs) {g : Nat} (hg : v.ownBlock = some g) : base ≤ g ∧ g < w.heap.size := by
  rcases h.2 with ⟨hv, -⟩ | ⟨g', cap, cur, hv, hb, hx, -⟩
  · rw [hv] at hg; cases hg
  · rw [hv] at hg
    injection hg with hg
    subst hg
    exact ⟨hb, blk_lt hx⟩
theorem own_below {w w' : World} {base n size : Nat} {e : TypeId} {v : Value} {xs : List Value} (h : w.ownsRow base e size v n xs) (hb : Below w.heap.size w w') : w'.ownsRow base e size v n xs := by
  refine ⟨h.1, ?_⟩
  rcases h.2 with hv | ⟨g, cap, cur, hv, hb2, hx, hr⟩
  · exact Or.inl hv
  · exact Or.inr ⟨g, cap, cur, hv, hb2, (hb.block g (blk_lt hx)).trans hx, hr⟩
structure BlI (W : World) (base : Nat) (ov : Value) (bs : List (Int × Int)) (wi : World) : Prop where
  below : Below W.heap.size W wi
  own : wi.ownsRow base 42 2 ov bs.length (bVals bs)
theorem BlI.later {W : World} {base : Nat} {ov : Value} {bs : List (Int × Int)} {w w' : World} (h : BlI W base ov bs w) (hb : Below w.heap.size w w') : BlI W base ov bs w' :=
  ⟨h.below.trans (hb.mono h.below.size), own_below h.own hb⟩
theorem BlI.nil {W : World} (base : Nat) : BlI W base (.slice none 0 0) [] W := ⟨Below.refl _ _, World.ownsRow_nil _ _ _ _⟩
theorem BlI.step {W : World} {base : Nat} {ov : Value} {bs : List (Int × Int)} {w w2 : World} {b : Int × Int} {g cap n : Nat} (h : BlI W base ov bs w) (hn : n = bs.length) (hbase : W.heap.size ≤ base)
    (hown : w2.ownsRow base 42 2 (.slice (some ⟨g, 0, none⟩) (n + 1) cap) (n + 1) (bVals bs ++ [.int .u64 b.1, .int .u64 b.2])) (hg : w.grownBy w2 ov.ownBlock) : BlI W base (.slice (some ⟨g, 0, none⟩) (n + 1) cap) (bs ++ [b]) w2 := by
  refine ⟨below_grown h.below hg (fun g hg => Nat.le_trans hbase (own_lt h.own hg).1), ?_⟩
  rw [bVals_app, bVals_one, List.length_append, ← hn]
  exact hown
end Go.Proofs.Ytkgedpcipaogjaa.WB
end
section
namespace Go.Proofs.YtkgedpcipaogjaaW.PrintLast
open Go.Proofs.YtkgedpcipaogjaaW.PrintWords (Aside0)
def needsOf (md : Region.Mode) (o : Oper) : List Nat := (o.after.toList.filter (fun e => Region.binds md e)).map (fun e => e.on)
def clashOf (md : Region.Mode) (ops : Array Oper) (i : Nat) (oi : Oper) : List Nat := (List.range ops.size).filter fun j => !(j == i) && match ops[j]? with
  | some oj => !(oj.after.any (fun e => Region.binds md e && e.on == i) || oi.apart ops oj)
  | none => false
def rtab (md : Region.Mode) (ops : Array Oper) : Bool × List (List Nat × List Nat) := (Region.noSelect ops, (List.range ops.size).map fun i => match ops[i]? with
  | some o => (needsOf md o, clashOf md ops i o)
  | none => ([], []))
def freeT (T : List (List Nat × List Nat)) (l : List Bool) (i : Nat) : Bool := match T[i]? with
  | some r => r.2.all (fun j => l.getD j true)
  | none => false
section
variable {md : Region.Mode} {ops : Array Oper} {T : Bool × List (List Nat × List Nat)} {l l' li lj lk : Array Bool} {ds : List Nat} {i j k : Nat}
theorem gd (l : Array Bool) (j : Nat) (b : Bool) : l.getD j b = l.toList.getD j b := by simp [Array.getD_eq_getD_getElem?, List.getD_eq_getElem?_getD]
theorem rtab_length : (rtab md ops).2.length = ops.size := by simp [rtab]
theorem rtab_some {o : Oper} (h : ops[i]? = some o) : (rtab md ops).2[i]? = some (needsOf md o, clashOf md ops i o) := by
  have hi := (Array.getElem?_eq_some_iff.1 h).1
  unfold rtab
  rw [List.getElem?_map, List.getElem?_range hi, Option.map_some, h]
theorem rtab_none (h : ops[i]? = none) : (rtab md ops).2[i]? = none := by
  have hi : ops.size ≤ i := Array.getElem?_eq_none_iff.1 h
  exact List.getElem?_eq_none (by rw [rtab_length]; exact hi)
theorem free_eq : Region.free md ops l i = freeT (rtab md ops).2 l.toList i := by
  unfold Region.free freeT
  cases h : ops[i]? with
  | none => rw [rtab_none h]
  | some oi =>
    rw [rtab_some h]
    simp only [clashOf]
    rw [List.all_filter]
    congr 1
    funext j
    rw [gd]
    cases hj : ops[j]? with
    | none => cases (j == i) <;> cases (l.toList.getD j true) <;> simp
    | some oj =>
      cases (j == i) <;> cases (l.toList.getD j true) <;> cases (oj.after.any (fun e => Region.binds md e && e.on == i) || oi.apart ops oj) <;> simp_all
end
end Go.Proofs.YtkgedpcipaogjaaW.PrintLast
end
section
namespace Go.Proofs.YtkgedpcipaogjaaW.PrintWords
open Go.RowKit
section
variable {P : Program} {d : Nat} {xs ys : Array Value} {f : Field} {fs : List Field} {a b : Value} {r s : Bool} {w : World}
theorem eqf_last (hn : (f.name == "_") = false) (ha : (part f.type xs f.offset).run P w = .ok a w) (hb : (part f.type ys f.offset).run P w = .ok b w) (he : (Op.equalIn d f.type a b).run P w = .ok r w) : (Op.eqFields d xs ys [f]).run P w = .ok r w := by
  have hn' : f.name ≠ "_" := by simpa using hn
  simp only [Op.eqFields, if_pos hn', Sem.run_bind, ha, hb, he, Result.andThen_ok]
  cases r <;> simp
theorem eqf_cons (hn : (f.name == "_") = false) (ha : (part f.type xs f.offset).run P w = .ok a w) (hb : (part f.type ys f.offset).run P w = .ok b w) (he : (Op.equalIn d f.type a b).run P w = .ok r w) (hr : (Op.eqFields d xs ys fs).run P w = .ok s w) : (Op.eqFields d xs ys (f :: fs)).run P w = .ok (r && s) w := by
  have hn' : f.name ≠ "_" := by simpa using hn
  rw [Op.eqFields]
  simp only [if_pos hn', Sem.run_bind, ha, hb, he, Result.andThen_ok]
  cases r
  · simp
  · simpa using hr
theorem eqA_of {t : TypeId} {fs : Array Field} (hu : P.underlying t = some (.struct fs)) (hp : P.stoodInHeld t = false) (h : (Op.eqFields d xs ys fs.toList).run P w = .ok r w) : (Op.equalIn (d + 1) t (.agg xs) (.agg ys)).run P w = .ok r w := by
  have hf : P.fieldsOf t = fs := by simp [Program.fieldsOf, hu]
  rw [run_equalIn_struct (P := P) w d t xs ys (by rw [hf]; exact hu) hp, hf]
  exact h
end
end Go.Proofs.YtkgedpcipaogjaaW.PrintWords
end
section
namespace Go.Proofs.YtkgedpcipaogjaaW.PrintWords
theorem Reps.one {α : Type} {R : α → List Value → Prop} {ps : List α} {cs : List Value} {p : α} {v : Value} (hp : R p [v]) (h : Reps R 1 ps cs) : Reps R 1 (p :: ps) (v :: cs) := by
  refine ⟨by simp [h.1], fun j q hq => ?_⟩
  cases j with
  | zero =>
    simp only [List.getElem?_cons_zero, Option.some.injEq] at hq
    subst hq
    simpa using hp
  | succ j =>
    simp only [List.getElem?_cons_succ] at hq
    have h1 := h.2 j q hq
    simpa [Nat.mul_one] using h1
theorem Reps.front {α : Type} {R : α → List Value → Prop} {size : Nat} {ps : List α} {cs c all : List Value} {p : α} (hp : R p c) (hc : c.length = size) (h : Reps R size ps cs) (ha : c ++ cs = all) : Reps R size (p :: ps) all := by
  subst ha
  refine ⟨by rw [List.length_append, hc, h.1, List.length_cons, Nat.succ_mul, Nat.add_comm], fun j q hq => ?_⟩
  cases j with
  | zero =>
    simp only [List.getElem?_cons_zero, Option.some.injEq] at hq
    subst hq
    rw [Nat.zero_mul, List.drop_zero, List.take_append_of_le_length (by omega), List.take_of_length_le (by omega)]
    exact hp
  | succ j =>
    simp only [List.getElem?_cons_succ] at hq
    have h1 := h.2 j q hq
    rw [Nat.succ_mul, List.drop_append, List.drop_of_length_le (by rw [hc]; exact Nat.le_add_left _ _), List.nil_append, hc, Nat.add_sub_cancel]
    exact h1
theorem Reps.c2 {α : Type} {R : α → List Value → Prop} {ps : List α} {cs : List Value} {p : α} {va vb : Value} (hp : R p [va, vb]) (h : Reps R 2 ps cs) : Reps R 2 (p :: ps) (va :: vb :: cs) := Reps.front hp rfl h rfl
theorem Reps.c3 {α : Type} {R : α → List Value → Prop} {ps : List α} {cs : List Value} {p : α} {va vb vc : Value} (hp : R p [va, vb, vc]) (h : Reps R 3 ps cs) : Reps R 3 (p :: ps) (va :: vb :: vc :: cs) := Reps.front hp rfl h rfl
theorem Reps.c4 {α : Type} {R : α → List Value → Prop} {ps : List α} {cs : List Value} {p : α} {va vb vc vd : Value} (hp : R p [va, vb, vc, vd]) (h : Reps R 4 ps cs) : Reps R 4 (p :: ps) (va :: vb :: vc :: vd :: cs) := Reps.front hp rfl h rfl
theorem Reps.c5 {α : Type} {R : α → List Value → Prop} {ps : List α} {cs : List Value} {p : α} {va vb vc vd ve : Value} (hp : R p [va, vb, vc, vd, ve]) (h : Reps R 5 ps cs) : Reps R 5 (p :: ps) (va :: vb :: vc :: vd :: ve :: cs) := Reps.front hp rfl h rfl
theorem Reps.c6 {α : Type} {R : α → List Value → Prop} {ps : List α} {cs : List Value} {p : α} {va vb vc vd ve vf : Value} (hp : R p [va, vb, vc, vd, ve, vf]) (h : Reps R 6 ps cs) : Reps R 6 (p :: ps) (va :: vb :: vc :: vd :: ve :: vf :: cs) := Reps.front hp rfl h rfl
theorem Reps.c7 {α : Type} {R : α → List Value → Prop} {ps : List α} {cs : List Value} {p : α} {va vb vc vd ve vf vg : Value} (hp : R p [va, vb, vc, vd, ve, vf, vg]) (h : Reps R 7 ps cs) : Reps R 7 (p :: ps) (va :: vb :: vc :: vd :: ve :: vf :: vg :: cs) := Reps.front hp rfl h rfl
theorem Reps.c8 {α : Type} {R : α → List Value → Prop} {ps : List α} {cs : List Value} {p : α} {va vb vc vd ve vf vg vh : Value} (hp : R p [va, vb, vc, vd, ve, vf, vg, vh]) (h : Reps R 8 ps cs) : Reps R 8 (p :: ps) (va :: vb :: vc :: vd :: ve :: vf :: vg :: vh :: cs) := Reps.front hp rfl h rfl
theorem Reps.c9 {α : Type} {R : α → List Value → Prop} {ps : List α} {cs : List Value} {p : α} {va vb vc vd ve vf vg vh vi : Value} (hp : R p [va, vb, vc, vd, ve, vf, vg, vh, vi]) (h : Reps R 9 ps cs) : Reps R 9 (p :: ps) (va :: vb :: vc :: vd :: ve :: vf :: vg :: vh :: vi :: cs) := Reps.front hp rfl h rfl
theorem Reps.c10 {α : Type} {R : α → List Value → Prop} {ps : List α} {cs : List Value} {p : α} {va vb vc vd ve vf vg vh vi vj : Value} (hp : R p [va, vb, vc, vd, ve, vf, vg, vh, vi, vj]) (h : Reps R 10 ps cs) : Reps R 10 (p :: ps) (va :: vb :: vc :: vd :: ve :: vf :: vg :: vh :: vi :: vj :: cs) := Reps.front hp rfl h rfl
end Go.Proofs.YtkgedpcipaogjaaW.PrintWords
end
section
namespace Go.Proofs.YtkgedpcipaogjaaW.PrintLast
def up (b : Nat → Bool) (i : Nat) : Nat → Bool := fun j => if j = i then true else b j
end Go.Proofs.YtkgedpcipaogjaaW.PrintLast
end
section
namespace Go.Proofs.YtkgedpcipaogjaaW.PrintWords
open Go.RowKit
theorem own_apart {v1 v2 : Value} {n : Nat} (hlt : ∀ k, v1.ownBlock = some k → k < n) (hge : ∀ k, v2.ownBlock = some k → n ≤ k) : v1.ownBlock = none ∨ v1.ownBlock ≠ v2.ownBlock := by
  cases h : v1.ownBlock with
  | none => exact .inl rfl
  | some k => exact .inr (fun e => by have := hlt k h; have := hge k e.symm; omega)
end Go.Proofs.YtkgedpcipaogjaaW.PrintWords
namespace Go.Proofs.YtkgedpcipaogjaaW.PrintLast
end Go.Proofs.YtkgedpcipaogjaaW.PrintLast
end
section
namespace Go.Proofs.Ytkgedpcipaogjaa.PWalkChecks
open Go.RowKit Go.Proofs.YtkgedpcipaogjaaW.PrintWords Go.Proofs.YtkgedpcipaogjaaW.PrintLast Go.Proofs.YtkgedpcipaogjaaW.PrintMore
attribute [local go_sem] max2_int min2_int max_two min_two max_three min_three max_four min_four   
set_option linter.unusedVariables false
set_option linter.unusedSimpArgs false
def errW : Option Int → Value
  | none => .nilIface
  | some c => .iface 0 (.int .i64 c)
theorem errW_none : errW none = .nilIface := rfl
theorem errW_some (c : Int) : errW (some c) = .iface 0 (.int .i64 c) := rfl
end Go.Proofs.Ytkgedpcipaogjaa.PWalkChecks
end
