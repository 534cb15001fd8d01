/- Maps whose keys are whole numbers, told as functions: what each operation on them does. -/
import Derived.Test.YtihfblnjgaalcaaWW0
import Derived.Maps.Range
import Derived.Maps.RangeWalk
import Derived.Maps.OwnOps
import Derived.Maps.OwnSet
namespace Go.Proofs.Ytihfblnjgaalcaa.OM
open Go Go.RowKit Go.Maps
set_option linter.unusedVariables false
set_option linter.unusedSimpArgs false
/-- How a map's elements are told by whole numbers. -/
structure El where
 R : Value → Option (DataW Unit × List MemPlace)
 enc : Int → Value
 ok : Int → Prop
 tell : ∀ x, ok x → R (enc x) = some (.lit (.int .i64 x), [])
 inv : ∀ v y, R v = some y → ∃ x, ok x ∧ v = enc x ∧ y = (.lit (.int .i64 x), [])
def intR (q : IntKind) : Value → Option (DataW Unit × List MemPlace)
 | .int q' a => if q' = q then some (.lit (.int .i64 a), []) else none
 | _ => none
/-- Whole numbers of a kind. -/
def El.int (q : IntKind) : El where
 R := intR q
 enc := .int q
 ok _ := True
 tell x _ := by simp [intR]
 inv v y h := by
  unfold intR at h
  split at h
  ·split at h
   ·rename_i q' a hq
    subst hq
    cases h
    exact ⟨a, trivial, rfl, rfl⟩
   ·cases h
  ·cases h
/-- A pointer to a block's head, by the block's number; -1: nil. -/
def ptrV (x : Int) : Value := if x < 0 then .pointer none else .pointer (some ⟨x.toNat, 0, none⟩)
def ptrR : Value → Option (DataW Unit × List MemPlace)
 | .pointer none => some (.lit (.int .i64 (-1)), [])
 | .pointer (some ⟨b, 0, none⟩) => some (.lit (.int .i64 b), [])
 | _ => none
def El.ptr : El where
 R := ptrR
 enc := ptrV
 ok x := -1 ≤ x
 tell x hx := by
  unfold ptrV
  by_cases h : x < 0
  ·rw [if_pos h]
   obtain rfl : x = -1 := by omega
   rfl
  ·rw [if_neg h]
   show some (DataW.lit (Lit.int .i64 (x.toNat : Int)), ([] : List MemPlace)) = _
   rw [Int.toNat_of_nonneg (by omega)]
 inv v y h := by
  unfold ptrR at h
  split at h
  ·cases h
   exact ⟨-1, by omega, rfl, rfl⟩
  ·rename_i b
   cases h
   refine ⟨b, by omega, ?_, rfl⟩
   unfold ptrV
   rw [if_neg (by omega)]
   rfl
  ·cases h
theorem ptrV_nat (b : Nat) : ptrV (b : Int) = .pointer (some ⟨b, 0, none⟩) := by
 unfold ptrV
 rw [if_neg (by omega)]
 rfl
/-- What a map told as a function reads as. -/
def Tells (q : IntKind) (D : DataW Unit) (f : Int → Option Int) : Prop :=
 ∀ x, (Lit.int q x).wf = true → ∀ zd, D.atKey (.int q x) zd = match f x with
  | some c => .lit (.int .i64 c)
  | none => zd
/-- Block b is a map of s entries, told by f. -/
def MapI (P : Program) (E : El) (k : TypeId) (q : IntKind) (w : World) (b s : Nat) (f : Int → Option Int) : Prop :=
 ∃ D : DataW Unit, w.ownsMap P k E.R b s D ∧ Maps.size D = s ∧ Tells q D f
variable {P : Program} {E : El} {k e t : TypeId} {q : IntKind} {w w' : World} {b s : Nat} {f : Int → Option Int}
theorem size_of_owns {n : Nat} {D : DataW Unit} {R : Value → Option (DataW Unit × List MemPlace)} (h : w.ownsMap P k R b n D) : w.ownsMap P k R b (Maps.size D) D := by
 obtain ⟨es, clock, hb, F, hs, rfl⟩ := h
 refine ⟨es, clock, hb, F, ?_, rfl⟩
 rw [size_eq, length_sorted]
 simp
theorem Tells.has {D : DataW Unit} (h : Tells q D f) {x : Int} (hx : (Lit.int q x).wf = true) : Maps.has D (.int q x) = (f x).isSome := by
 have h1 := h x hx
 cases hf : f x with
 | some c => rw [hf] at h1; exact has_true_of_atKey h1
 | none => rw [hf] at h1; exact has_false_of_atKey h1
theorem MapI.of_block (h : MapI P E k q w b s f) (hb : w'.heap[b]? = w.heap[b]?) : MapI P E k q w' b s f := by
 obtain ⟨D, ⟨es, clock, h1, h2⟩, h3, h4⟩ := h
 exact ⟨D, ⟨es, clock, hb.trans h1, h2⟩, h3, h4⟩
theorem MapI.lt' (h : MapI P E k q w b s f) : b < w.heap.size := by
 obtain ⟨D, h1, h2⟩ := h
 exact h1.lt
theorem MapI.alloc (h : MapI P E k q w b s f) (o : Obj) : MapI P E k q (w.alloc o) b s f := h.of_block (Below.heap_alloc _ _ _ h.lt')
theorem MapI.drew (h : MapI P E k q w b s f) : MapI P E k q w.drew b s f := h.of_block rfl
theorem MapI.lt (h : MapI P E k q w b s f) : b < w.heap.size := by
 obtain ⟨D, h1, h2⟩ := h
 exact h1.lt
theorem MapI.made (w : World) (P : Program) (E : El) (k : TypeId) (q : IntKind) : MapI P E k q (w.alloc (.map #[] 0)) w.heap.size 0 (fun _ => none) :=
 ⟨.map [], World.ownsMap_made w P k E.R, rfl, fun x hx zd => rfl⟩
/-- A key that is there. -/
theorem MapI.look (h : MapI P E k q w b s f) (K : Keyed P k) (hk : P.underlying k = some (.int q)) (ht : P.underlying t = some (.map k e)) {z : Int} (hzo : E.ok z) (hz : (zeroValue e).run P w = .ok (E.enc z) w) {x : Int} (hx : (Lit.int q x).wf = true) :
  (Instr.lookup t (.map (some b)) (.int q x) false).run P w = .ok (E.enc ((f x).getD z)) w := by
 obtain ⟨D, h1, h2, h3⟩ := h
 obtain ⟨v, ps, hrun, hv⟩ := h1.lookup K ht hz (E.tell z hzo) (keyOf_int_mk hk hx)
 obtain ⟨c, hc, rfl, hy⟩ := E.inv v _ hv
 rw [hrun]
 have hat := h3 x hx (.lit (.int .i64 z))
 simp only [Prod.mk.injEq] at hy
 rw [hat] at hy
 have e1 : c = (f x).getD z := by
  cases hf : f x with
  | some c' => rw [hf] at hy; simpa using hy.1.symm
  | none => rw [hf] at hy; simpa using hy.1.symm
 rw [e1]
/-- With 'ok'. -/
theorem MapI.look_ok (h : MapI P E k q w b s f) (K : Keyed P k) (hk : P.underlying k = some (.int q)) (ht : P.underlying t = some (.map k e)) {z : Int} (hzo : E.ok z) (hz : (zeroValue e).run P w = .ok (E.enc z) w) {x : Int} (hx : (Lit.int q x).wf = true) :
  (Instr.lookup t (.map (some b)) (.int q x) true).run P w = .ok (.tuple #[E.enc ((f x).getD z), .bool (f x).isSome]) w := by
 obtain ⟨D, h1, h2, h3⟩ := h
 obtain ⟨v, ps, hrun, hv⟩ := h1.look_ok K ht hz (E.tell z hzo) (keyOf_int_mk hk hx)
 obtain ⟨c, hc, rfl, hy⟩ := E.inv v _ hv
 rw [hrun, h3.has hx]
 have hat := h3 x hx (.lit (.int .i64 z))
 simp only [Prod.mk.injEq] at hy
 rw [hat] at hy
 have e1 : c = (f x).getD z := by
  cases hf : f x with
  | some c' => rw [hf] at hy; simpa using hy.1.symm
  | none => rw [hf] at hy; simpa using hy.1.symm
 rw [e1]
/-- f with c laid at x. -/
def upd (f : Int → Option Int) (x c : Int) (y : Int) : Option Int := if y = x then some c else f y
theorem keyLit (x : Int) : WideAt.IsKeyLit (.int q x) := by simp [WideAt.IsKeyLit]
theorem MapI.put (h : MapI P E k q w b s f) (K : Keyed P k) (hk : P.underlying k = some (.int q)) (ht : P.underlying t = some (.map k e)) (hs : s < maxLen) {x c : Int} (hx : (Lit.int q x).wf = true) (hc : E.ok c) :
  ∃ w', (Instr.mapUpdate t (.map (some b)) (.int q x) (E.enc c)).run P w = .ok () w' ∧ MapI P E k q w' b (if (f x).isSome then s else s + 1) (upd f x c) ∧ w.grownBy w' (some b) := by
 obtain ⟨D, h1, h2, h3⟩ := h
 obtain ⟨w', hrun, r1, r2⟩ := h1.update K ht hs (keyOf_int_mk hk hx) (E.tell c hc)
 have hsz : Maps.size (D.put (.int q x) (.lit (.int .i64 c))) = if (f x).isSome then s else s + 1 := by
  rw [size_put (h1.tidy K), h3.has hx, h2]
 refine ⟨w', hrun, ⟨_, ?_, hsz, fun y hy zd => ?_⟩, r2⟩
 ·rw [← hsz]; exact size_of_owns r1
 ·unfold upd
  by_cases e1 : y = x
  ·subst e1
   rw [if_pos rfl, atKey_put_same (h1.isMap) (keyLit y)]
  ·rw [if_neg e1, atKey_put_other (by intro e2; injection e2 with _ e3; exact e1 e3), h3 y hy]
theorem MapI.len (h : MapI P E k q w b s f) (ht : P.underlying t = some (.map k e)) (ty : TypeId) : (Builtin.len_ #[t] ty #[.map (some b)]).run P w = .ok (.int .i64 s) w := by
 obtain ⟨D, h1, h2, h3⟩ := h
 rw [h1.len ht ty, h2]
/-- A range under way: r is the iterator's block; left: which keys are still to come. -/
def RangeI (P : Program) (E : El) (k : TypeId) (q : IntKind) (w : World) (b r s : Nat) (f : Int → Option Int) (left : Int → Bool) (cnt : Nat) : Prop :=
 ∃ (D : DataW Unit) (L : Lit → Bool), w.ranges P k E.R b r s D L cnt ∧ Maps.size D = s ∧ Tells q D f ∧ ∀ x, (Lit.int q x).wf = true → L (.int q x) = left x
theorem RangeI.map {r cnt : Nat} {left : Int → Bool} (h : RangeI P E k q w b r s f left cnt) : MapI P E k q w b s f := by
 obtain ⟨D, L, h1, h2, h3, h4⟩ := h
 exact ⟨D, h1.owns, h2, h3⟩
theorem RangeI.kept {r cnt : Nat} {left : Int → Bool} (h : RangeI P E k q w b r s f left cnt) (hb : w'.heap[b]? = w.heap[b]?) (hr : w'.heap[r]? = w.heap[r]?) : RangeI P E k q w' b r s f left cnt := by
 obtain ⟨D, L, ⟨es, clock, since, seen, c0, a1, a2, a3, a4, a5, a6⟩, h2⟩ := h
 exact ⟨D, L, ⟨es, clock, since, seen, c0, hb.trans a1, a2, a3, a4, hr.trans a5, a6⟩, h2⟩
theorem RangeI.lt {r cnt : Nat} {left : Int → Bool} (h : RangeI P E k q w b r s f left cnt) : r < w.heap.size := by
 obtain ⟨D, L, h1, h2⟩ := h
 exact h1.lt
/-- 'range m'. -/
theorem wpList_rangeI {ops : Array Oper} {rest : List Oper} {o : Oper} {a : Act} {Q : Exit → Act → World → Prop} (hg : o.guard = none) (m : Operand) (t : TypeId) (hop : o.op = Op.range t m) (E : El) (k e : TypeId) (q : IntKind) (K : Keyed P k) (ht : P.underlying t = some (.map k e)) (b s : Nat) (f : Int → Option Int)
  (hm : a.eval m = .map (some b)) (hown : MapI P E k q w b s f)
  (hK : ∀ w' cnt r, r = w.heap.size → RangeI P E k q w' b r s f (fun x => (f x).isSome) cnt → cnt = s → w.grownBy w' none → w'.heap.size = w.heap.size + 1 → wpList P ops Q rest (a.put o.dst (.pointer (some ⟨r, 0, none⟩))) w') :
  wpList P ops Q (o :: rest) a w := by
 obtain ⟨D, h1, h2, h3⟩ := hown
 refine wpList_range_own w hg m t hop k e K ht E.R b s D hm h1 fun w' hr hg2 hs2 => ?_
 exact hK w' (Maps.size D) _ rfl ⟨D, Maps.has D, hr, h2, h3, fun x hx => h3.has hx⟩ h2 hg2 hs2
/-- The step of a range over a map. -/
theorem wpList_nextI {ops : Array Oper} {rest : List Oper} {o : Oper} {a : Act} {Q : Exit → Act → World → Prop} (hg : o.guard = none) (it : Operand) (hop : o.op = Op.next it false) (E : El) (k : TypeId) (q : IntKind) (K : Keyed P k) (hk : P.underlying k = some (.int q))
  (b r s : Nat) (f : Int → Option Int) (left : Int → Bool) (cnt : Nat) (hit : a.eval it = .pointer (some ⟨r, 0, none⟩)) (h : RangeI P E k q w b r s f left cnt)
  (hDone : cnt = 0 → (∀ x, (Lit.int q x).wf = true → left x = false) → wpList P ops Q rest (a.put o.dst (.tuple #[.bool false])) w)
  (hMore : ∀ (x c : Int) (v : Value) (w' : World) (cnt' : Nat), v = E.enc c → (Lit.int q x).wf = true → left x = true → f x = some c → E.ok c → RangeI P E k q w' b r s f (fun y => left y && !decide (y = x)) cnt' → cnt' < cnt →
   w.grownBy w' (some r) → w'.heap.size = w.heap.size → (Instr.entry (.pointer (some ⟨r, 0, none⟩))).run P w' = .ok (.tuple #[.int q x, v]) w' → wpList P ops Q rest (a.put o.dst (.tuple #[.bool true, .int q x, v])) w') :
  wpList P ops Q (o :: rest) a w := by
 obtain ⟨D, L, h1, h2, h3, h4⟩ := h
 refine wpList_next_ranges w hg it hop k K E.R (Value.int q) E.enc (fun key kl hkey => by obtain ⟨x, rfl, _⟩ := Maps.keyOf_int_inv hk hkey; exact ⟨x, rfl⟩) (fun v y hv => by obtain ⟨x, _, hx, _⟩ := E.inv v y hv; exact ⟨x, hx⟩) b r s D L cnt hit h1
  (fun hc hl => hDone hc (fun x hx => by rw [← h4 x hx, hl])) (fun x c kl y w' cnt' hkey hlk hv hat hrg hlt hgr hsz hen => ?_)
 obtain ⟨x', ex, rfl, hwx⟩ := Maps.keyOf_int_inv hk hkey
 cases ex
 obtain ⟨c', hc', ec, rfl⟩ := E.inv _ y hv
 have hfx : f x = some c' := by
  have hat1 := hat (.lit (.int .i64 (c' + 1)))
  rw [h3 x hwx] at hat1
  cases hf : f x with
  | none => rw [hf] at hat1; injection hat1 with h5; injection h5 with _ h6; omega
  | some c2 => rw [hf] at hat1; simp at hat1; rw [hat1]
 rw [ec] at hen ⊢
 refine hMore x c' _ w' cnt' rfl hwx ((h4 x hwx).symm.trans hlk) hfx hc' ⟨D, _, hrg, h2, h3, fun y hy => ?_⟩ hlt hgr hsz hen
 rw [h4 y hy]
 by_cases e1 : y = x
 ·subst e1; rw [WideAt.sameKey_self (keyLit y)]; simp
 ·rw [Maps.sameKey_ne (by intro e2; injection e2 with _ e3; exact e1 e3)]; simp [e1]
theorem wpList_putI {ops : Array Oper} {rest : List Oper} {o : Oper} {a : Act} {Q : Exit → Act → World → Prop} (hg : o.guard = none) (m x v : Operand) (t : TypeId) (hop : o.op = Op.mapUpdate t m x v) (E : El) (k e : TypeId) (q : IntKind) (K : Keyed P k) (hk : P.underlying k = some (.int q)) (ht : P.underlying t = some (.map k e)) (b s : Nat) (f : Int → Option Int)
  (hm : a.eval m = .map (some b)) (hown : MapI P E k q w b s f) (hs : s < maxLen) (y c : Int) (hx : a.eval x = .int q y) (hv : a.eval v = E.enc c) (hy : (Lit.int q y).wf = true) (hc : E.ok c)
  (hK : ∀ w', MapI P E k q w' b (if (f y).isSome then s else s + 1) (upd f y c) → w.grownBy w' (some b) → wpList P ops Q rest (a.put o.dst undef) w') :
  wpList P ops Q (o :: rest) a w := by
 refine wpList_plain hg fun K' hK' => ?_
 obtain ⟨w', hrun, r1, r2⟩ := hown.put K hk ht hs hy hc
 unfold Oper.wp
 simp [execOp, hop, hm, hx, hv, hrun, Result.andThen]
 exact hK' _ _ (hK w' r1 r2)
theorem wpList_lookI {ops : Array Oper} {rest : List Oper} {o : Oper} {a : Act} {Q : Exit → Act → World → Prop} (hg : o.guard = none) (m x : Operand) (t : TypeId) (hop : o.op = Op.lookup t m x false) (E : El) (k e : TypeId) (q : IntKind) (K : Keyed P k) (hk : P.underlying k = some (.int q)) (ht : P.underlying t = some (.map k e)) (z : Int) (hzo : E.ok z) (hz : (zeroValue e).run P w = .ok (E.enc z) w) (b s : Nat) (f : Int → Option Int)
  (hm : a.eval m = .map (some b)) (hown : MapI P E k q w b s f) (y : Int) (hx : a.eval x = .int q y) (hy : (Lit.int q y).wf = true) (v : Value) (hv : E.enc ((f y).getD z) = v)
  (hK : wpList P ops Q rest (a.put o.dst v) w) :
  wpList P ops Q (o :: rest) a w := by
 refine wpList_plain hg fun K' hK' => ?_
 have hrun := hown.look (t := t) (e := e) K hk ht hzo hz hy
 rw [hv] at hrun
 unfold Oper.wp
 simp [execOp, hop, hm, hx, hrun, Result.andThen]
 exact hK' _ _ hK
end Go.Proofs.Ytihfblnjgaalcaa.OM
