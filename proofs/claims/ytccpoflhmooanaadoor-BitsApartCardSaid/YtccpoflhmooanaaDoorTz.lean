/- The library's count of trailing zeros, walked where its table is laid; and the next bit of a word: plain. -/
import Derived.Test.YtccpoflhmooanaaDoorSetF
import Derived.Lib.TrailingZeros
import Derived.Laws.Bits64
namespace Go.Proofs.YtccpoflhmooanaaDoor.Tz
open Go.RowKit Go.Proofs.YtccpoflhmooanaaDoorW.PrintWords Go.Proofs.YtccpoflhmooanaaDoorW.PrintLast Go.Proofs.YtccpoflhmooanaaDoorW.PrintMore Go.Proofs.YtccpoflhmooanaaDoor.Nums Go.Proofs.YtccpoflhmooanaaDoor.Sets Go.Proofs.YtccpoflhmooanaaDoor.SetF Go.Proofs.YtccpoflhmooanaaDoor.Mem
set_option linter.unusedVariables false
set_option linter.unusedSimpArgs false

/-- The table as it is laid. -/
def Tab (w : World) : Prop := ∀ j, j < 64 → w.cell? ⟨0, j, none⟩ = some (.int .u8 (Lib.deBruijn64tab.getD j 0))
theorem Tab.pos {w : World} (h : Tab w) : 0 < w.heap.size := World.block_lt_of_cell? w _ (h 0 (by omega))
theorem Tab.step {w w' : World} (h : Tab w) (hb : w'.heap[0]? = w.heap[0]?) : Tab w' := fun j hj => (World.cell?_of_block (a := ⟨0, j, none⟩) hb).trans (h j hj)
theorem Tab.below {w w' : World} (h : Tab w) (hb : Below w.heap.size w w') : Tab w' := h.step (hb.block 0 h.pos)

set_option maxHeartbeats 1000000 in
theorem tz_core (x k idx : Nat) (w : World) (hx0 : ((x : Int) == 0) = false)
    (key : IntKind.u64.wrap (Go.bits BinOp.and IntKind.u64 (x : Int) (IntKind.u64.wrap (-(x : Int))) * 285870213051353865) / 288230376151711744 = (idx : Int))
    (hi : idx < 64) (hk : k < 64) (hcell : w.cell? ⟨0, idx, none⟩ = some (.int .u8 k)) :
    Calls Tryd.prog 36 #[.int .u64 x] w fun e w' => e = .returned (.int .i64 k) ∧ w = w' := by
  go_enter Tryd.func36, Tryd.ntmps36
  go_wp2_with (simp only [key])
  go_ret
  exact ⟨rfl, rfl⟩
theorem tz_key (x a : Nat) (hx : x < 18446744073709551616) (hx0 : x ≠ 0) (hlow : x &&& (18446744073709551616 - x) = a) :
    IntKind.u64.wrap (Go.bits BinOp.and IntKind.u64 (x : Int) (IntKind.u64.wrap (-(x : Int))) * 285870213051353865) / 288230376151711744 = ((a * 285870213051353865 % 18446744073709551616 / 288230376151711744 : Nat) : Int) := by
  have e1 : IntKind.u64.wrap (-(x : Int)) = ((18446744073709551616 - x : Nat) : Int) := by rw [wrapu]; omega
  rw [e1, u64_and_nat x _ hx (by omega), hlow, wrapu]
  omega
theorem tz_calls (x : Nat) (hx : x < 2 ^ 64) (hx0 : x ≠ 0) (w : World) (hT : Tab w) :
    Calls Tryd.prog 36 #[.int .u64 x] w fun e w' => e = .returned (.int .i64 (Lib.ctz 64 x)) ∧ w = w' := by
  obtain ⟨hlow, hk⟩ := Lib.lowest_bit 64 x hx0 hx
  obtain ⟨hi, htab⟩ := Lib.deBruijn64_at _ hk
  have hcell := hT _ hi
  rw [htab] at hcell
  exact tz_core x _ _ w (by simp; omega) (tz_key x _ hx hx0 hlow) hi hk hcell
/-- The bits below the trailing zeros' count are 0, the next is 1. -/
theorem ctz_bits (x : Nat) (hx : x < 2 ^ 64) (hx0 : x ≠ 0) : Lib.ctz 64 x < 64 ∧ x.testBit (Lib.ctz 64 x) = true ∧ ∀ j, j < Lib.ctz 64 x → x.testBit j = false := by
  obtain ⟨m, hm, hk⟩ := Lib.ctzFrom_spec 64 x (by omega) hx
  have e : Lib.ctz 64 x = Lib.ctzFrom 64 x := by simp [Lib.ctz, hx0]
  rw [e]
  refine ⟨hk, ?_, fun j hj => ?_⟩
  · rw [hm, ← hm, show x.testBit (Lib.ctzFrom 64 x) = (2 ^ Lib.ctzFrom 64 x * (2 * m + 1)).testBit (Lib.ctzFrom 64 x) by rw [← hm], Nat.mul_comm, Nat.testBit_mul_two_pow]
    simp [Nat.testBit_zero]
  · rw [show x.testBit j = (2 ^ Lib.ctzFrom 64 x * (2 * m + 1)).testBit j by rw [← hm], Nat.mul_comm, Nat.testBit_mul_two_pow]
    simp; omega
theorem zero_bits (x : Nat) (h : x = 0) (j : Nat) : x.testBit j = false := by subst h; simp

/-! ### the least one from i on -/
def nx (f : Nat → Bool) : Nat → Nat → Int
  | 0, _ => -1
  | d + 1, i => if f i then i else nx f d (i + 1)
/-- The least number of f from i on below m. -/
def nxt (f : Nat → Bool) (m i : Nat) : Int := nx f (m - i) i
theorem nxt_end (f : Nat → Bool) (m i : Nat) (h : m ≤ i) : nxt f m i = -1 := by unfold nxt; rw [show m - i = 0 by omega]; rfl
theorem nxt_hit (f : Nat → Bool) (m i : Nat) (h : i < m) (hf : f i = true) : nxt f m i = i := by
  unfold nxt; rw [show m - i = (m - i - 1) + 1 by omega, nx, if_pos hf]
theorem nxt_step (f : Nat → Bool) (m i : Nat) (hf : f i = false) : nxt f m i = nxt f m (i + 1) := by
  by_cases h : i < m
  · unfold nxt; rw [show m - i = (m - (i + 1)) + 1 by omega, nx, if_neg (by simp [hf])]
  · rw [nxt_end _ _ _ (by omega), nxt_end _ _ _ (by omega)]
theorem nxt_skip (f : Nat → Bool) (m : Nat) (d : Nat) : ∀ i, (∀ j, i ≤ j → j < i + d → f j = false) → nxt f m i = nxt f m (i + d) := by
  induction d with
  | zero => intro i h; rfl
  | succ d ih =>
    intro i h
    rw [nxt_step f m i (h i (by omega) (by omega)), ih (i + 1) (fun j h1 h2 => h j (by omega) (by omega))]
    congr 1; omega
theorem nxt_cases (f : Nat → Bool) (m : Nat) (d : Nat) : ∀ i, m - i = d → (nxt f m i = -1 ∧ ∀ j, i ≤ j → j < m → f j = false) ∨ ∃ q : Nat, nxt f m i = q ∧ i ≤ q ∧ q < m ∧ f q = true ∧ ∀ j, i ≤ j → j < q → f j = false := by
  induction d with
  | zero => intro i h; exact .inl ⟨nxt_end _ _ _ (by omega), fun j h1 h2 => by omega⟩
  | succ d ih =>
    intro i h
    cases hf : f i with
    | true => exact .inr ⟨i, nxt_hit f m i (by omega) hf, by omega, by omega, hf, fun j h1 h2 => by omega⟩
    | false =>
      rw [nxt_step f m i hf]
      rcases ih (i + 1) (by omega) with ⟨h1, h2⟩ | ⟨q, h1, h2, h3, h4, h5⟩
      · refine .inl ⟨h1, fun j h3 h4 => ?_⟩
        by_cases e : j = i
        · rw [e]; exact hf
        · exact h2 j (by omega) h4
      · refine .inr ⟨q, h1, by omega, h3, h4, fun j h6 h7 => ?_⟩
        by_cases e : j = i
        · rw [e]; exact hf
        · exact h5 j (by omega) h7
/-- The bits of a word that are left from i on. -/
theorem rest_bit (ws : List Int) (c j : Nat) (hj : c % 64 + j < 64) : (wd ws (c / 64) / 2 ^ (c % 64)).testBit j = bitN ws (c + j) := by
  unfold bitN
  rw [← Nat.shiftRight_eq_div_pow, Nat.testBit_shiftRight, show (c + j) / 64 = c / 64 by omega, show (c + j) % 64 = c % 64 + j by omega]
theorem rest_hit {ws : List Int} (hw : Wd ws) (m : Nat) (hc : SetF.Clean m ws) (c : Nat) (h0 : wd ws (c / 64) / 2 ^ (c % 64) ≠ 0) :
    nxt (bitN ws) m c = (c + Lib.ctz 64 (wd ws (c / 64) / 2 ^ (c % 64)) : Nat) ∧ Lib.ctz 64 (wd ws (c / 64) / 2 ^ (c % 64)) < 64 := by
  have hl := wd_lt hw (c / 64)
  have hl2 : wd ws (c / 64) / 2 ^ (c % 64) ≤ wd ws (c / 64) := Nat.div_le_self _ _
  obtain ⟨h1, h2, h3⟩ := ctz_bits _ (Nat.lt_of_le_of_lt hl2 hl) h0
  have hr : c % 64 + Lib.ctz 64 (wd ws (c / 64) / 2 ^ (c % 64)) < 64 := by
    apply Nat.lt_of_not_le
    intro h
    have h4 : (wd ws (c / 64)).testBit (c % 64 + Lib.ctz 64 (wd ws (c / 64) / 2 ^ (c % 64))) = false := Nat.testBit_lt_two_pow (Nat.lt_of_lt_of_le hl (Nat.pow_le_pow_right (by omega) h))
    rw [← Nat.testBit_shiftRight, Nat.shiftRight_eq_div_pow, h2] at h4
    exact absurd h4 (by simp)
  refine ⟨?_, h1⟩
  have hb : bitN ws (c + Lib.ctz 64 (wd ws (c / 64) / 2 ^ (c % 64))) = true := by rw [← rest_bit ws c _ hr]; exact h2
  have hm : c + Lib.ctz 64 (wd ws (c / 64) / 2 ^ (c % 64)) < m := by
    apply Nat.lt_of_not_le
    intro h
    rw [hc _ h] at hb
    exact absurd hb (by simp)
  rw [nxt_skip (bitN ws) m (Lib.ctz 64 (wd ws (c / 64) / 2 ^ (c % 64))) c (fun j h4 h5 => ?_)]
  · exact nxt_hit _ _ _ hm hb
  · obtain ⟨r, rfl⟩ : ∃ r, j = c + r := ⟨j - c, by omega⟩
    rw [← rest_bit ws c r (by omega)]
    exact h3 r (by omega)
theorem rest_none {ws : List Int} (m c : Nat) (h0 : wd ws (c / 64) / 2 ^ (c % 64) = 0) : nxt (bitN ws) m c = nxt (bitN ws) m (c + (64 - c % 64)) := by
  refine nxt_skip (bitN ws) m _ c (fun j h4 h5 => ?_)
  obtain ⟨r, rfl⟩ : ∃ r, j = c + r := ⟨j - c, by omega⟩
  rw [← rest_bit ws c r (by omega)]
  exact zero_bits _ h0 r

/-! ### how many -/
def cn (f : Nat → Bool) : Nat → Nat
  | 0 => 0
  | m + 1 => cn f m + if f m then 1 else 0
theorem cn_le (f : Nat → Bool) (m : Nat) : cn f m ≤ m := by
  induction m with
  | zero => exact Nat.le_refl _
  | succ m ih => unfold cn; split <;> omega
theorem cn_congr {f g : Nat → Bool} (m : Nat) (h : ∀ j, j < m → f j = g j) : cn f m = cn g m := by
  induction m with
  | zero => rfl
  | succ m ih => unfold cn; rw [ih (fun j hj => h j (by omega)), h m (by omega)]
theorem cn_add (f : Nat → Bool) (a b : Nat) : cn f (a + b) = cn f a + cn (fun j => f (a + j)) b := by
  induction b with
  | zero => rfl
  | succ b ih => rw [show a + (b + 1) = (a + b) + 1 from rfl, cn, ih, cn]; omega
theorem cn_none (f : Nat → Bool) (m : Nat) (h : ∀ j, j < m → f j = false) : cn f m = 0 := by
  induction m with
  | zero => rfl
  | succ m ih => unfold cn; rw [ih (fun j hj => h j (by omega)), h m (by omega)]; simp
theorem cn_pop (k : Nat) : ∀ x, cn (fun j => x.testBit j) k = Lib.popAux k (x % 2 ^ k) := by
  induction k with
  | zero => intro x; rfl
  | succ k ih =>
    intro x
    rw [show k + 1 = 1 + k by omega, cn_add]
    have e : (fun j => x.testBit (1 + j)) = fun j => (x / 2).testBit j := by
      funext j; rw [Nat.add_comm, Nat.testBit_succ]
    rw [e, ih (x / 2), show 1 + k = k + 1 by omega, Lib.popAux]
    have e1 : x % 2 ^ (k + 1) / 2 = x / 2 % 2 ^ k := by
      rw [Nat.pow_succ, Nat.mul_comm]; exact Nat.mod_mul_right_div_self x 2 (2 ^ k)
    have e2 : x % 2 ^ (k + 1) % 2 = x % 2 := by rw [Nat.pow_succ, Nat.mul_comm]; exact Nat.mod_mul_right_mod x 2 (2 ^ k)
    rw [e1, e2]
    congr 1
    simp only [cn, Nat.testBit_zero]
    have : x % 2 = 0 ∨ x % 2 = 1 := by omega
    rcases this with h | h <;> simp [h]
theorem cn_pop' (n x : Nat) (h : x < 2 ^ n) : cn (fun j => x.testBit j) n = Lib.popAux n x := by
  have := cn_pop n x
  rw [Nat.mod_eq_of_lt h] at this
  exact this
theorem cn_word' (n : Nat) (f : Nat → Bool) (a x : Nat) (h : x < 2 ^ n) (hf : ∀ j, j < n → f (a + j) = x.testBit j) : cn f (a + n) = cn f a + Lib.popAux n x := by
  rw [cn_add, ← cn_pop' n x h, cn_congr n hf]
theorem cn_word {ws : List Int} (hw : Wd ws) (k : Nat) : cn (bitN ws) (64 * (k + 1)) = cn (bitN ws) (64 * k) + Lib.popAux 64 (wd ws k) :=
  cn_word' 64 (bitN ws) (64 * k) (wd ws k) (wd_lt hw k) (fun j hj => by
    unfold bitN
    rw [show (64 * k + j) / 64 = k by omega, show (64 * k + j) % 64 = j by omega])
theorem cn_clean {ws : List Int} (m M : Nat) (hc : SetF.Clean m ws) (h : m ≤ M) : cn (bitN ws) M = cn (bitN ws) m := by
  obtain ⟨d, rfl⟩ : ∃ d, M = m + d := ⟨M - m, by omega⟩
  rw [cn_add, cn_none _ d (fun j _ => hc _ (by omega))]
  rfl

/-! ### one turned over -/
def flipW (ws : List Int) (i : Nat) : List Int := ws.set (i / 64) ((wd ws (i / 64) ^^^ 2 ^ (i % 64) : Nat) : Int)
theorem flip_lt {ws : List Int} (hw : Wd ws) (i : Nat) : wd ws (i / 64) ^^^ 2 ^ (i % 64) < 18446744073709551616 :=
  Nat.xor_lt_two_pow (n := 64) (wd_lt hw _) (Nat.pow_lt_pow_right (by omega) (by omega))
theorem flip_wd {ws : List Int} (hw : Wd ws) (i : Nat) : Wd (flipW ws i) := wd_set hw _ _ (by have := flip_lt hw i; omega)
theorem flip_length (ws : List Int) (i : Nat) : (flipW ws i).length = ws.length := by simp [flipW]
theorem flip_bit (ws : List Int) (i : Nat) (hi : i / 64 < ws.length) (j : Nat) : bitN (flipW ws i) j = if j = i then !bitN ws i else bitN ws j := by
  by_cases e : j / 64 = i / 64
  · have e1 : wd (flipW ws i) (j / 64) = wd ws (i / 64) ^^^ 2 ^ (i % 64) := by
      rw [e]
      simp only [wd, flipW]
      rw [List.getD_eq_getElem?_getD, List.getElem?_set_self (by simpa using hi)]
      rfl
    unfold bitN
    rw [e1, Nat.testBit_xor, Nat.testBit_two_pow, e]
    by_cases h : j = i
    · subst h; simp
    · rw [if_neg h, decide_eq_false (by omega)]; simp
  · have e1 : wd (flipW ws i) (j / 64) = wd ws (j / 64) := by
      unfold wd flipW
      rw [List.getD_eq_getElem?_getD, List.getElem?_set_ne (by omega), ← List.getD_eq_getElem?_getD]
    unfold bitN
    rw [e1, if_neg (by intro h; rw [h] at e; exact e rfl)]
theorem flip_clean {ws : List Int} {m : Nat} (hc : SetF.Clean m ws) (i : Nat) (hi : i < m) (hl : i / 64 < ws.length) : SetF.Clean m (flipW ws i) := by
  intro j hj
  rw [flip_bit ws i hl, if_neg (by omega)]; exact hc j hj
theorem flip_tbl (ws : List Int) (m i : Nat) (hi : i < m) (hl : i / 64 < ws.length) : tbl m (bitN (flipW ws i)) = (tbl m (bitN ws)).set i (!bitN ws i) := by
  symm
  refine tbl_ext (by rw [List.length_set, tbl_length]) (fun j hj => ?_)
  rw [List.getD_eq_getElem?_getD, List.getElem?_set, flip_bit ws i hl, tbl_length]
  by_cases h : i = j
  · subst h; rw [if_pos rfl, if_pos hi, if_pos rfl]; rfl
  · rw [if_neg h, if_neg (fun e => h e.symm), ← List.getD_eq_getElem?_getD, tbl_get _ _ _ hj]
theorem tbl_set_same (f : Nat → Bool) (m i : Nat) : (tbl m f).set i (f i) = tbl m f := by
  refine tbl_ext (by rw [List.length_set, tbl_length]) (fun j hj => ?_)
  rw [List.getD_eq_getElem?_getD, List.getElem?_set, tbl_length]
  by_cases h : i = j
  · subst h; rw [if_pos rfl, if_pos hj]; rfl
  · rw [if_neg h, ← List.getD_eq_getElem?_getD, tbl_get _ _ _ hj]
theorem cn_flip (ws : List Int) (i : Nat) (hl : i / 64 < ws.length) (hb : bitN ws i = true) (m : Nat) (hi : i < m) : cn (bitN (flipW ws i)) m + 1 = cn (bitN ws) m := by
  obtain ⟨d, rfl⟩ : ∃ d, m = i + (1 + d) := ⟨m - i - 1, by omega⟩
  rw [cn_add, cn_add, cn_add, cn_add]
  rw [cn_congr i (fun j hj => by rw [flip_bit ws i hl, if_neg (by omega)] : ∀ j, j < i → bitN (flipW ws i) j = bitN ws j)]
  rw [cn_congr d (fun j hj => by rw [flip_bit ws i hl, if_neg (by omega)] : ∀ j, j < d → bitN (flipW ws i) (i + (1 + j)) = bitN ws (i + (1 + j)))]
  have hz : bitN (flipW ws i) i = false := by rw [flip_bit ws i hl, if_pos rfl, hb]; rfl
  simp only [cn, Nat.add_zero, hz, hb]
  simp; omega
end Go.Proofs.YtccpoflhmooanaaDoor.Tz
