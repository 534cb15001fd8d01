/- The sets of package bits: what each call on one does to memory. -/
import Derived.Test.YtccpoflhmooanaaDoorMem
import Derived.Test.YtccpoflhmooanaaDoorRZ
import Derived.Test.YtccpoflhmooanaaDoorNumB
import Derived.WalkSpells
import Derived.WalkLawsBesides
import Derived.Laws.CopyOwn
import Derived.Lib.Hide
import Derived.BigRegion
namespace Go.Proofs.YtccpoflhmooanaaDoor.Sets
open Go.RowKit Go.Proofs.YtccpoflhmooanaaDoorW.PrintWords Go.Proofs.YtccpoflhmooanaaDoorW.PrintLast Go.Proofs.YtccpoflhmooanaaDoorW.PrintMore Go.Proofs.YtccpoflhmooanaaDoor.Mem
set_option linter.unusedVariables false
set_option linter.unusedSimpArgs false

theorem ret_bool {a b : Bool} (h : a = b) : Ending.returned (.bool a) = .returned (.bool b) := by rw [h]
theorem ret_int {k : IntKind} {a b : Int} (h : a = b) : Ending.returned (.int k a) = .returned (.int k b) := by rw [h]
/-- Words of 64 bits. -/
def Wd (ws : List Int) : Prop := ∀ i : Nat, 0 ≤ ws.getD i 0 ∧ ws.getD i 0 < 18446744073709551616
/-- Block b is a set of length n with the words ws, all its blocks in F. -/
def SetR (F : Nat → Prop) (w : World) (b : Nat) (n : Int) (ws : List Int) : Prop :=
  F b ∧ (0 ≤ n ∧ n ≤ 1048576) ∧ (ws.length : Int) = (n + 63) / 64 ∧ Wd ws ∧
    ∃ v, w.heap[b]? = some (.cells #[.int .i64 n, v] 61 (0, 0)) ∧ (Kd.int .u64).R 24 w 0 (fun k => F k ∧ k ≠ b) v ws

theorem SetR.mono {F G : Nat → Prop} {w : World} {b : Nat} {n : Int} {ws : List Int} (h : SetR F w b n ws) (hs : ∀ k, F k → G k) : SetR G w b n ws := by
  obtain ⟨h1, h2, h3, h4, v, h5, h6⟩ := h
  exact ⟨hs _ h1, h2, h3, h4, v, h5, Kd.R_mono h6 (fun k hk => ⟨hs k hk.1, hk.2⟩)⟩
theorem SetR.step {F : Nat → Prop} {w w' : World} {b : Nat} {n : Int} {ws : List Int} (h : SetR F w b n ws) (hm : ∀ k, F k → k < w.heap.size → w'.heap[k]? = w.heap[k]?) : SetR F w' b n ws := by
  obtain ⟨h1, h2, h3, h4, v, h5, h6⟩ := h
  exact ⟨h1, h2, h3, h4, v, (hm b h1 (blk_lt h5)).trans h5, Kd.R_step h6 (fun k hk => hm k hk.1)⟩
theorem SetR.upd {F G : Nat → Prop} {w w' : World} {b : Nat} {n : Int} {ws : List Int} (h : SetR F w b n ws) (hu : Upd G w w') (hn : ∀ k, F k → ¬ G k) : SetR F w' b n ws := h.step (fun k hk hl => hu.block k hl (hn k hk))
theorem SetR.bound {F : Nat → Prop} {w : World} {b : Nat} {n : Int} {ws : List Int} (h : SetR F w b n ws) : SetR (fun k => F k ∧ k < w.heap.size) w b n ws := by
  obtain ⟨h1, h2, h3, h4, v, h5, h6⟩ := h
  exact ⟨⟨h1, blk_lt h5⟩, h2, h3, h4, v, h5, Kd.R_mono (Kd.R_bound h6) (fun k hk => ⟨⟨hk.1.1, hk.2.2.1⟩, hk.1.2⟩)⟩

theorem wd_set {ws : List Int} (h : Wd ws) (i : Nat) (x : Int) (hx : 0 ≤ x ∧ x < 18446744073709551616) : Wd (ws.set i x) := by
  intro j
  simp only [List.getD_eq_getElem?_getD, List.getElem?_set]
  by_cases e : i = j
  · by_cases hl : i < ws.length
    · simp [e, hx]; rw [if_pos (by omega)]; exact hx
    · simp [e]; rw [if_neg (by omega)]; simp
  · rw [if_neg e]; have := h j; rwa [List.getD_eq_getElem?_getD] at this
theorem SetR.put {F : Nat → Prop} {w : World} {b : Nat} {n : Int} {ws : List Int} (h : SetR F w b n ws) {g cap : Nat}
    (h5 : w.heap[b]? = some (.cells #[.int .i64 n, .slice (some ⟨g, 0, none⟩) ws.length cap] 61 (0, 0)))
    (h6 : (Kd.int .u64).R 24 w 0 (fun k => F k ∧ k ≠ b) (.slice (some ⟨g, 0, none⟩) ws.length cap) ws) (i : Nat) (hi : i < ws.length) (x : Int) (hx : 0 ≤ x ∧ x < 18446744073709551616) :
    SetR F (w.setCell ⟨g, i, none⟩ (.int .u64 x)) b n (ws.set i x) ∧ Upd F w (w.setCell ⟨g, i, none⟩ (.int .u64 x)) := by
  obtain ⟨h1, h2, h3, h4, -⟩ := h
  have hg := h6.1 g (by simp [Value.ownBlock])
  obtain ⟨hp, hgr⟩ := Kd.R_put h6 (i : Int) x
  simp only [Int.toNat_natCast] at hp hgr
  refine ⟨⟨h1, h2, by rw [List.length_set]; exact h3, wd_set h4 i x hx, _, blk_grown h5 hgr (by simpa using Ne.symm hg.2), hp⟩, ?_⟩
  exact (Upd.refl _ _).grown hgr (fun k hk => by injection hk with hk; exact .inl (hk ▸ hg.1))
theorem mod_wd (x p : Int) (h : 0 ≤ x ∧ x < 18446744073709551616) : 0 ≤ x % 2 ^ (p).toNat ∧ x % 2 ^ (p).toNat < 18446744073709551616 := by
  have hp : (0 : Int) < 2 ^ p.toNat := Int.pow_pos (by omega)
  obtain ⟨n, hn⟩ := Int.eq_ofNat_of_zero_le h.1
  have e0 : ((2 : Int) ^ p.toNat) = ((2 ^ p.toNat : Nat) : Int) := by simp
  refine ⟨Int.emod_nonneg _ (by omega), ?_⟩
  have : n % 2 ^ p.toNat ≤ n := Nat.mod_le _ _
  rw [hn, e0]; omega
theorem cut_word (x p : Int) (h0 : 0 ≤ p) (h1 : p < 64) (h : 0 ≤ x ∧ x < 18446744073709551616) :
    Go.bits .and .u64 x (IntKind.u64.wrap (IntKind.u64.wrap (2 ^ p.toNat) - 1)) = x % 2 ^ p.toNat := by
  obtain ⟨m, rfl⟩ := Int.eq_ofNat_of_zero_le h0
  obtain ⟨n, rfl⟩ := Int.eq_ofNat_of_zero_le h.1
  rw [Int.toNat_natCast]
  have hm : 2 ^ m < 2 ^ 64 := Nat.pow_lt_pow_right (by omega) (by omega)
  have hp : 0 < 2 ^ m := Nat.pow_pos (by omega)
  have e0 : ((2 : Int) ^ m) = ((2 ^ m : Nat) : Int) := by simp
  rw [e0]
  have e1 : IntKind.u64.wrap ((2 ^ m : Nat) : Int) = ((2 ^ m : Nat) : Int) := Nums.wrapu_nat (by omega)
  have e2 : IntKind.u64.wrap (((2 ^ m : Nat) : Int) - 1) = ((2 ^ m - 1 : Nat) : Int) := by
    rw [show ((2 ^ m : Nat) : Int) - 1 = ((2 ^ m - 1 : Nat) : Int) by omega]; exact Nums.wrapu_nat (by omega)
  rw [e1, e2, Go.u64_and_nat _ _ (by omega) (by omega), Nat.and_two_pow_sub_one_eq_mod]
  rfl
theorem Len_calls {F : Nat → Prop} {w : World} {b : Nat} {n : Int} {ws : List Int} (h : SetR F w b n ws) :
    Calls Tryd.prog 15 #[.pointer (some ⟨b, 0, none⟩)] w fun e w' => e = .returned (.int .i64 n) ∧ w = w' := by
  obtain ⟨h1, h2, h3, h4, v, h5, h6⟩ := h
  have c0 := blk_cell h5 0
  simp at c0
  clear h5 h6
  go_enter Tryd.func15, Tryd.ntmps15
  go_wp2
  go_ret
  exact ⟨rfl, rfl⟩

theorem has_calls {F : Nat → Prop} {w : World} {b : Nat} {n : Int} {ws : List Int} (h : SetR F w b n ws) (i : Int) :
    Calls Tryd.prog 37 #[.pointer (some ⟨b, 0, none⟩), .int .i64 i] w fun e w' => e = .returned (.bool (decide (0 ≤ i) && decide (i < n))) ∧ w = w' := by
  obtain ⟨h1, h2, h3, h4, v, h5, h6⟩ := h
  have c0 := blk_cell h5 0
  simp at c0
  clear h5 h6
  by_cases hi : 0 ≤ i
  · have hd : decide (i ≥ 0) = true := by simpa using hi
    go_enter Tryd.func37, Tryd.ntmps37
    go_wp2
    go_ret
    exact ⟨by simp [hi], rfl⟩
  · have hd : decide (i ≥ 0) = false := by simpa using hi
    go_enter Tryd.func37, Tryd.ntmps37
    go_wp2
    go_ret
    exact ⟨by simp [hi], rfl⟩

theorem and_one (x : Int) (h0 : 0 ≤ x) (h1 : x < 18446744073709551616) : Go.bits .and .u64 x 1 = x % 2 := by
  obtain ⟨n, rfl⟩ := Int.eq_ofNat_of_zero_le h0
  have := Go.u64_and_nat n 1 (by omega) (by omega)
  rw [nat_mask1] at this
  exact this.trans (by omega)
theorem bit_and (x : Int) (y : Int) (h0 : 0 ≤ x / y) (h1 : x / y < 18446744073709551616) : (Go.bits .and .u64 (x / y) 1 == 1) = (x / y % 2 == 1) := by rw [and_one _ h0 h1]
/-- The bit of a number in words. -/
def bitI (ws : List Int) (i : Int) : Bool := ws.getD (i / 64).toNat 0 / 2 ^ (i % 64).toNat % 2 == 1
theorem Get_out {F : Nat → Prop} {w : World} {b : Nat} {n : Int} {ws : List Int} (h : SetR F w b n ws) (i : Int) (hi : ¬ (0 ≤ i ∧ i < n)) :
    Calls Tryd.prog 18 #[.pointer (some ⟨b, 0, none⟩), .int .i64 i] w fun e w' => e = .returned (.bool false) ∧ w = w' := by
  have hb : (decide (0 ≤ i) && decide (i < n)) = false := by simpa using hi
  have hc := has_calls h i
  rw [hb] at hc
  have HC := Lib.hid hc
  clear hc hi hb h
  go_enter Tryd.func18, Tryd.ntmps18
  go_wp2_with (go_at_call 37; refine HC.out.mono ?_; rintro e w' ⟨rfl, rfl⟩)
  go_ret
  exact ⟨rfl, rfl⟩
theorem Get_in {F : Nat → Prop} {w : World} {b : Nat} {n : Int} {ws : List Int} (h : SetR F w b n ws) (i : Int) (h0 : 0 ≤ i) (hn : i < n) :
    Calls Tryd.prog 18 #[.pointer (some ⟨b, 0, none⟩), .int .i64 i] w fun e w' => e = .returned (.bool (bitI ws i)) ∧ w = w' := by
  have hb : (decide (0 ≤ i) && decide (i < n)) = true := by simp [h0, hn]
  have hc := has_calls h i
  rw [hb] at hc
  have HC := Lib.hid hc
  clear hc hb
  obtain ⟨h1, h2, h3, h4, v, h5, h6⟩ := h
  obtain ⟨g, cap, rfl, -, -, -⟩ := Kd.R_form h6 (by omega)
  have c1 := blk_cell h5 1
  simp at c1
  have c2 := Kd.R_cell 0 h6 (i / 64) (by omega) (by omega)
  have h4' := Lib.hid h4
  clear h5 h6 h1 h4
  go_enter Tryd.func18, Tryd.ntmps18
  go_wp2_with (go_at_call 37; refine HC.out.mono ?_; rintro e w' ⟨rfl, rfl⟩)
  go_ret
  exact ⟨ret_bool (bit_and _ _ (Int.ediv_nonneg (h4'.out _).1 (by exact Int.pow_nonneg (by omega))) (Int.lt_of_le_of_lt (Int.ediv_le_self _ (h4'.out _).1) (h4'.out _).2)), rfl⟩

/-- What cut leaves. -/
def cutW (n : Int) (ws : List Int) : List Int := if n % 64 = 0 then ws else ws.set (ws.length - 1) (ws.getD (ws.length - 1) 0 % 2 ^ (n % 64).toNat)
theorem cut_calls {F : Nat → Prop} {w : World} {b : Nat} {n : Int} {ws : List Int} (h : SetR F w b n ws) :
    Calls Tryd.prog 33 #[.pointer (some ⟨b, 0, none⟩)] w fun e w' => e = .returned (.tuple #[]) ∧ SetR F w' b n (cutW n ws) ∧ Upd F w w' := by
  have hS := h
  obtain ⟨h1, h2, h3, h4, v, h5, h6⟩ := h
  have c0 := blk_cell h5 0
  simp at c0
  by_cases hz : n % 64 = 0
  · have hd : (n % 64 != 0) = false := by simpa using hz
    rw [show cutW n ws = ws from if_pos hz]
    clear hz h6 h5 h1 h4
    go_enter Tryd.func33, Tryd.ntmps33
    go_wp2
    go_end0
    exact ⟨rfl, hS, Upd.refl _ _⟩
  · have hd : (n % 64 != 0) = true := by simpa using hz
    obtain ⟨g, cap, rfl, -, hg, -⟩ := Kd.R_form h6 (by omega)
    have c1 := blk_cell h5 1
    simp at c1
    have c2 := Kd.R_cell 0 h6 ((ws.length : Int) - 1) (by omega) (by omega)
    rw [show ((ws.length : Int) - 1).toNat = ws.length - 1 by omega] at c2
    have hw1 : wrap64 ((ws.length : Int) - 1) = (ws.length : Int) - 1 := by unfold wrap64; omega
    have hw2 : IntKind.i64.wrap ((ws.length : Int) - 1) = (ws.length : Int) - 1 := by rw [i64_w]; exact hw1
    have hw3 : 0 ≤ (ws.length : Int) - 1 := by omega
    have hw4 : 1 ≤ (ws.length : Int) := by omega
    have hw5 : (ws.length : Int) - 1 < ws.length := by omega
    have n0 : 0 ≤ n % 64 := by omega
    have n1 : n % 64 < 64 := by omega
    have H5 := Lib.hid h5
    have H6 := Lib.hid h6
    have H3 := Lib.hid h3
    have HZ := Lib.hid hz
    have HS := Lib.hid hS
    have h4' := Lib.hid h4
    clear h5 h6 h3 hz h4 hS
    go_enter Tryd.func33, Tryd.ntmps33
    go_wp2
    go_region
    go_wp2
    go_end0
    obtain ⟨hp, hu⟩ := SetR.put HS.out H5.out H6.out (ws.length - 1) (by omega) (ws.getD (ws.length - 1) 0 % 2 ^ (n % 64).toNat) (mod_wd _ _ (h4'.out _))
    rw [show cutW n ws = ws.set (ws.length - 1) (ws.getD (ws.length - 1) 0 % 2 ^ (n % 64).toNat) from if_neg HZ.out]
    have e := cut_word (ws.getD (ws.length - 1) 0) (n % 64) n0 n1 (h4'.out _)
    have e2 : rdOf 0 ws ((ws.length : Int) - 1) = ws.getD (ws.length - 1) 0 := by unfold rdOf; rw [show ((ws.length : Int) - 1).toNat = ws.length - 1 by omega]
    rw [e2, e]
    exact ⟨rfl, hp.step (fun k _ _ => rfl), hu.drew⟩

/-- A length as it counts; how many words it takes. -/
def fitN (n : Int) : Int := mx 0 (mn n 1048576)
theorem fitN_bd (n : Int) : 0 ≤ fitN n ∧ fitN n ≤ 1048576 := by unfold fitN mx mn; omega
def wdsN (n : Int) : Nat := ((fitN n + 63) / 64).toNat
/-- Of's words: k of them, the given ones first. -/
def padW (k : Nat) (l : List Int) : List Int := l.take k ++ List.replicate (k - l.length) 0
def ofW (l : List Int) (n : Int) : List Int := cutW (fitN n) (padW (wdsN n) l)
theorem padW_length (k : Nat) (l : List Int) : (padW k l).length = k := by simp [padW]; omega
theorem padW_wd (k : Nat) (l : List Int) (h : Wd l) : Wd (padW k l) := by
  intro i
  unfold padW
  rw [List.getD_eq_getElem?_getD, List.getElem?_append]
  split
  · rw [List.getElem?_take]
    split
    · have := h i; rwa [List.getD_eq_getElem?_getD] at this
    · simp
  · rw [List.getElem?_replicate]
    split <;> simp
theorem pad_eq (k m : Nat) (l : List Int) (hm : l.length = m) : l.take (min m (List.replicate k (0 : Int)).length) ++ (List.replicate k (0 : Int)).drop (min m (List.replicate k (0 : Int)).length) = padW k l := by
  subst hm
  unfold padW
  rw [List.length_replicate, List.drop_replicate]
  by_cases h : l.length ≤ k
  · rw [Nat.min_eq_left h, List.take_of_length_le (Nat.le_refl _), List.take_of_length_le h]
  · rw [Nat.min_eq_right (by omega), show k - l.length = 0 by omega, show k - k = 0 by omega]

theorem made_row {w0 w1 : World} {k : Nat} (h : w1.ownsRow 0 24 1 (.slice (some ⟨w0.heap.size, 0, none⟩) k k) k (madeCells (Value.int .u64 0).cells (k * 1)).toList) :
    (Kd.int .u64).R 24 w1 0 (fun _ => True) (.slice (some ⟨w0.heap.size, 0, none⟩) k k) (List.replicate k 0) := by
  refine Kd.R_of_own (enc := Value.int .u64) ?_ (fun _ _ => trivial)
  have e : (madeCells (Value.int .u64 0).cells (k * 1)).toList = encs (Value.int .u64) (List.replicate k 0) := by
    rw [Nat.mul_one]
    exact (toList_madeCells_one _ _).trans (by simp [encs])
  rw [e] at h
  rw [List.length_replicate]; exact h
theorem of_set {w w0 w1 w2 : World} {m : Int} {k : Nat} {xs : List Int} (hB : Below w.heap.size w w0) (hgrow : w0.grownBy w1 none) (hlt : w0.heap.size < w1.heap.size)
    (hg2 : (w1.alloc (.cells #[.int .i64 m, .slice (some ⟨w0.heap.size, 0, none⟩) k k] 61)).grownBy w2 (some w0.heap.size))
    (hrow : (Kd.int .u64).R 24 w2 0 (fun _ => True) (.slice (some ⟨w0.heap.size, 0, none⟩) k k) xs) (hm : 0 ≤ m ∧ m ≤ 1048576) (hk : (xs.length : Int) = (m + 63) / 64) (hw : Wd xs) :
    SetR (New w) w2 w1.heap.size m xs ∧ Upd No w w2 := by
  have s0 := hB.size
  have s1 := hgrow.size
  refine ⟨⟨by unfold New; omega, hm, hk, hw, _, blk_grown (blk_new _ _) hg2 (by simp; omega), ?_⟩, ?_⟩
  · exact ⟨fun k hk => by
      simp [Value.ownBlock] at hk
      subst hk
      exact ⟨s0, by omega⟩, hrow.2⟩
  · have u0 : Upd No w w0 := Upd.of_below hB
    have u1 : Upd No w w1 := u0.grown hgrow (fun _ h => by cases h)
    exact (u1.alloc _).grown hg2 (fun _ h => by injection h with h; exact .inr (h ▸ s0))
theorem sz24 : (Tryd.prog.info? 24).map (·.size) = some 1 := by kernel_rfl
theorem below_grown {w w1 : World} (h : w.grownBy w1 none) : Below w.heap.size w w1 := (Below.refl _ _).grown h (Nat.le_refl _) (fun _ h => by cases h)

theorem Of_calls {w : World} {A : Option Addr} {c : Nat} {l : List Int} (n : Int) (hl : (Kd.int .u64).C w A l.length l) (hw : Wd l) :
    Calls Tryd.prog 9 #[.slice A l.length c, .int .i64 n] w fun e w' => ∃ b, e = .returned (.pointer (some ⟨b, 0, none⟩)) ∧ SetR (New w) w' b (fitN n) (ofW l n) ∧ Upd No w w' := by
  have hb := fitN_bd n
  obtain ⟨k, hk⟩ := Int.eq_ofNat_of_zero_le (show 0 ≤ (fitN n + 63) / 64 by omega)
  have HF : Hid (Go.Proofs.YtccpoflhmooanaaDoor.R.bits_fit.f n = some (fitN n, (k : Int))) := by show _ = _; rw [← hk]; rfl
  have HK : Hid (k = wdsN n) := by show k = ((fitN n + 63) / 64).toNat; omega
  have HK2 : Hid ((k : Int) = (fitN n + 63) / 64) := hk.symm
  have hk1 : k ≤ 16384 := by omega
  have HL := Lib.hid hl
  have HW := Lib.hid hw
  clear hl hw hk
  have HO : Hid (ofW l n = cutW (fitN n) (padW (wdsN n) l)) := rfl
  generalize ofW l n = r at *
  generalize fitN n = m at *
  obtain ⟨i0, hi, hz0, hz1, hz2⟩ := info_parts Go.Proofs.YtccpoflhmooanaaDoor.R.info24
  go_enter Tryd.func9, Tryd.ntmps9
  go_wp2_with (first
    | (go_at_call 32; refine (Go.Proofs.YtccpoflhmooanaaDoor.R.bits_fit.calls n m k _ HF.out).mono ?_; rintro e w0 ⟨rfl, hB⟩)
    | (at_make; refine wpList_make_full _ rfl _ _ 22 rfl 0 24 i0 (.int .u64 0) 1 Tryd.underlying22 hi hz0 hz1 .i64 .i64 _ _ k rfl rfl rfl rfl (by rw [hz2]; omega) (by simp only [maxLen]; omega) (Nat.zero_le _) ?_; intro w1 hown hgrow; have HR := made_row hown; have hlt := Kd.R_lt HR _ rfl)
    | ((with_reducible refine gate_dst (N := 22) rfl ?_); refine Kd.R_copy 0 0 rfl _ _ 22 22 24 rfl Tryd.underlying22 sz24 _ (List.replicate k 0) l A l.length c (fun _ => True) rfl rfl (Kd.R_alloc HR _) (Kd.C_alloc (Kd.C_below (Kd.C_below HL.out hB) (below_grown hgrow)) _) (Below.refl _ _) (Nat.zero_le _) ?_; intro w2 hrow hb2 hg2; rw [pad_eq k l.length l rfl] at hrow; have HS := of_set hB hgrow hlt hg2 hrow hb (by rw [padW_length]; exact HK2.out) (padW_wd k l HW.out))
    | (go_at_call 33; refine (cut_calls HS.1).mono ?_; rintro e w3 ⟨rfl, hs3, hu3⟩))
  go_ret
  refine ⟨_, rfl, ?_, ?_⟩
  · rw [HO.out, ← HK.out]; exact hs3
  · exact HS.2.trans hu3 (fun k hk hl => by unfold New at hk; omega)

theorem wd_nil : Wd [] := fun i => by simp
theorem NewSet_calls (w : World) (n : Int) :
    Calls Tryd.prog 10 #[.int .i64 n] w fun e w' => ∃ b, e = .returned (.pointer (some ⟨b, 0, none⟩)) ∧ SetR (New w) w' b (fitN n) (ofW [] n) ∧ Upd No w w' := by
  go_enter Tryd.func10, Tryd.ntmps10
  go_wp2_with (go_at_call 9; refine (Of_calls (l := []) n (Kd.C_nil _ _) wd_nil).mono ?_; rintro e w1 ⟨b, rfl, hs, hu⟩)
  go_ret
  exact ⟨b, rfl, hs, hu⟩
theorem SetR.reads {F : Nat → Prop} {w : World} {b : Nat} {n : Int} {ws : List Int} (h : SetR F w b n ws) : ∃ A c, w.cell? ⟨b, 1, none⟩ = some (.slice A ws.length c) ∧ ws.length ≤ c ∧ (Kd.int .u64).C w A ws.length ws := by
  obtain ⟨h1, h2, h3, h4, v, h5, h6⟩ := h
  obtain ⟨A, c, rfl, hc, hr⟩ := Kd.R_reads h6
  have c1 := blk_cell h5 1
  simp at c1
  exact ⟨A, c, c1, hc, hr⟩
theorem Words_calls {F : Nat → Prop} {w : World} {b : Nat} {n : Int} {ws : List Int} (h : SetR F w b n ws) :
    Calls Tryd.prog 13 #[.pointer (some ⟨b, 0, none⟩)] w fun e w' => ∃ v, e = .returned v ∧ (Kd.int .u64).R 24 w' w.heap.size (fun _ => True) v ws ∧ Below w.heap.size w w' := by
  obtain ⟨A, c, c1, hc, hr⟩ := h.reads
  have h3 := h.2.2.1
  have h2 := h.2.1
  have hlen : ws.length ≤ 16384 := by omega
  have HR := Lib.hid hr
  clear hr h h3 h2 hc
  go_enter Tryd.func13, Tryd.ntmps13
  go_wp2_with ((with_reducible refine gate_dst (N := 7) rfl ?_); refine Kd.R_append_row (Value.int .u64) 0 (h1 := fun _ => rfl) w.heap.size rfl _ _ 22 24 (.int .u64 0) 8 rfl Tryd.underlying22 Go.Proofs.YtccpoflhmooanaaDoor.R.info24 rfl (by omega) (.slice none 0 0) [] ws A ws.length c (fun _ => True) rfl rfl (fun _ _ => trivial) (Kd.R_nil _ _ _ _ _) HR.out (Below.refl _ _) (Nat.le_refl _) (by simp; omega) ?_; intro v1 w1 hrow hb hg hat)
  go_ret
  exact ⟨v1, rfl, hrow, hb⟩
theorem Resize_calls {F : Nat → Prop} {w : World} {b : Nat} {n : Int} {ws : List Int} (h : SetR F w b n ws) (m : Int) :
    Calls Tryd.prog 31 #[.pointer (some ⟨b, 0, none⟩), .int .i64 m] w fun e w' => e = .returned (.tuple #[]) ∧ SetR (Or F w) w' b (fitN m) (ofW ws m) ∧ Upd F w w' := by
  obtain ⟨A, c, c1, hc, hr⟩ := h.reads
  have HR := Lib.hid hr
  have HH := Lib.hid h
  have hbs : b < w.heap.size := by obtain ⟨_, _, _, _, v, h5, _⟩ := h; exact blk_lt h5
  clear hr h hc
  go_enter Tryd.func31, Tryd.ntmps31
  go_wp2_with (go_at_call 9; refine (Of_calls m HR.out HH.out.2.2.2.1).mono ?_; rintro e w1 ⟨b2, rfl, hs, hu⟩; obtain ⟨g1, g2, g3, g4, v2, g5, g6⟩ := hs; obtain ⟨A2, c2, rfl, _, _⟩ := Kd.R_reads g6; have d0 := blk_cell g5 0; have d1 := blk_cell g5 1; simp at d0 d1; obtain ⟨G5, G6, G1, G2, G3, G4, HU⟩ := (⟨Lib.hid g5, Lib.hid g6, Lib.hid g1, Lib.hid g2, Lib.hid g3, Lib.hid g4, Lib.hid hu⟩ : Hid _ ∧ Hid _ ∧ Hid _ ∧ Hid _ ∧ Hid _ ∧ Hid _ ∧ Hid _); obtain ⟨_, _, _, _, v0, e5, _⟩ := HH.out.upd hu (fun _ _ h => h); have o0 := blk_cell e5 0; have o1 := blk_cell e5 1; have f0 := blk_frozen e5 0; have f1 := blk_frozen e5 1; simp at o0 o1; have E5 := Lib.hid e5; clear e5 g1 g2 g3 g4 g5 g6 hu)
  go_end0
  refine ⟨rfl, ?_, ?_⟩
  · have b0 := blk_set E5.out 0 (.int .i64 (fitN m))
    have b1 := blk_set b0 1 (.slice A2 (ofW ws m).length c2)
    refine ⟨.inl HH.out.1, G2.out, G3.out, G4.out, _, by simpa using b1, ?_⟩
    refine Kd.R_far (Kd.R_far (Kd.R_mono G6.out (fun k hk => ⟨.inr hk.1, ?_⟩)) (p := ⟨b, 0, none⟩) (fun k hk => hk.2) _) (p := ⟨b, 1, none⟩) (fun k hk => hk.2) _
    have := hk.1
    unfold New at this
    omega
  · have u1 : Upd F w w1 := HU.out.mono (fun _ h => h.elim)
    exact (u1.set (p := ⟨b, 0, none⟩) (.inl HH.out.1) _).set (p := ⟨b, 1, none⟩) (.inl HH.out.1) _

end Go.Proofs.YtccpoflhmooanaaDoor.Sets
