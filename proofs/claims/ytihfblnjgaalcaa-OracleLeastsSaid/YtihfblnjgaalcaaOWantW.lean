/- Wanted, walked. -/
import Derived.Test.YtihfblnjgaalcaaONum
namespace Go.Proofs.Ytihfblnjgaalcaa.OW
open Go Go.RowKit Go.Maps Go.Proofs.YtihfblnjgaalcaaW.PrintWords Go.Proofs.YtihfblnjgaalcaaW.PrintLast Go.Proofs.YtihfblnjgaalcaaW.PrintMore Go.Proofs.Ytihfblnjgaalcaa.R Go.Proofs.Ytihfblnjgaalcaa.OM Go.Proofs.Ytihfblnjgaalcaa.OP Go.Proofs.Ytihfblnjgaalcaa.OR Go.Proofs.Ytihfblnjgaalcaa.OS Go.Proofs.Ytihfblnjgaalcaa.OB Go.Proofs.Ytihfblnjgaalcaa.OF Go.Proofs.Ytihfblnjgaalcaa.ON
set_option linter.unusedVariables false
set_option linter.unusedSimpArgs false
theorem infoI : (Try.prog.info? 3).map (fun i => (i.zero, i.size, i.bytes)) = some (some (.int .i64 0), 1, 8) := by kernel_rfl
theorem row_ok {α : Type} {enc : α → Value} {h1 : ∀ x, (enc x).oneCell' = true} {e : Nat} {w : World} {base : Nat} {ok ok' : Nat → Prop} {v : Value} {xs : List α} (h : (Kd.scalar enc h1).R e w base ok v xs) (hok : ∀ k, v.ownBlock = some k → ok' k) : (Kd.scalar enc h1).R e w base ok' v xs :=
 Kd.R_of_own (Kd.own_of_R h) hok
/-- A list of numbers of its own, in block ga. -/
def NR (w : World) (ga m c : Nat) (xs : List Nat) : Prop := xs.length = m ∧ m ≤ c ∧ (Kd.int .i64).R 3 w 0 (fun k => k = ga) (.slice (some ⟨ga, 0, none⟩) m c) (castL xs)
theorem NR.C {w : World} {ga m c : Nat} {xs : List Nat} (h : NR w ga m c xs) : (Kd.int .i64).C w (some ⟨ga, 0, none⟩) m (castL xs) := by
 obtain ⟨h1, h2, h3⟩ := h
 obtain ⟨A', c', e, h4, h5⟩ := Kd.R_reads h3
 injection e with e1 e2 e3
 subst e1
 rw [castL_length, h1] at h5
 exact h5
theorem NR.keep {w w' : World} {ga m c : Nat} {xs : List Nat} (h : NR w ga m c xs) (hb : w'.heap[ga]? = w.heap[ga]?) : NR w' ga m c xs :=
 ⟨h.1, h.2.1, Kd.R_step h.2.2 (fun k hk _ => by subst hk; exact hb)⟩
theorem castL_set (xs : List Nat) (j x : Nat) : castL (xs.set j x) = (castL xs).set j (x : Int) := by
 unfold castL
 rw [List.map_set]
theorem NR.at_ {w : World} {ga m c : Nat} {xs : List Nat} (h : NR w ga m c xs) (k : Nat) (hk : k < m) : w.cell? ⟨ga, k, none⟩ = some (.int .i64 ((xs.getD k 0 : Nat) : Int)) ∧ w.frozen? ⟨ga, k, none⟩ = false ∧ ga < w.heap.size ∧
  ∀ x : Nat, NR (w.setCell ⟨ga, k, none⟩ (.int .i64 (x : Int))) ga m c (xs.set k x) ∧ w.grownBy (w.setCell ⟨ga, k, none⟩ (.int .i64 (x : Int))) (some ga) := by
 obtain ⟨h1, h2, h3⟩ := h
 obtain ⟨ga', cap, e, -, hg, -⟩ := Kd.R_form h3 (by rw [castL_length]; omega)
 injection e with e1 e2 e3
 injection e1 with e1
 injection e1 with e1
 subst e1
 have hr : rdOf (0 : Int) (castL xs) (k : Int) = ((xs.getD k 0 : Nat) : Int) := rd_cast xs k
 obtain ⟨c1, c2⟩ := Kd.R_celln (0 : Int) h3 (k : Int) (by omega) (by omega)
 rw [hr, Int.toNat_natCast] at c1
 rw [Int.toNat_natCast] at c2
 refine ⟨c1, c2, hg, fun x => ?_⟩
 obtain ⟨p1, p2⟩ := Kd.R_putg h3 (k : Int) (x : Int)
 rw [Int.toNat_natCast] at p1 p2
 exact ⟨⟨by simpa using h1, h2, by rw [castL_set]; exact p1⟩, p2⟩
theorem bigs_nil (order : Int) : bigs order [] = List.replicate (order.toNat + 1) 0 := by
 unfold bigs cnt
 simp only [List.countP_nil]
 rw [List.map_const', List.length_range]
theorem bigs_length (order : Int) (l : List Int) : (bigs order l).length = order.toNat + 1 := by simp [bigs]
theorem bigs_get (order : Int) (l : List Int) (j : Nat) (hj : j ≤ order.toNat) : (bigs order l).getD j 0 = cnt l (4096 * 2 ^ j) := by
 unfold bigs
 rw [List.getD_eq_getElem?_getD, List.getElem?_map, List.getElem?_range (by omega)]
 rfl
theorem pow_inj {a b : Nat} (h : (4096 : Int) * 2 ^ a = 4096 * 2 ^ b) : a = b := by
 have h1 : (2 : Int) ^ a = 2 ^ b := by omega
 have h2 : (2 : Nat) ^ a = 2 ^ b := by
  have e1 : ((2 ^ a : Nat) : Int) = ((2 ^ b : Nat) : Int) := by simpa using h1
  omega
 exact Nat.le_antisymm ((Nat.pow_le_pow_iff_right (a := 2) (by decide)).1 (Nat.le_of_eq h2)) ((Nat.pow_le_pow_iff_right (a := 2) (by decide)).1 (Nat.le_of_eq h2.symm))
theorem bigs_big (order : Int) (l : List Int) (j : Nat) (hj : j ≤ order.toNat) : bigs order (l ++ [((4096 * 2 ^ j : Nat) : Int)]) = (bigs order l).set j (cnt l (4096 * 2 ^ j) + 1) := by
 have e : (((4096 * 2 ^ j : Nat) : Int)) = 4096 * 2 ^ j := by simp
 apply List.ext_getElem?
 intro i
 unfold bigs
 rw [List.getElem?_set, List.getElem?_map, List.getElem?_map, List.length_map, List.length_range]
 by_cases hi : i < order.toNat + 1
 ·rw [List.getElem?_range hi]
  simp only [Option.map_some]
  rw [cnt_snoc, e]
  by_cases h : j = i
  ·subst h; rw [if_pos rfl, if_pos rfl, if_pos (by omega)]
  ·rw [if_neg h, if_neg (fun h2 => h (pow_inj h2))]; rfl
 ·have hn : (List.range (order.toNat + 1))[i]? = none := by simp; omega
  rw [hn, if_neg (by omega)]
  rfl
theorem bigs_small (order : Int) (l : List Int) (x : Int) (hx : x < 4096) : bigs order (l ++ [x]) = bigs order l := by
 unfold bigs
 apply List.map_congr_left
 intro j _
 rw [cnt_snoc, if_neg ?_]
 ·rfl
 ·have h1 : (0 : Int) < 2 ^ j := Int.pow_pos (by decide)
  omega
theorem below_grownW {c : Nat} {w wc w3 : World} (hb : Below w.heap.size w wc) (hg : wc.grownBy w3 (some c)) (hc : w.heap.size ≤ c) : Below w.heap.size w w3 :=
 ⟨hg.os.trans hb.os, hg.tape.trans hb.tape, hg.output.trans hb.output, Nat.le_trans hb.size hg.size, fun q hq =>
  (hg.block q (Nat.lt_of_lt_of_le hq hb.size) (by intro e; injection e with e; omega)).trans (hb.block q hq)⟩
theorem succ_w (i : Nat) (h : i < 9223372036854775807) : wrap64 ((i : Int) + 1) = ((i + 1 : Nat) : Int) := by unfold wrap64; omega
theorem ptr_some {w : World} {m : PM} {ptr : Int → Option Int} (h : ∀ x, match m x with
  | none => ptr x = none
  | some l => ∃ g c : Nat, ptr x = some (g : Int) ∧ LotAt w g c l) (x : Int) : (ptr x).isSome = (m x).isSome := by
 have := h x
 cases hm : m x with
 | none => rw [hm] at this; rw [this]; rfl
 | some l => rw [hm] at this; obtain ⟨g, c, a, -⟩ := this; rw [a]; rfl
theorem ptr_at {w : World} {m : PM} {ptr : Int → Option Int} (h : ∀ x, match m x with
  | none => ptr x = none
  | some l => ∃ g c : Nat, ptr x = some (g : Int) ∧ LotAt w g c l) {x c : Int} (hx : ptr x = some c) : ∃ l, m x = some l ∧ ∃ g c' : Nat, c = (g : Int) ∧ LotAt w g c' l := by
 have := h x
 cases hm : m x with
 | none => rw [hm] at this; rw [this] at hx; cases hx
 | some l =>
  rw [hm] at this
  obtain ⟨g, c', a, b⟩ := this
  rw [a] at hx
  injection hx with hx
  exact ⟨l, rfl, g, c', hx.symm, b⟩
theorem sumR_bd {f : Nat → Int} {a b : Int} (ha : 0 ≤ a) (hb : 0 ≤ b) (n : Nat) (h : ∀ x, x < n → -a ≤ f x ∧ f x ≤ b) : -(a * n) ≤ sumR f n ∧ sumR f n ≤ b * n :=
 ⟨sumR_ge ha n (fun x hx => (h x hx).1), sumR_le hb n (fun x hx => (h x hx).2)⟩
theorem roomSo_bd {m : PM} {left : Int → Bool} {s : Int} (h0 : 0 < s) (h1 : s ≤ 2048) (hm : ∀ x z cs q, m x = some (.small z cs q) → q ≤ 8796093022208) : -9007199254740992 ≤ roomSo m left s ∧ roomSo m left s ≤ 4194304 := by
 have h := sumR_bd (f := fun x => if left (x : Int) then 0 else roomAt m s x) (a := 8796093022208) (b := 4096) (by decide) (by decide) 1024 (fun x _ => by
  show -8796093022208 ≤ (if left (x : Int) = true then 0 else roomAt m s x) ∧ (if left (x : Int) = true then 0 else roomAt m s x) ≤ 4096
  split
  ·omega
  ·unfold roomAt
   cases hx : m (x : Int) with
   | none => simp
   | some lt =>
    cases lt with
    | great z => simp
    | small z cs q =>
     have hq := hm _ _ _ _ hx
     simp only
     split
     ·rename_i e
      subst e
      have h2 : 0 ≤ 4096 / z := Int.ediv_nonneg (by decide) (by omega)
      have h3 : 4096 / z ≤ 4096 := Int.ediv_le_self _ (by decide)
      omega
     ·omega)
 unfold roomSo
 omega
theorem grown_drew1 {w w2 : World} {row : Option Nat} (h : w.drew.grownBy w2 row) : w.grownBy w2 row := ⟨h.os, h.tape, h.output, h.size, h.block⟩
theorem dom_upd {g : Int → Option Int} {z c : Int} (h : ∀ s, (g s).isSome = true → ∃ k, k < 8 ∧ s = sz8 k) (hz : ∃ k, k < 8 ∧ z = sz8 k) : ∀ s, (upd g z c s).isSome = true → ∃ k, k < 8 ∧ s = sz8 k := by
 intro s hs
 unfold upd at hs
 by_cases e : s = z
 ·subst e; exact hz
 ·rw [if_neg e] at hs; exact h s hs
theorem set_same0 {l : List Nat} {x : Nat} (h : 0 < l.length) (hx : l.getD 0 0 = x) : l.set 0 (x + (0 : Int).toNat) = l := by
 cases l with
 | nil => simp at h
 | cons a t => simp at hx; subst hx; simp
theorem extra_congr {l : List Int} {m : PM} {g : Int → Option Int} (h : ∀ k, k < 8 → (g (sz8 k)).getD 0 = (cnt l (sz8 k) : Int) - roomAll m (sz8 k)) : extra (fun s => (g s).getD 0) = extra (fun s => (cnt l s : Int) - roomAll m s) := by
 unfold extra
 exact sumR_congr 8 (fun k hk => by show pagesFor ((g (sz8 k)).getD 0) (sz8 k) = _; rw [h k hk])
theorem soFar_bd {g : Int → Option Int} {left : Int → Bool} {B : Int} (hB : 0 ≤ B) (h : ∀ k, k < 8 → (g (sz8 k)).getD 0 ≤ B) : 0 ≤ soFar g left ∧ soFar g left ≤ 8 * (B + 256) := by
 have hb : ∀ k, k < 8 → 0 ≤ (if ((g (sz8 k)).isSome && !left (sz8 k)) = true then pagesFor ((g (sz8 k)).getD 0) (sz8 k) else 0) ∧ (if ((g (sz8 k)).isSome && !left (sz8 k)) = true then pagesFor ((g (sz8 k)).getD 0) (sz8 k) else 0) ≤ B + 256 := by
  intro k hk
  split
  ·exact pages_bd hk (h k hk) hB
  ·omega
 have h1 := sumR_nonneg 8 (fun k hk => (hb k hk).1)
 have h2 := sumR_le (B := B + 256) (by omega) 8 (fun k hk => (hb k hk).2)
 unfold soFar
 omega
theorem pg_eq {c cz x : Int} {N0 : Nat} (h : 4096 / x = cz) (h0 : 0 ≤ pagesFor c x) (h1 : (N0 : Int) + pagesFor c x < 9223372036854775808) : (c ≤ 0 → wrap64 ((N0 : Int) + (cz - 1) / cz) = ((N0 + (pagesFor c x).toNat : Nat) : Int)) ∧ (0 ≤ c → wrap64 ((N0 : Int) + (c + cz - 1) / cz) = ((N0 + (pagesFor c x).toNat : Nat) : Int)) := by
 constructor
 ·intro hc
  have e : pagesFor c x = (cz - 1) / cz := by unfold pagesFor; rw [h, Int.max_eq_right hc, Int.zero_add]
  rw [← e]
  unfold wrap64; omega
 ·intro hc
  have e : pagesFor c x = (c + cz - 1) / cz := by unfold pagesFor; rw [h, Int.max_eq_left hc]
  rw [← e]
  unfold wrap64; omega
theorem take_rd {l : List Int} {i : Nat} (h : i < l.length) : l.take (i + 1) = l.take i ++ [rd l (i : Int)] := by
 rw [List.take_succ_eq_append_getElem h]
 unfold rd
 rw [Int.toNat_natCast, List.getD_eq_getElem?_getD, List.getElem?_eq_getElem h]
 rfl
theorem rd_memI {l : List Int} {i : Nat} (h : i < l.length) : rd l (i : Int) ∈ l := by
 unfold rd
 rw [Int.toNat_natCast, List.getD_eq_getElem?_getD, List.getElem?_eq_getElem h]
 exact List.getElem_mem h
theorem all_false {l : List Int} {x order : Int} (hx : x ∈ l) (h : sizeB order x = false) : l.all (sizeB order) = false := by
 rw [List.all_eq_false]
 exact ⟨x, hx, by rw [h]; simp⟩
abbrev cfgW (base limit order : Int) : Obj := .cells #[.int .u64 base, .int .i64 limit, .int .i64 order] 29 (0, 0)
/-- What wanted tells. -/
def WantPost (m : PM) (order : Int) (l : List Int) (w : World) (e : Ending) (w' : World) : Prop :=
 Below w.heap.size w w' ∧ ((l.all (sizeB order) = true ∧ ∃ ga c', e = .returned (.tuple #[.slice (some ⟨ga, 0, none⟩) (order.toNat + 1) c', .bool true]) ∧ NR w' ga (order.toNat + 1) c' (needOf m order l)) ∨
  (l.all (sizeB order) = false ∧ e = .returned (.tuple #[.slice none 0 0, .bool false])))
attribute [local go_sem] max2_int min2_int max_two min_two max_three min_three max_four min_four
set_option maxRecDepth 100000 in
set_option maxHeartbeats 4000000 in
theorem wanted_calls (base limit order : Int) (mb s : Nat) (m : PM) (w : World) (hR : RepR w mb s m) (hdom : ∀ x, (m x).isSome = true → 0 ≤ x ∧ x < 1024) (hsm : ∀ x z cs q, m x = some (.small z cs q) → (∃ k, k < 8 ∧ z = sz8 k) ∧ q ≤ 8796093022208) (h0 : 0 ≤ order) (h8 : order ≤ 8)
  (l : List Int) (hs : s ≤ 2251799813685248) (hlen : l.length ≤ 17592186044416) (hwf : ∀ x ∈ l, 0 ≤ x ∧ x < 18446744073709551616) (A : Option Addr) (c : Nat) (hC : (Kd.int .u64).C w A l.length l) :
  Calls Try.prog 43 #[.agg #[.int .u64 base, .int .i64 limit, .int .i64 order], .map (some mb), .slice A l.length c] w (WantPost m order l w) := by
 have HR := Lib.hid hR
 have HD := Lib.hid hdom
 have HSM := Lib.hid hsm
 have HLEN := Lib.hid hlen
 have HSB := Lib.hid hs
 have HWF := Lib.hid hwf
 have HC := Lib.hid hC
 obtain ⟨on, hon⟩ := Int.eq_ofNat_of_zero_le h0
 have HON := Lib.hid hon
 have hmm := @run_makeMap Try.prog
 obtain ⟨n1, hn1⟩ : ∃ n1 : Int, order + 1 = n1 := ⟨_, rfl⟩
 have hn1b : 0 ≤ n1 ∧ n1 ≤ 9 := by omega
 have HN1 := Lib.hid hn1
 have hn1w : wrap64 (order + 1) = n1 := by rw [hn1]; unfold wrap64; omega
 clear hR hdom hsm hlen hwf hC hon hs
 go_enter Try.func43, Try.ntmps43
 go_wp2_with (first
  | ((with_reducible refine gate_dst (N := 20) rfl ?_); refine Kd.R_make (Kd.int .i64) _ 3 rfl (N := 20) rfl 80 _ _ rfl n1 (by rfl) (by rfl) Try.underlying80 (.int .i64 0) 8 infoI rfl (by decide) (by omega) (0 : Int) (ok := fun _ => True) (okp := fun _ => True) rfl (fun _ hk => hk) trivial hn1b.1 (by omega) (Below.refl _ _) (Nat.le_refl _) ?_; intro v20 w1 ho1 hb1 hg1 hnew1; have HO1 := Lib.hid ho1; have HB1 := Lib.hid hb1; have HG1 := Lib.hid hg1; have HNW1 := Lib.hid hnew1; clear ho1 hb1 hg1 hnew1))
 obtain ⟨ga, cp, hv, hgb, hgl, -⟩ := Kd.R_form HO1.out (by simp; omega)
 have hNR : NR w1 ga (on + 1) cp (bigs order []) := by
  have hl : (List.replicate n1.toNat (0 : Int)).length = on + 1 := by have := HN1.out; have := HON.out; simp; omega
  have hb : castL (bigs order []) = List.replicate n1.toNat (0 : Int) := by
   rw [bigs_nil]; unfold castL; rw [List.map_replicate]; have := HN1.out; have := HON.out; rw [show order.toNat + 1 = n1.toNat by omega]; rfl
  have h1 := HO1.out
  rw [hv, hl] at h1
  obtain ⟨-, h2, -⟩ := Kd.R_reads' h1
  refine ⟨by rw [bigs_length]; have := HON.out; omega, h2, ?_⟩
  rw [hb]
  exact row_ok (Kd.R_lower h1 (Nat.zero_le _)) (fun k hk => by simp [Value.ownBlock] at hk; exact hk.symm)
 have hga : w.heap.size + 1 ≤ ga := by
  obtain ⟨b, hb, hb2⟩ := HNW1.out
  rw [hv] at hb
  simp [Value.ownBlock] at hb
  simp at hb2
  omega
 have hl2 : (List.replicate n1.toNat (0 : Int)).length = on + 1 := by have := HN1.out; have := HON.out; simp; omega
 rw [hl2] at hv
 subst hv
 obtain ⟨sm, hsmE⟩ : ∃ sm, w1.heap.size = sm := ⟨_, rfl⟩
 have HNR := Lib.hid (hNR.keep (w' := w1.alloc (.map #[] 0)) (Below.heap_alloc _ _ _ hgl))
 have HMS := Lib.hid (show MapI Try.prog (El.int .i64) 22 .u64 (w1.alloc (.map #[] 0)) sm 0 noCells from hsmE ▸ MapI.made w1 Try.prog (El.int .i64) 22 .u64)
 have HGA := Lib.hid hga
 have HGL := Lib.hid (show ga < sm from hsmE ▸ hgl)
 have HB2 := Lib.hid (show Below w.heap.size w (w1.alloc (.map #[] 0)) from (((Below.refl w.heap.size w).alloc (Nat.le_refl _) _).trans (HB1.out.mono (by simp))).alloc (by have := HG1.out.size; simp at this; omega) _)
 have HBX := Lib.hid (show (w1.alloc (.map #[] 0)).heap[w.heap.size]? = some (cfgW base limit order) from (Below.heap_alloc _ _ _ (by have := HG1.out.size; simp at this; omega)).trans ((HG1.out.block _ (by simp) (by simp)).trans (blk_new w _)))
 rw [hsmE]
 clear hNR hga hl2 hgb hgl hsmE HO1 HB1 HG1 HNW1 hn1b hn1 hn1w
 go_loopg [24] l.length (fun g v wr => ∃ (i sN : Nat) (gm : Int → Option Int), v = .int .i64 (i : Int) ∧ Aside0 (i + g = l.length) ∧ Aside0 ((l.take i).all (sizeB order) = true) ∧ Aside0 (NR wr ga (on + 1) cp (bigs order (l.take i))) ∧ Aside0 (MapI Try.prog (El.int .i64) 22 .u64 wr sm sN gm) ∧
  Aside0 (Cnts (l.take i) gm) ∧ Aside0 (sN ≤ i) ∧ Aside0 (Below w.heap.size w wr) ∧ Aside0 (wr.heap[w.heap.size]? = some (cfgW base limit order)))
 case atStart => exact ⟨0, 0, noCells, rfl, ⟨Nat.zero_add _⟩, ⟨by simp⟩, ⟨by simpa using HNR.out⟩, ⟨HMS.out⟩, ⟨by simpa using cnts_start⟩, ⟨Nat.le_refl _⟩, ⟨HB2.out⟩, ⟨HBX.out⟩⟩
 case round =>
  obtain ⟨i, sN, gm, rfl, hg, hall, hnr, hms, hcn, hsn, hbr, hbx⟩ := hrel
  clear HNR HMS HB2 HBX
  by_cases hi : i < l.length
  ·have hid : decide (i < l.length) = true := decide_eq_true hi
   obtain ⟨g1, rfl⟩ : ∃ g1, gk = g1 + 1 := ⟨gk - 1, by have := hg.out; omega⟩
   obtain ⟨ad, rfl, hx⟩ := Kd.at_int HC.out (i : Int) (by omega) (by omega)
   replace hx := (hbr.out.cell (World.block_lt_of_cell? w _ hx)).trans hx
   rw [Int.toNat_natCast] at hx
   obtain ⟨x, hxx⟩ : ∃ x, rd l (i : Int) = x := ⟨_, rfl⟩
   rw [hxx] at hx
   have HTK := Lib.hid (show l.take (i + 1) = l.take i ++ [x] from hxx ▸ take_rd hi)
   have HXM := Lib.hid (show x ∈ l from hxx ▸ rd_memI hi)
   have HI := Lib.hid hi
   have c0 : wr.cell? ⟨w.heap.size, 0, none⟩ = some (.int .u64 base) := blk_cell hbx.out 0
   have c1 : wr.cell? ⟨w.heap.size, 1, none⟩ = some (.int .i64 limit) := blk_cell hbx.out 1
   have c2 : wr.cell? ⟨w.heap.size, 2, none⟩ = some (.int .i64 order) := blk_cell hbx.out 2
   clear hxx
   by_cases hsb : sizeB order x = true
   ·have HSB2 := Lib.hid hsb
    clear hsb
    by_cases hlt : x < 4096
    ·have hd2 : decide (x ≥ 4096) = false := decide_eq_false (by omega)
     have HK8 := Lib.hid (size_small h0 (HWF.out x HXM.out).1 (HWF.out x HXM.out).2 HSB2.out hlt)
     have HXW := Lib.hid (show (Lit.int .u64 x).wf = true from wfU (HWF.out x HXM.out).1 (HWF.out x HXM.out).2)
     have HLT := Lib.hid hlt
     obtain ⟨cv, hcv⟩ : ∃ cv, (gm x).getD 0 = cv := ⟨_, rfl⟩
     have hcvb : 0 ≤ cv ∧ cv ≤ 17592186044416 := by
      rw [← hcv, hcn.out.1 x, if_pos hlt]
      have h1 := cnt_le (l.take i) x
      have h2 := List.length_take_le i l
      have h3 := HLEN.out
      have h4 := HI.out
      omega
     obtain ⟨hcv0, hcv1⟩ := hcvb
     have HCV := Lib.hid hcv
     have HSNL := Lib.hid (show sN < maxLen from by have h1 := hsn.out; have h2 := HI.out; have h3 := HLEN.out; unfold maxLen; omega)
     clear hcv hlt
     go_wp2_with (first
      | (go_at_call 46; refine (size_c base limit h0 h8 x true HSB2.out _).mono ?_; rintro e w5 ⟨rfl, hb5⟩; have HB5 := Lib.hid hb5; have HM5 := Lib.hid (hms.out.of_block (hb5.block _ hms.out.lt)); clear hb5)
      | (at_lookup; refine wpList_lookI (by rfl) _ _ 97 (by rfl) (El.int .i64) 22 3 .u64 KU Try.underlying22 Try.underlying97 0 trivial (zero_int _) sm sN gm (by rfl) HM5.out x (by rfl) HXW.out (.int .i64 cv) (by rw [HCV.out]; rfl) ?_)
      | (at_mapUpdate; refine wpList_putI (by rfl) _ _ _ 97 (by rfl) (El.int .i64) 22 3 .u64 KU Try.underlying22 Try.underlying97 sm sN gm (by rfl) HM5.out HSNL.out x (cv + 1) (by rfl) (by rfl) HXW.out trivial ?_; intro w6 hm6 hg6; have HM6 := Lib.hid hm6; have HG6 := Lib.hid hg6; clear hm6 hg6))
     go_roundg g1
     case measure => omega
     case rel =>
      have hb5 := HB5.out
      have hg6 := HG6.out
      have hsz := hb5.size
      have hgs := HGL.out
      have hga := HGA.out
      refine ⟨i + 1, _, _, congrArg (Value.int .i64) (succ_w i (by have := HI.out; have := HLEN.out; omega)), ⟨by have := hg.out; omega⟩, ⟨?_⟩, ⟨?_⟩, ⟨HM6.out⟩, ⟨?_⟩, ⟨?_⟩, ⟨?_⟩, ⟨?_⟩⟩
      ·rw [HTK.out, List.all_append, hall.out]; simp [HSB2.out]
      ·rw [HTK.out, bigs_small _ _ _ HLT.out]
       exact (hnr.out.keep (hb5.block _ (by have := hms.out.lt; omega))).keep (hg6.block _ (by have := hms.out.lt; omega) (by intro e; injection e with e; omega))
      ·rw [HTK.out]; exact cnts_small hcn.out HK8.out _ (by rw [HCV.out])
      ·have := hsn.out; split <;> omega
      ·exact below_grownW (hbr.out.trans (hb5.mono hbr.out.size)) hg6 (by omega)
      ·exact (hg6.block _ (by have := blk_lt hbx.out; omega) (by intro e; injection e with e; omega)).trans ((hb5.block _ (blk_lt hbx.out)).trans hbx.out)
    ·have hd2 : decide (x ≥ 4096) = true := decide_eq_true (by omega)
     obtain ⟨j, hj, hxj⟩ := size_big h0 (HWF.out x HXM.out).1 (HWF.out x HXM.out).2 HSB2.out hlt
     have HXJ := Lib.hid hxj
     have hjo : j < on + 1 := by have := HON.out; omega
     have hj8 : j ≤ 8 := by omega
     have HXQ := Lib.hid (show x / 4096 = ((2 ^ j : Nat) : Int) from by rw [hxj, Int.natCast_mul]; exact Int.mul_ediv_cancel_left _ (by decide))
     obtain ⟨c1', c2', c3', c4'⟩ := hnr.out.at_ j hjo
     obtain ⟨cj, hcj⟩ : ∃ cj, (bigs order (l.take i)).getD j 0 = cj := ⟨_, rfl⟩
     have hcjb : cj ≤ 17592186044416 := by
      rw [← hcj, bigs_get order _ j hj]
      have h1 := cnt_le (l.take i) (4096 * 2 ^ j)
      have h2 := List.length_take_le i l
      have h3 := HLEN.out
      have h4 := HI.out
      omega
     rw [hcj] at c1'
     have HCJ := Lib.hid hcj
     have HLT := Lib.hid hlt
     have HNS := Lib.hid c4'
     obtain ⟨pj, hpj⟩ : ∃ pj : Nat, 2 ^ j = pj := ⟨_, rfl⟩
     have hq4 : x / 4096 = (pj : Int) := by rw [HXQ.out, hpj]
     have hq5 : Int.tdiv x 4096 = (pj : Int) := by rw [Int.tdiv_eq_ediv_of_nonneg (HWF.out x HXM.out).1, hq4]
     have hpjb : pj ≤ 256 := by rw [← hpj]; exact Nat.le_trans (Nat.pow_le_pow_right (by decide) hj8) (by decide)
     have hq6 : IntKind.u64.wrap (pj : Int) = (pj : Int) := u64_in (by omega) (by omega)
     have HLOG := Lib.hid (fun W => hpj ▸ log_c j hj8 W)
     clear hcj c4' hxj hj hlt hpj
     go_wp2_with (first
      | (go_at_call 46; refine (size_c base limit h0 h8 x true HSB2.out _).mono ?_; rintro e w5 ⟨rfl, hb5⟩; have HB5 := Lib.hid hb5; have HN5 := Lib.hid (hnr.out.keep (hb5.block _ c3')); clear hb5)
      | (go_at_call 54; refine (HLOG.out _).mono ?_; rintro e w6 ⟨rfl, ⟨d6, rfl⟩⟩; obtain ⟨e1, e2, e3, e4⟩ := (HN5.out.keep (w' := w5.drewN d6) rfl).at_ j hjo; rw [HCJ.out] at e1; have HE4 := Lib.hid e4; clear e4))
     go_roundg g1
     case measure => omega
     case rel =>
      have hb5 := HB5.out
      have hga := HGA.out
      have hgs := HGL.out
      obtain ⟨hn6, hg6⟩ := HE4.out (cj + 1)
      refine ⟨i + 1, sN, gm, congrArg (Value.int .i64) (succ_w i (by have := HI.out; have := HLEN.out; omega)), ⟨by have := hg.out; omega⟩, ⟨?_⟩, ⟨?_⟩, ⟨?_⟩, ⟨?_⟩, ⟨by have := hsn.out; omega⟩, ⟨?_⟩, ⟨?_⟩⟩
      ·rw [HTK.out, List.all_append, hall.out]; simp [HSB2.out]
      ·rw [HTK.out, HXJ.out, bigs_big _ _ j (by have := HON.out; omega), ← bigs_get order _ j (by have := HON.out; omega), HCJ.out]
       exact hn6
      ·exact hms.out.of_block ((hg6.block _ (by have := hms.out.lt; have := hb5.size; show sm < w5.heap.size; omega) (by intro e; injection e with e; omega)).trans (hb5.block _ hms.out.lt))
      ·rw [HTK.out]; exact cnts_big hcn.out (by have := HLT.out; omega)
      ·exact below_grownW (below_drewN (hbr.out.trans (hb5.mono hbr.out.size)) d6) hg6 (by omega)
      ·exact (hg6.block _ (by have := blk_lt hbx.out; have := hb5.size; show w.heap.size < w5.heap.size; omega) (by intro e; injection e with e; omega)).trans ((hb5.block _ (blk_lt hbx.out)).trans hbx.out)
   ·have HSB2 := Lib.hid (show sizeB order x = false from by simpa using hsb)
    clear hsb
    go_wp2_with (go_at_call 46; refine (size_c base limit h0 h8 x false HSB2.out _).mono ?_; rintro e w5 ⟨rfl, hb5⟩; have HB5 := Lib.hid hb5; clear hb5)
    go_ret2
    exact ⟨hbr.out.trans (HB5.out.mono hbr.out.size), .inr ⟨all_false HXM.out HSB2.out, rfl⟩⟩
  ·have hid : decide (i < l.length) = false := decide_eq_false hi
   have HI := Lib.hid hi
   have hil : l.take i = l := List.take_of_length_le (by omega)
   have hall' := hall.out
   have hnr' := hnr.out
   have hcn' := hcn.out
   rw [hil] at hall' hnr' hcn'
   have HALL := Lib.hid hall'
   have HNR := Lib.hid hnr'
   have HCN := Lib.hid hcn'
   have HMS := Lib.hid hms.out
   have HSN := Lib.hid (show sN ≤ l.length from Nat.le_trans hsn.out (by have := hg.out; omega))
   have HBR := Lib.hid hbr.out
   have HBX := Lib.hid hbx.out
   obtain ⟨ptr, hM, hptr⟩ := HR.out
   have HM := Lib.hid (hM.of_block (hbr.out.block _ hM.lt))
   have HMW := Lib.hid hM
   have HPTR := Lib.hid hptr
   clear hall' hnr' hcn' hil hall hnr hcn hms hsn hbr hbx hM hptr hi hg
   obtain ⟨wo, rfl⟩ : ∃ wo : World, wo = wr := ⟨_, rfl⟩
   go_wp2_with (first
    | (at_range; refine wpList_rangeI (by rfl) _ 74 (by rfl) El.ptr 3 87 .i64 KI Try.underlying74 mb s ptr (by rfl) HM.out ?_; intro w2 cnt2 rb hrb hrg hcnt hg2 hsz2; have HRB := Lib.hid hrb; have HRG := Lib.hid hrg; have HG2 := Lib.hid hg2; have HCT := Lib.hid hcnt; clear hrb hrg hg2 hcnt hsz2))
   go_frame
   have HNR2 := Lib.hid (HNR.out.keep (w' := w2) (HG2.out.block _ (by have := HMS.out.lt; have := HGL.out; omega) (by simp)))
   have HMS2 := Lib.hid (HMS.out.of_block (w' := w2) (HG2.out.block _ HMS.out.lt (by simp)))
   have HBR2 := Lib.hid (show Below w.heap.size w w2 from HBR.out.trans ⟨HG2.out.os, HG2.out.tape, HG2.out.output, HG2.out.size, fun q hq => HG2.out.block q (Nat.lt_of_lt_of_le hq HBR.out.size) (by simp)⟩)
   have HBX2 := Lib.hid ((HG2.out.block _ (blk_lt HBX.out) (by simp)).trans HBX.out)
   have HRBS := Lib.hid (show sm < rb ∧ w.heap.size < rb from by have h1 := HRB.out; have h2 := HMS.out.lt; have h3 := blk_lt HBX.out; omega)
   have HMSS := Lib.hid (show mb < w.heap.size from HMW.out.lt)
   have HSMW := Lib.hid (show w.heap.size < sm from by have h1 := HGA.out; have h2 := HGL.out; omega)
   clear HNR HMS HBR HBX HRB HG2 HM
   go_loopg [13] cnt2 (fun g v wx => ∃ (left : Int → Bool) (g2 : Int → Option Int) (sN2 : Nat), Aside0 (RangeI Try.prog El.ptr 3 .i64 wx mb rb s ptr left g) ∧ Aside0 (NR wx ga (on + 1) cp (bigs order l)) ∧ Aside0 (MapI Try.prog (El.int .i64) 22 .u64 wx sm sN2 g2) ∧ Aside0 (Rooms l m left g2) ∧
    Aside0 (sN2 + g ≤ l.length + s) ∧ Aside0 (Below w.heap.size w wx) ∧ Aside0 (wx.heap[w.heap.size]? = some (cfgW base limit order)))
   case atStart => exact ⟨_, gm, sN, ⟨HRG.out⟩, ⟨HNR2.out⟩, ⟨HMS2.out⟩, ⟨rooms_start HCN.out (fun x => ptr_some HPTR.out x)⟩, ⟨by have := HSN.out; have := HCT.out; omega⟩, ⟨HBR2.out⟩, ⟨HBX2.out⟩⟩
   case round =>
    obtain ⟨left, g2, sN2, hrg, hnr, hms, hroom, hsn, hbr, hbx⟩ := hrel
    go_wp2_with (first
     | (at_next; refine wpList_nextI (by rfl) _ (by rfl) El.ptr 3 .i64 KI Try.underlying3 mb rb s ptr left gk (by rfl) hrg.out ?_ ?_))
    ·intro hc0 hl0
     have HRE := Lib.hid (rooms_end hroom.out (fun x hx => hl0 _ (wfI (by omega) (by omega))))
     have HNR := Lib.hid hnr.out
     have HMS := Lib.hid hms.out
     have HBR := Lib.hid hbr.out
     have HBX := Lib.hid hbx.out
     have HRD := Lib.hid hroom.out.2
     have HSFB := Lib.hid (fun lf => soFar_bd (g := g2) (left := lf) (B := 36028797018963968) (by decide) (fun k hk => by
      have h1 := HRE.out k hk
      have hz := sz8_cells hk
      have h2 := roomSo_bd (m := m) (left := fun _ => false) (s := sz8 k) hz.1 hz.2.1 (fun x z cs q h => (HSM.out x z cs q h).2)
      have h3 := cnt_le l (sz8 k)
      have h4 := HLEN.out
      have h5 : roomSo m (fun _ => false) (sz8 k) = roomAll m (sz8 k) := rfl
      omega))
     clear hl0 hc0 hrg hnr hms hroom hsn hbr hbx HRBS
     obtain ⟨wo2, rfl⟩ : ∃ wo : World, wo = wr := ⟨_, rfl⟩
     go_wp2_with (first
      | (at_range; refine wpList_rangeI (by rfl) _ 97 (by rfl) (El.int .i64) 22 3 .u64 KU Try.underlying97 sm sN2 g2 (by rfl) HMS.out ?_; intro w4 cnt4 rb4 hrb hrg hcnt hg4 hsz4; have HRB := Lib.hid hrb; have HRG4 := Lib.hid hrg; have HG4 := Lib.hid hg4; have HCT4 := Lib.hid hcnt; clear hrb hrg hg4 hcnt hsz4))
     go_frame
     have HNR4 := Lib.hid (HNR.out.keep (w' := w4) (HG4.out.block _ (by have := HMS.out.lt; have := HGL.out; omega) (by simp)))
     have HBR4 := Lib.hid (show Below w.heap.size w w4 from HBR.out.trans ⟨HG4.out.os, HG4.out.tape, HG4.out.output, HG4.out.size, fun q hq => HG4.out.block q (Nat.lt_of_lt_of_le hq HBR.out.size) (by simp)⟩)
     have HRBS := Lib.hid (show sm < rb4 from by have h1 := HRB.out; have h2 := HMS.out.lt; omega)
     obtain ⟨b0, hb0⟩ : ∃ b0, cnt l 4096 = b0 := ⟨_, rfl⟩
     have hb0b : b0 ≤ 17592186044416 := by rw [← hb0]; exact Nat.le_trans (cnt_le l 4096) HLEN.out
     have HB0 := Lib.hid hb0
     have HSF0 := Lib.hid (soFar_start (g := g2) (left := fun x => (g2 x).isSome) (fun x => rfl))
     clear HNR HBR HBX HRB HG4 hb0
     go_loopg [14, 15, 16] cnt4 (fun g v1 v2 v3 wx => ∃ (left : Int → Bool), Aside0 (RangeI Try.prog (El.int .i64) 22 .u64 wx sm rb4 sN2 g2 left g) ∧ Aside0 (NR wx ga (on + 1) cp ((bigs order l).set 0 (b0 + (soFar g2 left).toNat))) ∧ Aside0 (0 ≤ soFar g2 left ∧ soFar g2 left ≤ 8 * 36028797018964224) ∧ Aside0 (Below w.heap.size w wx))
     case atStart => exact ⟨_, ⟨HRG4.out⟩, ⟨by rw [HSF0.out, ← HB0.out]; rw [set_same0 (by rw [bigs_length]; omega) (by rw [bigs_get order l 0 (Nat.zero_le _)]; simp)]; exact HNR4.out⟩, ⟨by rw [HSF0.out]; omega⟩, ⟨HBR4.out⟩⟩
     case round =>
      obtain ⟨left4, hrg, hnr, hsf, hbr⟩ := hrel
      go_wp2_with (first
       | (at_next; refine wpList_nextI (by rfl) _ (by rfl) (El.int .i64) 22 .u64 KU Try.underlying22 sm rb4 sN2 g2 left4 gk (by rfl) hrg.out ?_ ?_))
      ·intro hc0 hl0
       have HSE := Lib.hid (soFar_end (g := g2) (fun k hk => hl0 _ (wfU (by have := sz8_cells hk; omega) (by have := sz8_cells hk; omega))))
       clear hl0 hc0
       go_wp2
       go_ret2
       refine ⟨hbr.out, .inl ⟨HALL.out, ga, cp, by have := HON.out; rw [show order.toNat = on from by omega]; rfl, ?_⟩⟩
       have h := hnr.out
       rw [HSE.out] at h
       rw [show order.toNat = on from by have := HON.out; omega]
       unfold needOf
       rw [HB0.out, ← extra_congr HRE.out]
       exact h
      ·intro x c3 cv w5 cnt5 hcv hwx hlx hfx hok hrg5 hlt hgr5 hsz5 hen
       have hcv2 : cv = .int .i64 c3 := hcv
       subst hcv2
       obtain ⟨kx, hkx, hxk⟩ := HRD.out x (by rw [hfx]; rfl)
       have hzc := sz8_cells hkx
       rw [← hxk] at hzc
       obtain ⟨hz0, hz1, hz2, hz3⟩ := hzc
       obtain ⟨cz, hcz⟩ : ∃ cz, 4096 / x = cz := ⟨_, rfl⟩
       rw [hcz] at hz2 hz3
       have HCZ := Lib.hid hcz
       have hczt : Int.tdiv 4096 x = cz := by rw [Int.tdiv_eq_ediv_of_nonneg (by decide), hcz]
       have hczw : wrap64 cz = cz := by unfold wrap64; omega
       have hczw2 : wrap64 (4096 / x) = cz := by rw [hcz]; exact hczw
       have hzw : wrap64 x = x := by unfold wrap64; omega
       have hzi : IntKind.i64.wrap x = x := i64_in' (by omega) (by omega)
       have hci : IntKind.i64.wrap cz = cz := i64_in' (by omega) (by omega)
       have hzn : ¬ x = 0 := by omega
       have hcn0 : ¬ cz = 0 := by omega
       have hcb : -4194304 ≤ c3 ∧ c3 ≤ 36028797018963968 := by
        have h1 := HRE.out kx hkx
        rw [← hxk, hfx, Option.getD_some] at h1
        have h2 := roomSo_bd (m := m) (left := fun _ => false) (s := x) hz0 hz1 (fun x z cs q h => (HSM.out x z cs q h).2)
        have h3 := cnt_le l x
        have h4 := HLEN.out
        have h5 : roomSo m (fun _ => false) x = roomAll m x := rfl
        omega
       have HST := Lib.hid (soFar_step (g := g2) (left := left4) hkx (hxk ▸ hlx) (by rw [← hxk, hfx]; rfl))
       have HPV := Lib.hid (pages_bd hkx (n := c3) (B := 36028797018963968) hcb.2 (by decide))
       obtain ⟨N0, hN0⟩ : ∃ N0, b0 + (soFar g2 left4).toNat = N0 := ⟨_, rfl⟩
       have hN0b : N0 ≤ 17592186044416 + 8 * 36028797018964224 := by have := hsf.out; omega
       have hN0e : (N0 : Int) = b0 + soFar g2 left4 := by have := hsf.out; omega
       have hnr' : NR w5 ga (on + 1) cp ((bigs order l).set 0 N0) := hN0 ▸ hnr.out.keep (w' := w5) (hgr5.block _ (by have := hrg.out.map.lt; have := HGL.out; omega) (by intro e; injection e with e; have := HRBS.out; have := HGL.out; omega))
       obtain ⟨e1, e2, e3, e4⟩ := hnr'.at_ 0 (by omega)
       rw [List.getD_eq_getElem?_getD, List.getElem?_set_self (by rw [bigs_length]; omega), Option.getD_some] at e1
       have HNS := Lib.hid e4
       have HN0 := Lib.hid hN0
       have HN0E := Lib.hid hN0e
       have HFX := Lib.hid hfx
       have HXK := Lib.hid hxk
       have HKX := Lib.hid hkx
       have HBR5 := Lib.hid (show Below w.heap.size w w5 from below_grownW hbr.out hgr5 (by have := HRBS.out; have := HSMW.out; omega))
       have HRG5 := Lib.hid hrg5
       have HLT5 := Lib.hid hlt
       have hcb1 := hcb.2
       have hcb0 := hcb.1
       have HG5B := Lib.hid (show sm < w5.heap.size from by have h1 := hgr5.size; have h2 := hrg.out.map.lt; omega)
       clear e4 hN0 hN0e hfx hxk hcv hlx hok hwx hrg5 hlt hgr5 hsz5 hrg hnr hbr hcb hcz hkx hnr'
       go_upto_region 21 with fail
       go_still_tail 12, (by kernel_rfl)
       go_wp2
       all_goals
        have hpg : 0 ≤ pagesFor c3 x ∧ pagesFor c3 x ≤ 36028797018963968 + 256 := by have h := HPV.out; rw [← HXK.out] at h; exact h
        have HVE := Lib.hid (pg_eq (c := c3) (cz := cz) (x := x) (N0 := N0) HCZ.out hpg.1 (by omega))
        first
         | rw [HVE.out.1 (by assumption)]
         | rw [HVE.out.2 (by assumption)]
         | rw [HVE.out.1 (by omega)]
         | rw [HVE.out.2 (by omega)]
        go_roundg cnt5
        case measure => exact HLT5.out
        case rel =>
         have hs := HST.out
         rw [← HXK.out, HFX.out, Option.getD_some] at hs
         have hn := HNS.out (N0 + (pagesFor c3 x).toNat)
         have hE := HN0E.out
         refine ⟨_, ⟨HRG5.out.kept (hn.2.block _ HRG5.out.map.lt (by intro e; injection e with e; have := HGL.out; omega)) (hn.2.block _ HRG5.out.lt (by intro e; injection e with e; have := HGL.out; have := HRBS.out; omega))⟩, ⟨?_⟩, ⟨?_⟩, ⟨?_⟩⟩
         ·have h := hn.1
          rw [List.set_set] at h
          rw [show b0 + (soFar g2 (fun y => left4 y && !decide (y = x))).toNat = N0 + (pagesFor c3 x).toNat from by rw [hs]; have := hsf.out; omega]
          exact h.keep rfl
         ·exact HSFB.out _
         ·exact below_drew1 (below_grownW HBR5.out hn.2 (by have := HGA.out; omega))
    ·intro x c3 cv w3 cnt3 hcv hwx hlx hfx hok hrg3 hlt hgr3 hsz3 hen
     obtain ⟨lt, hmx, g', c', hpx, hlot⟩ := ptr_at HPTR.out hfx
     have hcv2 : cv = .pointer (some ⟨g', 0, none⟩) := by rw [hcv, hpx]; exact ptrV_nat g'
     subst hcv2
     have hdx := HD.out x (by rw [hmx]; rfl)
     obtain ⟨xn, rfl⟩ := Int.eq_ofNat_of_zero_le hdx.1
     have HXN := Lib.hid (show xn < 1024 from by omega)
     have hlot3 : LotAt w3 g' c' lt := (hlot.keep (hbr.out.block _ hlot.lt) (fun z cs n e => by subst e; exact hbr.out.block _ hlot.2.lt)).keep (hgr3.block _ (Nat.lt_of_lt_of_le hlot.lt hbr.out.size) (by intro e; injection e with e; have := hlot.lt; have := HRBS.out.2; omega)) (fun z cs n e => by subst e; exact hgr3.block _ (Nat.lt_of_lt_of_le hlot.2.lt hbr.out.size) (by intro e; injection e with e; have := hlot.2.lt; have := HRBS.out.2; omega))
     have HNR3 := Lib.hid (hnr.out.keep (w' := w3) (hgr3.block _ (by have := hms.out.lt; have := HGL.out; omega) (by intro e; injection e with e; have := HRBS.out.1; have := HGL.out; omega)))
     have HMS3 := Lib.hid (hms.out.of_block (w' := w3) (hgr3.block _ hms.out.lt (by intro e; injection e with e; have := HRBS.out.1; omega)))
     have HBR3 := Lib.hid (show Below w.heap.size w w3 from below_grownW hbr.out hgr3 (by have := HRBS.out.2; omega))
     have HBX3 := Lib.hid ((hgr3.block _ (blk_lt hbx.out) (by intro e; injection e with e; have := HRBS.out.2; omega)).trans hbx.out)
     have HRG3 := Lib.hid hrg3
     have HLT3 := Lib.hid hlt
     have HLX := Lib.hid hlx
     have HMX := Lib.hid hmx
     have HSN3 := Lib.hid hsn.out
     have HROOM := Lib.hid hroom.out
     clear hcv hpx hfx hlx hok hwx hlot hrg3 hgr3 hsz3 hdx hmx hrg hnr hms hbr hbx hlt hsn hroom
     cases lt with
     | great sz =>
      have q0 : w3.cell? ⟨g', 0, none⟩ = some (.bool true) := blk_cell hlot3 0
      clear hlot3
      go_wp2
      go_roundg cnt3
      case measure => exact HLT3.out
      case rel => exact ⟨_, g2, sN2, ⟨HRG3.out⟩, ⟨HNR3.out⟩, ⟨HMS3.out⟩, ⟨rooms_step HROOM.out HLX.out HXN.out HROOM.out.2 (fun k hk => by rw [show roomAt m (sz8 k) xn = 0 from by unfold roomAt; rw [HMX.out]]; omega)⟩, ⟨by have := HSN3.out; have := HLT3.out; omega⟩, ⟨HBR3.out⟩, ⟨HBX3.out⟩⟩
     | small z cs q =>
      have q0 : w3.cell? ⟨g', 0, none⟩ = some (.bool false) := blk_cell hlot3.1 0
      have q1 : w3.cell? ⟨g', 1, none⟩ = some (.int .u64 z) := blk_cell hlot3.1 1
      have q2 : w3.cell? ⟨g', 2, none⟩ = some (.map (some c')) := blk_cell hlot3.1 2
      have HLOT := Lib.hid hlot3
      clear hlot3
      obtain ⟨⟨kz, hkz, hz⟩, hq⟩ := HSM.out _ _ _ _ HMX.out
      have hzc := sz8_cells hkz
      rw [← hz] at hzc
      obtain ⟨hz0, hz1, hz2, hz3⟩ := hzc
      obtain ⟨cz, hcz⟩ : ∃ cz, 4096 / z = cz := ⟨_, rfl⟩
      rw [hcz] at hz2 hz3
      have HCZ := Lib.hid hcz
      have hczt : Int.tdiv 4096 z = cz := by rw [Int.tdiv_eq_ediv_of_nonneg (by decide), hcz]
      have hczw : wrap64 cz = cz := by unfold wrap64; omega
      have hczw2 : wrap64 (4096 / z) = cz := by rw [hcz]; exact hczw
      have hzw : wrap64 z = z := by unfold wrap64; omega
      obtain ⟨vz, hvz⟩ : ∃ vz, (g2 z).getD 0 = vz := ⟨_, rfl⟩
      have hvb : -4194304 ≤ vz ∧ vz ≤ 36028797018963968 := by
       have h1 := HROOM.out.1 kz hkz
       rw [← hz, hvz] at h1
       have h2 := roomSo_bd (m := m) (left := left) (s := z) hz0 hz1 (fun x z cs q h => (HSM.out x z cs q h).2)
       have h3 := cnt_le l z
       have h4 := HLEN.out
       omega
      obtain ⟨hv0, hv1⟩ := hvb
      have HVZ := Lib.hid hvz
      have HKZ := Lib.hid hkz
      have HZ := Lib.hid hz
      have HQ := Lib.hid hq
      have HZW := Lib.hid (show (Lit.int .u64 z).wf = true from wfU (by omega) (by omega))
      have HSL := Lib.hid (show sN2 < maxLen from by have h1 := HSN3.out; have h2 := HLEN.out; have h3 := HSB.out; unfold maxLen; omega)
      have hzi : IntKind.i64.wrap z = z := i64_in' (by omega) (by omega)
      have hci : IntKind.i64.wrap cz = cz := i64_in' (by omega) (by omega)
      have hs1 : IntKind.i64.wrap (cz - (q : Int)) = cz - (q : Int) := i64_in' (by omega) (by omega)
      have hs2 : IntKind.i64.wrap (vz - (cz - (q : Int))) = vz - (cz - (q : Int)) := i64_in' (by omega) (by omega)
      have hzn : ¬ z = 0 := by omega
      clear hcz hvz hkz hz
      go_upto_region 16 with fail
      have hlk : (Instr.lookup 97 (.map (some sm)) (.int .u64 z) false).run Try.prog w3.drew = .ok (.int .i64 vz) w3.drew := by
       have h := (HMS3.out.of_block (w' := w3.drew) rfl).look (t := 97) (e := 3) KU Try.underlying22 Try.underlying97 (z := 0) trivial (zero_int _) HZW.out
       rw [HVZ.out] at h
       exact h
      have hln : ∀ ty, (Builtin.len_ #[88] ty #[.map (some c')]).run Try.prog w3.drew = .ok (.int .i64 q) w3.drew := fun ty =>
       (HLOT.out.2.of_block (w' := w3.drew) rfl).len Try.underlying88 ty
      go_still_tail 19, (by kernel_rfl)
      go_wp2_with (at_mapUpdate; refine wpList_putI (by rfl) _ _ _ 97 (by rfl) (El.int .i64) 22 3 .u64 KU Try.underlying22 Try.underlying97 sm sN2 g2 (by rfl) (HMS3.out.of_block (w' := w3.drew) rfl) HSL.out z _ (by rfl) (by rfl) HZW.out trivial ?_; intro w6 hm6 hg6; have HM6 := Lib.hid hm6; have HG6 := Lib.hid hg6; clear hm6 hg6)
      go_roundg cnt3
      case measure => exact HLT3.out
      case rel =>
       have hg6 : w3.grownBy w6 (some sm) := grown_drew1 HG6.out
       have hnl := HNR3.out
       refine ⟨_, _, _, ⟨HRG3.out.kept (hg6.block _ HRG3.out.map.lt (by intro e; injection e with e; have := HMSS.out; have := HSMW.out; omega)) (hg6.block _ HRG3.out.lt (by intro e; injection e with e; have := HRBS.out.1; omega))⟩, ⟨HNR3.out.keep (hg6.block _ (by have := HMS3.out.lt; have := HGL.out; omega) (by intro e; injection e with e; have := HGL.out; omega))⟩, ⟨HM6.out⟩,
        ⟨rooms_step HROOM.out HLX.out HXN.out (dom_upd HROOM.out.2 ⟨kz, HKZ.out, HZ.out⟩) (fun k hk => ?_)⟩, ⟨by have := HSN3.out; have := HLT3.out; split <;> omega⟩, ⟨below_grownW HBR3.out hg6 (by have := HSMW.out; omega)⟩, ⟨(hg6.block _ (blk_lt HBX3.out) (by intro e; injection e with e; have := HSMW.out; omega)).trans HBX3.out⟩⟩
       by_cases e : sz8 k = z
       ·have e1 : roomAt m (sz8 k) xn = 4096 / z - (q : Int) := by unfold roomAt; rw [HMX.out]; simp only; rw [if_pos e.symm]
        rw [e1, HCZ.out]
        rw [e, HVZ.out]
        simp only [upd, if_pos, Option.getD_some]
        all_goals first | omega | (unfold wrap64; omega)
       ·have e1 : roomAt m (sz8 k) xn = 0 := by unfold roomAt; rw [HMX.out]; simp only; rw [if_neg (fun h => e h.symm)]
        rw [e1]
        (simp only [upd, if_neg e]) <;> omega
end Go.Proofs.Ytihfblnjgaalcaa.OW
