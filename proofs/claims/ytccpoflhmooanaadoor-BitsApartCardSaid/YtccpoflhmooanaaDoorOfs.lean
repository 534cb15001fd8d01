/- BitsOfs, walked: words that are written over behind the call; sets of no words. -/
import Derived.Test.YtccpoflhmooanaaDoorWalks
import Derived.Test.YtccpoflhmooanaaDoorApp
namespace Go.Proofs.YtccpoflhmooanaaDoor.Walks
open Go.RowKit Go.Proofs.YtccpoflhmooanaaDoorW.PrintWords Go.Proofs.YtccpoflhmooanaaDoorW.PrintLast Go.Proofs.YtccpoflhmooanaaDoorW.PrintMore Go.Proofs.YtccpoflhmooanaaDoor.Nums Go.Proofs.YtccpoflhmooanaaDoor.Sets Go.Proofs.YtccpoflhmooanaaDoor.SetF Go.Proofs.YtccpoflhmooanaaDoor.Mem Go.Proofs.YtccpoflhmooanaaDoor.Kept Go.Proofs.YtccpoflhmooanaaDoor.Tz
set_option linter.unusedVariables false
set_option linter.unusedSimpArgs false

/-- The first answer's row while it is written over. -/
def RowA (wr : World) (B : Nat) (Aa : Option Addr) (L ca : Nat) (xs : List Int) : Prop :=
  (Kd.int .u64).R 24 wr 0 (fun k => Value.ownBlock (.slice Aa L ca) = some k ∧ B ≤ k) (.slice Aa L ca) xs
theorem RowA.at_ {wr : World} {B : Nat} {Aa : Option Addr} {L ca : Nat} {xs : List Int} (h : RowA wr B Aa L ca xs) (hl : xs.length = L) (k : Nat) (hk : k < L) : ∃ ga, Aa = some ⟨ga, 0, none⟩ ∧ wr.cell? ⟨ga, k, none⟩ = some (.int .u64 (xs.getD k 0)) ∧ wr.frozen? ⟨ga, k, none⟩ = false ∧
    ∀ x : Int, RowA (wr.setCell ⟨ga, k, none⟩ (.int .u64 x)) B Aa L ca (xs.set k x) ∧ Upd (fun k => Value.ownBlock (.slice Aa L ca) = some k) wr (wr.setCell ⟨ga, k, none⟩ (.int .u64 x)) := by
  subst hl
  obtain ⟨ga, cap, e, -, -, -⟩ := Kd.R_form h (by omega)
  injection e with e1 e2 e3
  subst e1
  obtain ⟨c1, c2⟩ := Kd.R_cell 0 h (k : Int) (by omega) (by omega)
  refine ⟨ga, rfl, c1, c2, fun x => ?_⟩
  obtain ⟨p1, p2⟩ := Kd.R_put h (k : Int) x
  refine ⟨p1, ?_⟩
  have := (Upd.refl (fun k => Value.ownBlock (.slice (some ⟨ga, 0, none⟩) xs.length ca) = some k) wr).grown p2 (fun q hq => by injection hq with hq; exact .inl (by simp [Value.ownBlock, hq]))
  exact this
theorem new_cell (w : World) (x : Int) : (w.alloc (.cells #[.int .u64 x] 24)).cell? ⟨w.heap.size, 0, none⟩ = some (.int .u64 x) := blk_cell (blk_new w _) 0
theorem fresh_new {F G : Nat → Prop} {w1 wr : World} (h : Upd F w1 wr) (q : Nat) {o : Obj} (hq : (wr.alloc o).heap.size ≤ q) : Or G w1 q := by
  have := h.size
  simp at hq
  exact .inr (by omega)
theorem upd_new {w1 wr w2 : World} {v : Value} {xs : List Int} {o : Obj} (h : Upd No w1 wr) (hR : (Kd.int .u64).R 24 wr 0 (Or No w1) v xs) (hg : (wr.alloc o).grownBy w2 v.ownBlock) : Upd No w1 w2 :=
  (h.alloc o).grown hg (fun k hk => hR.1 k hk)
theorem take_more (l : List Int) (k : Nat) (hk : k < l.length) : l.take k ++ [rd l (k : Int)] = l.take (k + 1) := by
  rw [List.take_add_one]
  unfold rd
  rw [Int.toNat_natCast, List.getD_eq_getElem?_getD, List.getElem?_eq_getElem hk]; rfl
/-- The words that were handed over, while they are written over. -/
theorem row_own {w w1 wr : World} {l : List Int} {A : Option Addr} {c : Nat} (hb : w.heap.size ≤ w1.heap.size) (h : (Kd.int .u64).R 24 wr 0 (Or No w1) (.slice A l.length c) l) : RowA wr w.heap.size A l.length c l :=
  row_ok h (fun k hk => ⟨hk, by have := h.1 k hk; exact this.elim (fun h => h.elim) (fun h => Nat.le_trans hb h)⟩)
theorem refOf_m {l : List Int} (hw : Wd l) (n : Int) (m : Nat) (hm : fitN n = m) {w : World} {A : Option Addr} {c : Nat} (hC : (Kd.int .u64).C w A l.length l) (hc : l.length ≤ c) :
    Calls Tryd.prog 11 #[.slice A l.length c, .int .i64 n] w fun e w' => ∃ A' c', e = .returned (.slice A' m c') ∧ m ≤ c' ∧ Kd.bool.C w' A' m (tbl m (bitN l)) ∧ Below w.heap.size w w' := by
  have := refOf_c hw n m hm hC hc
  rw [tbl_length] at this
  exact this
theorem refWords_m {l : List Int} (hw : Wd l) (n : Int) (m : Nat) (hm : fitN n = m) (hm2 : m ≤ 1048576) {w : World} {A : Option Addr} {c : Nat} (hC : Kd.bool.C w A m (tbl m (bitN l))) (hc : m ≤ c) :
    Calls Tryd.prog 14 #[.slice A m c] w fun e w' => ∃ A' c', e = .returned (.slice A' (ofW l n).length c') ∧ (ofW l n).length ≤ c' ∧ (Kd.int .u64).C w' A' (ofW l n).length (ofW l n) ∧ Below w.heap.size w w' := by
  have := refWords_c (t := tbl m (bitN l)) (by rw [tbl_length]; exact hm2) (w := w) (A := A) (c := c) (by rw [tbl_length]; exact hC) (by rw [tbl_length]; exact hc)
  rw [tbl_length, ref_words_of hw n m hm] at this
  refine this.mono ?_
  rintro e w' ⟨A', c', rfl, hr, hb⟩
  obtain ⟨A2, c2, e2, h1, h2⟩ := Kd.R_reads hr
  injection e2 with e3 e4 e5
  subst e3
  subst e5
  exact ⟨_, _, rfl, h1, h2, hb⟩
theorem len_bd {n : Nat} (h : n * 8 ≤ 140737488351232) : n ≤ 140737488351232 := by omega
theorem app_bd {k n : Nat} (h : k ≤ n) (hy : n * 8 ≤ 140737488351232) : (k + 1) * 8 ≤ 140737488355328 ∧ k + 1 ≤ maxLen := ⟨by omega, by simp only [maxLen]; omega⟩
theorem succ_w (k : Nat) (h : k < 140737488351232) : wrap64 ((k : Int) + 1) = ((k + 1 : Nat) : Int) := by unfold wrap64; omega
theorem meas2 (n k : Nat) {x : Int} (h : k < n) (e : x = ((k + 1 : Nat) : Int)) : n - (intOf (Value.int .i64 x)).toNat < n - (intOf (Value.int .i64 (k : Int))).toNat := by subst e; simp only [intOf, Int.toNat_natCast]; omega
theorem meas (n k : Nat) (x : Int) (h : k < n) (e : x = ((k + 1 : Nat) : Int)) : n - x.toNat < n - k := by subst e; omega
theorem less_w (n k : Nat) (h : k < n) (h2 : n ≤ 140737488351232) : n - (wrap64 ((k : Int) + 1)).toNat < n - ((k : Int)).toNat := by rw [succ_w k (by omega)]; omega
theorem none_bit (n : Int) (j : Nat) : bitN (ofW [] n) j = false := by
  rw [ofW_bit wd_nil n j]
  have : bitN [] j = false := bitN_out (by simp)
  rw [this]; simp
theorem cn_nil (n : Int) (m : Nat) : cn (bitN (ofW [] n)) m = 0 := cn_none _ _ (fun j _ => none_bit n j)
theorem nxt_nil (n : Int) (m : Nat) : nxt (bitN (ofW [] n)) m ((0 : Int)).toNat = -1 := by
  rw [nxt_skip (bitN (ofW [] n)) m m _ (fun j _ _ => none_bit n j)]
  exact nxt_end _ _ _ (by omega)
theorem ofW_le (l : List Int) (n : Int) : (ofW l n).length ≤ 1048576 := by
  have := fitN_bd n
  rw [ofW_length]; unfold wdsN; omega
theorem own_lt {wr : World} {B : Nat} {A : Option Addr} {L c : Nat} {xs : List Int} (h : RowA wr B A L c xs) : ∀ k, Value.ownBlock (.slice A L c) = some k → k < wr.heap.size := fun k hk => Kd.R_lt h k hk
theorem own_ge {wr : World} {B : Nat} {A : Option Addr} {L c : Nat} {xs : List Int} (h : RowA wr B A L c xs) : ∀ k, Value.ownBlock (.slice A L c) = some k → B ≤ k := fun k hk => (h.1 k hk).2
set_option maxHeartbeats 4000000 in
set_option maxRecDepth 100000 in
theorem ofs_calls {l : List Int} (hw : Wd l) (n : Int) (w : World) (hT : Tab w) {A : Option Addr} {c : Nat} (hC : (Kd.int .u64).C w A l.length l) (hc : l.length ≤ c) (hy : l.length * 8 ≤ 140737488351232) :
    Calls Tryd.prog 3 #[.slice A l.length c, .int .i64 n] w fun e w' => e = .returned (.bool true) ∧ Below w.heap.size w w' := by
  obtain ⟨m, hm, hm2⟩ := fitN_nat n
  have HW := Lib.hid hw
  have HM := Lib.hid hm
  have HM2 := Lib.hid hm2
  have HC := Lib.hid hC
  have Hc := Lib.hid hc
  have HT := Lib.hid hT
  have HY := Lib.hid (fun k (h : k ≤ l.length) => app_bd h hy)
  have HS1 := Lib.hid (fun k (h : k < l.length) => succ_w k (Nat.lt_of_lt_of_le h (len_bd hy)))
  clear hw hm hC hc hT hm2 hy
  go_enter Tryd.func3, Tryd.ntmps3
  go_wp2_with (go_at_call 8; refine (awake_calls _).mono ?_; rintro e w1 ⟨rfl, hb1⟩)
  have HB1 := Lib.hid hb1
  clear hb1
  go_loopw [5, 6] (fun g i wr => ∃ k : Nat, k ≤ l.length ∧ i = .int .i64 k ∧ ∃ (A' : Option Addr) (c' : Nat), g = .slice A' (l.take k).length c' ∧
      Aside0 ((Kd.int .u64).R 24 wr 0 (Or No w1) (.slice A' (l.take k).length c') (l.take k)) ∧ Aside0 (Upd No w1 wr)) (fun _ i _ => l.length - (intOf i).toNat)
  case atStart => exact ⟨0, Nat.zero_le _, rfl, none, 0, rfl, ⟨Kd.R_nil _ _ _ _ _⟩, ⟨Upd.refl _ _⟩⟩
  case round =>
    obtain ⟨k, hk, rfl, A', c', rfl, hR, hupd⟩ := hrel
    have hbr := Lib.hid (HB1.out.trans (hupd.out.fresh.mono HB1.out.size))
    by_cases hlt : k < l.length
    · obtain ⟨ad, e, hx⟩ := Kd.at_int (Kd.C_below HC.out hbr.out) (k : Int) (Int.natCast_nonneg k) (Int.ofNat_lt.2 hlt)
      subst e
      rw [Int.toNat_natCast] at hx
      have hlen : (l.take k).length = k := List.length_take_of_le hk
      have HLEN := Lib.hid hlen
      clear hlen
      go_wp2_with ((with_reducible refine gate_dst (N := 25) rfl ?_); refine append_keeps (enc := Value.int .u64) (h1 := fun _ => rfl) (0 : Int) _ rfl _ _ 22 24 (.int .u64 0) 8 rfl Tryd.underlying22 info_u64 rfl A' c' (l.take k) (rd l (k : Int)) (Or No w1) rfl _ 1 rfl (new_cell _ _) (Kd.R_alloc hR.out _) (fun q hq => fresh_new hupd.out q hq) (by rw [HLEN.out]; exact (HY.out k hk).1) (by rw [HLEN.out]; exact (HY.out k hk).2) ?_; intro A2 c2 w2 hR2 hg2 hC2; clear hC2; rw [take_more l k hlt] at hR2 ⊢)
      have HR2 := Lib.hid hR2
      have HU2 := Lib.hid (upd_new hupd.out hR.out hg2)
      clear hR2 hg2
      go_roundw
      case rel => exact ⟨k + 1, hlt, congrArg (Value.int .i64) (HS1.out k hlt), A2, c2, by rw [List.length_take], ⟨HR2.out⟩, ⟨HU2.out⟩⟩
      case measure => exact meas2 _ _ hlt (HS1.out k hlt)
    · obtain rfl : k = l.length := Nat.le_antisymm hk (Nat.le_of_not_lt hlt)
      have hR0 := hR.out
      rw [List.take_length] at hR0 ⊢
      have HR0 := Lib.hid (row_own HB1.out.size hR0)
      have hCl := (Kd.R_reads' hR0).2.2
      have HCl := Lib.hid hCl
      clear hR hR0 hCl
      go_wp2_with (go_at_call 9; refine (Of_calls n HCl.out HW.out).mono ?_; rintro e w4 ⟨b, rfl, hs4, hu4⟩; rw [HM.out] at hs4; have HS4 := Lib.hid hs4; have HU4 := Lib.hid hu4; have HR4 : Hid (RowA w4 w.heap.size A' l.length c' l) := Lib.hid (hu4.row HR0.out (fun _ _ h => h)); clear hs4 hu4)
      have HUP := Lib.hid hupd.out
      clear hupd hbr
      obtain ⟨wr0, rfl⟩ : ∃ w0 : World, w0 = wr := ⟨_, rfl⟩
      go_loopw [8] (fun i wr => ∃ k : Nat, k ≤ l.length ∧ i = .int .i64 k ∧ ∃ xs : List Int, Aside0 (xs.length = l.length) ∧ Aside0 (RowA wr w.heap.size A' l.length c' xs) ∧ Aside0 (Upd (fun k => Value.ownBlock (.slice A' l.length c') = some k) w4 wr)) (fun i _ => l.length - (intOf i).toNat)
      case atStart => exact ⟨0, Nat.zero_le _, rfl, l, ⟨rfl⟩, ⟨HR4.out⟩, ⟨Upd.refl _ _⟩⟩
      case round =>
        obtain ⟨k, hk, rfl, xs, hxl, hrow, hu⟩ := hrel
        by_cases hlt : k < l.length
        · obtain ⟨ga, rfl, c1, c2, hput⟩ := hrow.out.at_ hxl.out k hlt
          have HP := Lib.hid hput
          clear hput
          go_wp2
          go_roundw
          case rel => exact ⟨k + 1, hlt, congrArg (Value.int .i64) (HS1.out k hlt), _, ⟨(List.length_set ..).trans hxl.out⟩, ⟨(HP.out _).1⟩, ⟨hu.out.trans (HP.out _).2 (fun _ h _ => h)⟩⟩
          case measure => exact meas2 _ _ hlt (HS1.out k hlt)
        · have hd : decide (k < l.length) = false := decide_eq_false hlt
          clear hlt hk
          have HR5 := Lib.hid hrow.out
          have HU5 := Lib.hid hu.out
          have HS5 := Lib.hid (HS4.out.bound.upd (F := fun q => New wr0 q ∧ q < w4.heap.size) hu.out (fun q hq he => absurd (own_lt HR0.out q he) (Nat.not_lt.2 hq.1)))
          have hb5 := HB1.out.trans (HUP.out.fresh.mono HB1.out.size)
          have hb6 := hb5.trans (HU4.out.fresh.mono hb5.size)
          have HB5 := Lib.hid (Upd.below_trans hb6 hu.out (fun q he => own_ge HR0.out q he) hb6.size)
          clear hb5 hb6 hrow hu hxl
          go_wp2_with (first
            | (go_at_call 10; refine (NewSet_calls _ n).mono ?_; rintro e w6 ⟨b2, rfl, hs6, hu6⟩; rw [HM.out] at hs6; have HE6 := Lib.hid hs6; have HS6 := Lib.hid (HS5.out.upd hu6 (fun _ _ h => h)); have HB6 := Lib.hid (HB5.out.trans (hu6.fresh.mono HB5.out.size)); clear hs6 hu6)
            | (go_at_call 11; (with_reducible refine (refOf_m HW.out n m HM.out (Kd.C_below HC.out HB6.out) Hc.out).mono ?_); rintro e w7 ⟨At, ct, rfl, lt, hCt, hu7⟩; have HS7 := Lib.hid (HS6.out.upd (Upd.of_below (F := No) hu7) (fun _ _ h => h)); have HE7 := Lib.hid (HE6.out.upd (Upd.of_below (F := No) hu7) (fun _ _ h => h)); have HB7 := Lib.hid (HB6.out.trans (hu7.mono HB6.out.size)))
            | (go_at_call 13; (with_reducible refine (Words_calls HS7.out).mono ?_); rintro e w8 ⟨va, rfl, hRa, hu8⟩; obtain ⟨Aa, ca, rfl, hla, hCa⟩ := Kd.R_reads hRa; have HE8 := Lib.hid (HE7.out.upd (Upd.of_below (F := No) hu8) (fun _ _ h => h)); have HB8 := Lib.hid (HB7.out.trans (hu8.mono HB7.out.size)); have HCt := Lib.hid (Kd.C_below hCt hu8))
            | (go_at_call 14; (with_reducible refine (refWords_m HW.out n m HM.out HM2.out HCt.out lt).mono ?_); rintro e w9 ⟨Aw, cw, rfl, lw, hCw, hu9⟩; have HE9 := Lib.hid (HE8.out.upd (Upd.of_below (F := No) hu9) (fun _ _ h => h)); have HB9 := Lib.hid (HB8.out.trans (hu9.mono HB8.out.size)); have HCa := Lib.hid (Kd.C_below hCa hu9))
            | (go_at_call 12; (with_reducible refine (same_c (ofW l n) (ofW_le l n) HCa.out hla hCw lw).mono ?_); rintro e w10 ⟨rfl, ⟨d10, rfl⟩⟩; have HE10 := Lib.hid (set_drewN HE9.out d10); have HB10 := Lib.hid (below_drewN HB9.out d10))
            | (go_at_call 15; refine (Len_calls HE10.out).mono ?_; rintro e w11 ⟨rfl, rfl⟩)
            | (go_at_call 16; refine (Count_calls HE10.out (ofW_clean wd_nil n m HM.out)).mono ?_; rintro e w12 ⟨rfl, ⟨d12, rfl⟩⟩; rw [cn_nil n m]; have HE12 := Lib.hid (set_drewN HE9.out (d10 + d12)); have HB12 := Lib.hid (below_drewN HB9.out (d10 + d12)))
            | (go_at_call 17; refine (Next_calls HE12.out (ofW_clean wd_nil n m HM.out) (tab_below HT.out HB12.out) 0).mono ?_; rintro e w13 ⟨rfl, rfl⟩; rw [nxt_nil n m])
            | (go_at_call 13; (with_reducible refine (Words_calls HE12.out).mono ?_); rintro e w14 ⟨vb, rfl, hRb, hu14⟩; obtain ⟨Ab, cb, rfl, hlb, hCb⟩ := Kd.R_reads hRb; have HB14 := Lib.hid (HB12.out.trans (hu14.mono HB12.out.size)))
            | (go_at_call 11; refine (refOf_m (l := []) (A := none) (c := 0) wd_nil n m HM.out (Kd.C_nil _ _) (Nat.le_refl _)).mono ?_; rintro e w15 ⟨At2, ct2, rfl, lt2, hCt2, hu15⟩; have HB15 := Lib.hid (HB14.out.trans (hu15.mono HB14.out.size)); have HCb := Lib.hid (Kd.C_below hCb hu15))
            | (go_at_call 14; (with_reducible refine (refWords_m wd_nil n m HM.out HM2.out hCt2 lt2).mono ?_); rintro e w16 ⟨Aw2, cw2, rfl, lw2, hCw2, hu16⟩; have HB16 := Lib.hid (HB15.out.trans (hu16.mono HB15.out.size)); have HCb2 := Lib.hid (Kd.C_below HCb.out hu16))
            | (go_at_call 12; (with_reducible refine (same_c (ofW [] n) (ofW_le [] n) HCb2.out hlb hCw2 lw2).mono ?_); rintro e w17 ⟨rfl, ⟨d17, rfl⟩⟩; have HB17 := Lib.hid (below_drewN HB16.out d17)))
          go_ret
          exact ⟨rfl, HB17.out⟩
theorem ofs_walk (a0 : Option Addr) (len0 cap0 : Nat) (z0 : List Int) (a1 : Int) (w : World) (hT : Tab w)
    (w0 : (a0 = none ∧ len0 = 0 ∧ cap0 = 0 ∧ z0 = []) ∨ ∃ x, a0 = some x ∧ len0 ≤ cap0 ∧ cap0 ≤ maxLen ∧ z0.length = cap0 ∧ (∀ i, i < z0.length → w.cell? (x.add i) = some (.int .u64 (z0.getD i 0))) ∧ ∀ n ∈ z0, (Lit.int .u64 n).wf = true) (y0 : len0 * 8 ≤ 140737488351232) :
    Calls Tryd.prog 3 #[.slice a0 len0 cap0, .int .i64 a1] w fun e w' => e = .returned (.bool true) ∧ Below w.heap.size w w' := by
  obtain ⟨l0, rfl, hr0, hm0, hw0, hc0⟩ := ReadsInt.ofRowC w0
  exact ofs_calls (wd_wf hw0) a1 w hT (Kd.C_of_reads (d := (0 : Int)) (h1 := fun _ => rfl) hr0) hc0 y0
end Go.Proofs.YtccpoflhmooanaaDoor.Walks
