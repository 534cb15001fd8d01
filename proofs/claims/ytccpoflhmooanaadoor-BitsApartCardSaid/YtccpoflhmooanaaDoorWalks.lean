/- BitsWalks, walked: from one to the next, each put out. -/
import Derived.Test.YtccpoflhmooanaaDoorSet2
import Derived.Test.YtccpoflhmooanaaDoorRefC
import Derived.Test.YtccpoflhmooanaaDoorAwake
namespace Go.Proofs.YtccpoflhmooanaaDoor.Walks
open Go.RowKit Go.Proofs.YtccpoflhmooanaaDoorW.PrintWords Go.Proofs.YtccpoflhmooanaaDoorW.PrintLast Go.Proofs.YtccpoflhmooanaaDoorW.PrintMore Go.Proofs.YtccpoflhmooanaaDoor.Nums Go.Proofs.YtccpoflhmooanaaDoor.Sets Go.Proofs.YtccpoflhmooanaaDoor.SetF Go.Proofs.YtccpoflhmooanaaDoor.Mem Go.Proofs.YtccpoflhmooanaaDoor.Kept Go.Proofs.YtccpoflhmooanaaDoor.Tz
set_option linter.unusedVariables false
set_option linter.unusedSimpArgs false

theorem step_some {ws : List Int} {m L q : Nat} (hl : (ws.length : Int) = ((m : Int) + 63) / 64) (hm : m ≤ 1048576) (h : ∀ j, j < L → bitN ws j = false) (h2 : L ≤ q) (h3 : q < m) (h4 : bitN ws q = true) (h5 : ∀ j, L ≤ j → j < q → bitN ws j = false) :
    nxt (bitN ws) m q = q ∧ bitN (flipW ws q) q = false ∧ cn (bitN (flipW ws q)) m + 1 = cn (bitN ws) m ∧ cn (bitN ws) m ≤ 1048576 ∧ (∀ j, j < q + 1 → bitN (flipW ws q) j = false) ∧ nxt (bitN (flipW ws q)) m q = nxt (bitN (flipW ws q)) m (q + 1) ∧ q / 64 < ws.length := by
  have hq : q / 64 < ws.length := by omega
  have e : bitN (flipW ws q) q = false := by rw [flip_bit ws q hq, if_pos rfl, h4]; rfl
  refine ⟨nxt_hit _ _ _ h3 h4, e, cn_flip ws q hq h4 m h3, Nat.le_trans (cn_le _ _) hm, fun j hj => ?_, nxt_step _ _ _ e, hq⟩
  by_cases h6 : j = q
  · rw [h6]; exact e
  · rw [flip_bit ws q hq, if_neg h6]
    by_cases h7 : j < L
    · exact h j h7
    · exact h5 j (by omega) (by omega)
theorem tests (L q m : Nat) (h2 : L ≤ q) (h3 : q < m) (hm : m ≤ 1048576) : decide ((q : Int) ≤ (L : Int) - 1) = false ∧ decide ((q : Int) ≥ (m : Int)) = false ∧ decide (m ≤ q) = false ∧ decide ((q : Int) < (m : Int)) = true ∧ 0 ≤ (q : Int) ∧ (q : Int) < (m : Int) := by
  refine ⟨decide_eq_false (by omega), decide_eq_false (by omega), decide_eq_false (by omega), decide_eq_true (by omega), by omega, by omega⟩
theorem last_q (q : Nat) : (q : Int) = ((q + 1 : Nat) : Int) - 1 := by omega
theorem dec_cn (a a' : Nat) (h : a' + 1 = a) (h2 : a ≤ 1048576) : wrap64 ((a : Int) - 1) = (a' : Int) := by unfold wrap64; omega
theorem new_from {w w1 : World} (h : w.heap.size ≤ w1.heap.size) : ∀ k, New w1 k → w.heap.size ≤ k := fun k hk => by unfold New at hk; omega
theorem below_drewN {w w1 : World} {B : Nat} (h : Below B w w1) (n : Nat) : Below B w (w1.drewN n) := pw_below_drewN h n
theorem set_drewN {F : Nat → Prop} {w : World} {b : Nat} {n : Int} {ws : List Int} (h : SetR F w b n ws) (k : Nat) : SetR F (w.drewN k) b n ws := h.step (fun _ _ _ => rfl)
theorem tab_below {w w' : World} (h : Tab w) (hb : Below w.heap.size w w') : Tab w' := h.below hb
set_option maxHeartbeats 4000000 in
set_option maxRecDepth 100000 in
theorem walks_calls {l : List Int} (hw : Wd l) (n : Int) (w : World) (hT : Tab w) {A : Option Addr} {c : Nat} (hC : (Kd.int .u64).C w A l.length l) (hc : l.length ≤ c) :
    Calls Tryd.prog 4 #[.slice A l.length c, .int .i64 n] w fun e w' => e = .returned (.bool true) ∧ Below w.heap.size w w' := by
  obtain ⟨m, hm, hm2⟩ := fitN_nat n
  have HW := Lib.hid hw
  have HM := Lib.hid hm
  have HM2 := Lib.hid hm2
  have HC := Lib.hid hC
  have Hc := Lib.hid hc
  have HT := Lib.hid hT
  have HCl := Lib.hid (ofW_clean hw n m hm)
  clear hw hm hC hc hT hm2
  go_enter Tryd.func4, Tryd.ntmps4
  go_wp2_with (first
    | (go_at_call 8; refine (awake_calls _).mono ?_; rintro e w1 ⟨rfl, hb1⟩)
    | (go_at_call 9; refine (Of_calls n (Kd.C_below HC.out hb1) HW.out).mono ?_; rintro e w2 ⟨b, rfl, hs2, hu2⟩; have hb2 := hb1.trans (hu2.fresh.mono hb1.size); rw [HM.out] at hs2; have HS2 := Lib.hid hs2; clear hs2)
    | (go_at_call 16; refine (Count_calls HS2.out HCl.out).mono ?_; rintro e w3 ⟨rfl, ⟨d3, rfl⟩⟩; have HS3 := Lib.hid (set_drewN HS2.out d3); have hb3 := below_drewN hb2 d3; have HT3 := Lib.hid (tab_below HT.out hb3))
    | (go_at_call 17; refine (Next_calls HS3.out HCl.out HT3.out 0).mono ?_; rintro e w4 ⟨rfl, rfl⟩))
  go_loopw [6, 7, 8] (fun left i last wr => ∃ (ws : List Int) (L a : Nat) (x y : Int), left = .int .i64 a ∧ i = .int .i64 x ∧ last = .int .i64 y ∧ Aside0 (a = cn (bitN ws) m) ∧ Aside0 (x = nxt (bitN ws) m L) ∧ Aside0 (y = (L : Int) - 1) ∧
      Aside0 (SetR (New w1) wr b (m : Int) ws) ∧ Aside0 (SetF.Clean m ws) ∧ Aside0 (∀ j, j < L → bitN ws j = false) ∧ Aside0 (Below w.heap.size w wr)) (fun left _ _ _ => (intOf left).toNat)
  case atStart => exact ⟨ofW l n, 0, _, _, -1, rfl, rfl, rfl, ⟨rfl⟩, ⟨rfl⟩, ⟨rfl⟩, ⟨HS3.out⟩, ⟨HCl.out⟩, ⟨fun j hj => absurd hj (Nat.not_lt_zero j)⟩, ⟨hb3⟩⟩
  case round =>
    clear HS2 HS3 HCl HT3 HC Hc hb3 hb2 hu2
    have HB1 := Lib.hid hb1
    clear hb1
    obtain ⟨ws, L, a, x, y, rfl, rfl, rfl, ha, hx, hy, hs, hcl, hz, hbr⟩ := hrel
    have hTr := Lib.hid (tab_below HT.out hbr.out)
    rcases nxt_cases (bitN ws) m (m - L) L rfl with ⟨h1, h2⟩ | ⟨q, h1, h2, h3, h4, h5⟩
    · obtain rfl : x = -1 := hx.out.trans h1
      have e0 : cn (bitN ws) m = 0 := cn_none _ _ (fun j hj => by
        by_cases h : j < L
        · exact hz.out j h
        · exact h2 j (Nat.le_of_not_lt h) hj)
      obtain rfl : a = 0 := ha.out.trans e0
      have E0 := Lib.hid e0
      clear h1 h2 e0 hx ha
      go_wp2_with (go_at_call 16; refine (Count_calls hs.out hcl.out).mono ?_; rintro e w3 ⟨rfl, ⟨d4, rfl⟩⟩; rw [E0.out])
      go_ret
      exact ⟨rfl, below_drewN hbr.out d4⟩
    · obtain ⟨f1, f2, f3, f4, f5, f6, f7⟩ := step_some hs.out.2.2.1 HM2.out hz.out h2 h3 h4 h5
      obtain ⟨t1, t2, t3, t4, t5, t6⟩ := tests L q m h2 h3 HM2.out
      rw [← hy.out] at t1
      obtain rfl : x = (q : Int) := hx.out.trans h1
      have w1 := dec_cn a (cn (bitN (flipW ws q)) m) (f3.trans ha.out.symm) (Nat.le_trans (Nat.le_of_eq ha.out) f4)
      have g1 := Get_in hs.out (q : Int) t5 t6
      rw [bitI_bitN hs.out.2.2.2.1, h4] at g1
      have G1 := Lib.hid g1
      have N1 := Lib.hid (Next_calls hs.out hcl.out hTr.out (q : Int))
      have e1 : nxt (bitN ws) m ((q : Int)).toNat = (q : Int) := f1
      have E1 := Lib.hid e1
      have F1 := Lib.hid (Flip_in hs.out q t6)
      have F2 := Lib.hid f2
      have F3 := Lib.hid f3
      have F5 := Lib.hid f5
      have F6 := Lib.hid f6
      have C2 := Lib.hid (flip_clean hcl.out q h3 f7)
      have T5 := Lib.hid t5
      have T6 := Lib.hid t6
      have HA := Lib.hid ha.out
      clear g1 e1 f1 f2 f3 f5 f6 f7 h1 h2 h3 h4 h5 hx hz f4 ha hy
      generalize hcq : cn (bitN (flipW ws q)) m = a' at w1
      have HCQ := Lib.hid hcq
      clear hcq
      by_cases h99 : q % 4099 = 0
      all_goals
        have s1 : ((q : Int) % 4099 == 0) = decide (q % 4099 = 0) := by rw [Bool.eq_iff_iff]; simp only [beq_iff_eq, decide_eq_true_eq]; omega
        first
          | rw [decide_eq_true h99] at s1
          | rw [decide_eq_false h99] at s1
        clear h99
        go_wp2_with (first
          | (go_at_call 15; refine (Len_calls hs.out).mono ?_; rintro e w5 ⟨rfl, rfl⟩)
          | (go_at_call 18; (with_reducible refine G1.out.mono ?_); rintro e w6 ⟨rfl, rfl⟩)
          | (go_at_call 17; (with_reducible refine N1.out.mono ?_); rintro e w7 ⟨rfl, rfl⟩; rw [E1.out])
          | (go_at_call 19; refine F1.out.mono ?_; rintro e w8 ⟨rfl, hs8, hu8⟩; have HS8 := Lib.hid hs8; have hb8 := Lib.hid (Upd.below_trans hbr.out hu8 (new_from HB1.out.size) hbr.out.size); have g2 := Get_in hs8 (q : Int) T5.out T6.out; rw [bitI_bitN hs8.2.2.2.1, F2.out] at g2; have G2 := Lib.hid g2; clear hs8 hu8 g2; have HT8 := Lib.hid (tab_below HT.out hb8.out))
          | (go_at_call 18; (with_reducible refine G2.out.mono ?_); rintro e w9 ⟨rfl, rfl⟩)
          | (go_at_call 16; refine (Count_calls HS8.out C2.out).mono ?_; rintro e w10 ⟨rfl, ⟨d10, rfl⟩⟩; rw [HCQ.out])
          | (go_at_call 17; (with_reducible refine (Next_calls HS8.out C2.out HT8.out (q : Int)).mono ?_); rintro e w11 ⟨rfl, rfl⟩)
          | (go_at_call 17; (with_reducible refine (Next_calls (set_drewN HS8.out d10) C2.out (tab_below HT.out (below_drewN hb8.out d10)) (q : Int)).mono ?_); rintro e w11 ⟨rfl, rfl⟩))
        go_roundw
        case rel =>
          first
            | exact ⟨flipW ws q, q + 1, a', _, _, rfl, rfl, rfl, ⟨HCQ.out.symm⟩, ⟨F6.out⟩, ⟨last_q q⟩, ⟨HS8.out⟩, ⟨C2.out⟩, ⟨F5.out⟩, ⟨hb8.out⟩⟩
            | exact ⟨flipW ws q, q + 1, a', _, _, rfl, rfl, rfl, ⟨HCQ.out.symm⟩, ⟨F6.out⟩, ⟨last_q q⟩, ⟨set_drewN HS8.out d10⟩, ⟨C2.out⟩, ⟨F5.out⟩, ⟨below_drewN hb8.out d10⟩⟩
        case measure =>
          have h1 := F3.out
          rw [HCQ.out, ← HA.out] at h1
          simp [intOf]
          omega
theorem walks_walk (a0 : Option Addr) (len0 cap0 : Nat) (z0 : List Int) (a1 : Int) (w : World) (hT : Tab w)
    (w0 : (a0 = none ∧ len0 = 0 ∧ cap0 = 0 ∧ z0 = []) ∨ ∃ x, a0 = some x ∧ len0 ≤ cap0 ∧ cap0 ≤ maxLen ∧ z0.length = cap0 ∧ (∀ i, i < z0.length → w.cell? (x.add i) = some (.int .u64 (z0.getD i 0))) ∧ ∀ n ∈ z0, (Lit.int .u64 n).wf = true) :
    Calls Tryd.prog 4 #[.slice a0 len0 cap0, .int .i64 a1] w fun e w' => e = .returned (.bool true) ∧ Below w.heap.size w w' := by
  obtain ⟨l0, rfl, hr0, hm0, hw0, hc0⟩ := ReadsInt.ofRowC w0
  exact walks_calls (wd_wf hw0) a1 w hT (Kd.C_of_reads (d := (0 : Int)) (h1 := fun _ => rfl) hr0) hc0
end Go.Proofs.YtccpoflhmooanaaDoor.Walks
