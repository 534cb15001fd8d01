/- BitsBack, walked: a set of a set's words holds what it holds; cut and lengthened again, what lies below the cut. -/
import Derived.Test.YtccpoflhmooanaaKept
namespace Go.Proofs.Ytccpoflhmooanaa.Back
open Go.RowKit Go.Proofs.YtccpoflhmooanaaW.PrintWords Go.Proofs.YtccpoflhmooanaaW.PrintLast Go.Proofs.YtccpoflhmooanaaW.PrintMore Go.Proofs.Ytccpoflhmooanaa.Nums Go.Proofs.Ytccpoflhmooanaa.Sets Go.Proofs.Ytccpoflhmooanaa.SetF Go.Proofs.Ytccpoflhmooanaa.Mem Go.Proofs.Ytccpoflhmooanaa.Kept
set_option linter.unusedVariables false
set_option linter.unusedSimpArgs false

theorem fitN_self (m : Int) (h0 : 0 ≤ m) (h1 : m ≤ 1048576) : fitN m = m := by unfold fitN mx mn; split <;> split <;> omega
theorem fitN_lt (k : Nat) (cut : Int) (hk : k < 1048576) : ((k : Int) < fitN cut) ↔ ((k : Int) < cut) := by unfold fitN mx mn; split <;> split <;> omega
/-- What the cut and lengthened set holds. -/
theorem back_bit {ws : List Int} (hw : Wd ws) (m : Nat) (hm : m ≤ 1048576) (cut : Int) (k : Nat) (hk : k < m) :
    bitI (ofW (ofW (ofW ws (m : Int)) cut) (m : Int)) (k : Int) = (bitI ws (k : Int) && decide ((k : Int) < cut)) := by
  have w1 := ofW_wd hw (m : Int)
  have w2 := ofW_wd w1 cut
  have w3 := ofW_wd w2 (m : Int)
  rw [bitI_bitN w3, bitI_bitN hw, ofW_bit w2, ofW_bit w1, ofW_bit hw, fitN_self (m : Int) (by omega) (by omega)]
  have e := fitN_lt k cut (by omega)
  by_cases h : (k : Int) < cut
  · simp [h, e.2 h, hk]
  · simp [h, hk]
    intro h2
    exact absurd (e.1 h2) h

theorem apart {w1 w2 w3 : World} (h : w2.heap.size ≤ w3.heap.size) : ∀ k, (New w1 k ∧ k < w2.heap.size) → ¬ New w3 k := fun k hk hn => by
  have := hk.2
  unfold New at hn
  omega
theorem or_new {w3 w4 : World} (h : w3.heap.size ≤ w4.heap.size) : ∀ k, Or (New w3) w4 k → New w3 k := fun k hk => hk.elim id (fun h2 => by unfold New; omega)
theorem new_le {w w3 : World} (h : w.heap.size ≤ w3.heap.size) : ∀ k, New w3 k → w.heap.size ≤ k := fun k hk => by unfold New at hk; omega
set_option maxHeartbeats 4000000 in
set_option maxRecDepth 100000 in
theorem back_calls {l : List Int} (hw : Wd l) (n cut : Int) (w : World) {A : Option Addr} {c : Nat} (hC : (Kd.int .u64).C w A l.length l) (hc : l.length ≤ c) :
    Calls Try.prog 5 #[.slice A l.length c, .int .i64 n, .int .i64 cut] w fun e w' => e = .returned (.bool true) ∧ Below w.heap.size w w' := by
  obtain ⟨m, hm, hm2⟩ := fitN_nat n
  have hww := ofW_wd hw n
  have hf : fitN (m : Int) = m := fitN_self _ (by omega) (by omega)
  have HW := Lib.hid hw
  have HWW := Lib.hid hww
  have HM := Lib.hid hm
  have HF := Lib.hid hf
  have HC := Lib.hid hC
  have Hc := Lib.hid hc
  clear hw hm hC hc hww hf
  go_enter Try.func5, Try.ntmps5
  have tok1 : True := trivial
  go_wp2_with (first
    | (go_at_call 16; refine (awake_calls _).mono ?_; rintro e w1 ⟨rfl, hb1⟩)
    | (go_at_call 17; have _t := tok1; refine (Of_calls n (Kd.C_below HC.out hb1) HW.out).mono ?_; rintro e w2 ⟨b, rfl, hs2, hu2⟩; have hb2 := hb1.trans (hu2.fresh.mono hb1.size); rw [HM.out] at hs2; clear tok1)
    | (go_at_call 22; have _u := hs2; refine (Len_calls hs2).mono ?_; rintro e w3 ⟨rfl, rfl⟩)
    | (go_at_call 18; refine (Words_calls hs2).mono ?_; rintro e w3 ⟨va, rfl, hRa, hu3⟩; obtain ⟨Aa, ca, rfl, hla, hCa⟩ := Kd.R_reads hRa; have hb3 := hb2.trans (hu3.mono hb2.size); have hs3 := hs2.bound.upd (Upd.of_below (F := No) hu3) (fun _ _ h => h); clear hs2)
    | (go_at_call 17; refine (Of_calls (m : Int) hCa HWW.out).mono ?_; rintro e w4 ⟨b2, rfl, ht4, hu4⟩; rw [HF.out] at ht4; have hb4 := hb3.trans (hu4.fresh.mono hb3.size); have hs4 := hs3.upd hu4 (fun _ _ h => h); have l34 := hu4.size; have tok2 : True := trivial)
    | (go_at_call 22; refine (Len_calls ht4).mono ?_; rintro e w5 ⟨rfl, rfl⟩)
    | (go_at_call 23; have _t := tok2; refine (Resize_calls ht4 cut).mono ?_; rintro e w5 ⟨rfl, ht5, hu5⟩; have hs5 := hs4.upd hu5 (apart hu3.size); have ht5' := ht5.mono (G := New w3) (or_new l34); have hb5 := Upd.below_trans hb4 hu5 (new_le hb3.size) hb4.size; clear tok2)
    | (go_at_call 23; refine (Resize_calls ht5' (m : Int)).mono ?_; rintro e w6 ⟨rfl, ht6, hu6⟩; rw [HF.out] at ht6; have hs6 := hs5.upd hu6 (apart hu3.size); have hb6 := Upd.below_trans hb5 hu6 (new_le hb3.size) hb5.size))
  generalize ofW l n = ws at *
  have HT := Lib.hid ht6
  have HS := Lib.hid hs6
  clear ht6 hs6 hs4 hs5 ht4 ht5 ht5' hs3 hCa hRa
  go_loop [10] (fun i => ∃ k : Nat, k ≤ m ∧ i = .int .i64 k) (fun i => m - (intOf i).toNat)
  case atStart => exact ⟨0, by omega, rfl⟩
  case round =>
    obtain ⟨k, hk, rfl⟩ := hrel
    by_cases hlt : k < m
    · have gt := Get_in HT.out (k : Int) (by omega) (by omega)
      have gs := Get_in HS.out (k : Int) (by omega) (by omega)
      rw [back_bit HWW.out m hm2 cut k hlt] at gt
      by_cases hc : (k : Int) < cut
      all_goals
        cases hp : bitI ws (k : Int)
        all_goals
          rw [hp] at gt gs
          first
            | rw [decide_eq_true hc] at gt
            | rw [decide_eq_false hc] at gt
          simp only [Bool.and_true, Bool.and_false] at gt
          have GT := Lib.hid gt
          have GS := Lib.hid gs
          clear gt gs hp
          go_wp2_with (first
            | (go_at_call 24; (with_reducible refine GT.out.mono ?_); rintro e w7 ⟨rfl, rfl⟩)
            | (go_at_call 24; (with_reducible refine GS.out.mono ?_); rintro e w8 ⟨rfl, rfl⟩))
          go_round
          case rel => exact ⟨k + 1, by omega, by go_num⟩
          case measure => simp [intOf]; omega
    · obtain rfl : k = m := by omega
      go_wp2_with (go_at_call 22; refine (Len_calls HT.out).mono ?_; rintro e w7 ⟨rfl, rfl⟩)
      go_ret
      exact ⟨ret_bool (by simp), hb6⟩
theorem back_walk (a0 : Option Addr) (len0 cap0 : Nat) (z0 : List Int) (a1 a2 : Int) (w : World)
    (w0 : (a0 = none ∧ len0 = 0 ∧ cap0 = 0 ∧ z0 = []) ∨ ∃ x, a0 = some x ∧ len0 ≤ cap0 ∧ cap0 ≤ maxLen ∧ z0.length = cap0 ∧ (∀ i, i < z0.length → w.cell? (x.add i) = some (.int .u64 (z0.getD i 0))) ∧ ∀ n ∈ z0, (Lit.int .u64 n).wf = true) :
    Calls Try.prog 5 #[.slice a0 len0 cap0, .int .i64 a1, .int .i64 a2] w fun e w' => e = .returned (.bool true) ∧ Below w.heap.size w w' := by
  obtain ⟨l0, rfl, hr0, hm0, hw0, hc0⟩ := ReadsInt.ofRowC w0
  exact back_calls (wd_wf hw0) a1 a2 w (Kd.C_of_reads (d := (0 : Int)) (h1 := fun _ => rfl) hr0) hc0
end Go.Proofs.Ytccpoflhmooanaa.Back
