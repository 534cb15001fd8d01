/- More of what the calls on a set do: Flip, Put, Next, Count. -/
import Derived.Test.YtccpoflhmooanaaDoorTz
namespace Go.Proofs.YtccpoflhmooanaaDoor.Tz
open Go.RowKit Go.Proofs.YtccpoflhmooanaaDoorW.PrintWords Go.Proofs.YtccpoflhmooanaaDoorW.PrintLast Go.Proofs.YtccpoflhmooanaaDoorW.PrintMore Go.Proofs.YtccpoflhmooanaaDoor.Nums Go.Proofs.YtccpoflhmooanaaDoor.Sets Go.Proofs.YtccpoflhmooanaaDoor.SetF Go.Proofs.YtccpoflhmooanaaDoor.Mem
set_option linter.unusedVariables false
set_option linter.unusedSimpArgs false

theorem Flip_out {F : Nat → Prop} {w : World} {b : Nat} {n : Int} {ws : List Int} (h : SetR F w b n ws) (i : Int) (hi : ¬ (0 ≤ i ∧ i < n)) :
    Calls Tryd.prog 19 #[.pointer (some ⟨b, 0, none⟩), .int .i64 i] w fun e w' => e = .returned (.bool false) ∧ w = w' := by
  have hb : (decide (0 ≤ i) && decide (i < n)) = false := by simpa using hi
  have hc := has_calls h i
  rw [hb] at hc
  have HC := Lib.hid hc
  clear hc hi hb h
  go_enter Tryd.func19, Tryd.ntmps19
  go_wp2_with (go_at_call 37; refine HC.out.mono ?_; rintro e w' ⟨rfl, rfl⟩)
  go_ret
  exact ⟨rfl, rfl⟩
theorem xor_word {ws : List Int} (hw : Wd ws) (i : Nat) : Go.bits .xor .u64 (rdOf 0 ws ((i : Int) / 64)) (IntKind.u64.wrap ((2 : Int) ^ (i % 64))) = ((wd ws (i / 64) ^^^ 2 ^ (i % 64) : Nat) : Int) := by
  have hl := wd_lt hw (i / 64)
  have hp : 2 ^ (i % 64) < 2 ^ 64 := Nat.pow_lt_pow_right (by omega) (by omega)
  have e0 : ((2 : Int) ^ (i % 64)) = ((2 ^ (i % 64) : Nat) : Int) := by simp
  unfold rdOf
  rw [show ((i : Int) / 64).toNat = i / 64 by omega, wd_int hw, e0, Nums.wrapu_nat (by omega)]
  exact u64_xor_nat _ _ (by omega) (by omega)
theorem Flip_in {F : Nat → Prop} {w : World} {b : Nat} {n : Int} {ws : List Int} (h : SetR F w b n ws) (i : Nat) (hn : (i : Int) < n) :
    Calls Tryd.prog 19 #[.pointer (some ⟨b, 0, none⟩), .int .i64 (i : Int)] w fun e w' => e = .returned (.bool true) ∧ SetR F w' b n (flipW ws i) ∧ Upd F w w' := by
  have hb : (decide (0 ≤ (i : Int)) && decide ((i : Int) < n)) = true := by simp [hn]
  have hc := has_calls h (i : Int)
  rw [hb] at hc
  have HC := Lib.hid hc
  have HS := Lib.hid h
  clear hc hb
  obtain ⟨h1, h2, h3, h4, v, h5, h6⟩ := h
  obtain ⟨g, cap, rfl, -, hg, -⟩ := Kd.R_form h6 (by omega)
  have c1 := blk_cell h5 1
  simp at c1
  have c2 := Kd.R_cell 0 h6 ((i : Int) / 64) (by omega) (by omega)
  rw [show ((i : Int) / 64).toNat = i / 64 by omega] at c2
  have hr : Int.tmod (i : Int) 64 = (i : Int) % 64 := Int.tmod_eq_emod_of_nonneg (by omega)
  have q6 : (i : Int) % 64 < 64 := by omega
  have q1 : IntKind.i64.wrap ((i : Int) / 64) = (i : Int) / 64 := by rw [i64_w]; unfold wrap64; omega
  have q2 : wrap64 ((i : Int) / 64) = (i : Int) / 64 := by unfold wrap64; omega
  have q3 : 0 ≤ (i : Int) / 64 := by omega
  have q4 : (i : Int) / 64 < ws.length := by omega
  have q5 : 0 ≤ (i : Int) % 64 := by omega
  have q0 : i / 64 < ws.length := by omega
  have H5 := Lib.hid h5
  have H6 := Lib.hid h6
  have HX := Lib.hid (xor_word h4 i)
  have HL := Lib.hid (flip_lt h4 i)
  clear h5 h6 h1 h4 h3 h2 hn
  go_enter Tryd.func19, Tryd.ntmps19
  go_wp2_with (go_at_call 37; refine HC.out.mono ?_; rintro e w' ⟨rfl, rfl⟩)
  go_region
  go_wp2
  go_ret
  obtain ⟨hp, hu⟩ := SetR.put HS.out H5.out H6.out (i / 64) q0 ((wd ws (i / 64) ^^^ 2 ^ (i % 64) : Nat) : Int) (by have := HL.out; omega)
  rw [HX.out]
  exact ⟨rfl, hp.step (fun _ _ _ => rfl), hu.drew⟩
/-- What Put leaves. -/
def putW (ws : List Int) (i : Nat) (v : Bool) : List Int := if bitN ws i = v then ws else flipW ws i
theorem Put_out {F : Nat → Prop} {w : World} {b : Nat} {n : Int} {ws : List Int} (h : SetR F w b n ws) (i : Int) (hi : ¬ (0 ≤ i ∧ i < n)) (v : Bool) :
    Calls Tryd.prog 30 #[.pointer (some ⟨b, 0, none⟩), .int .i64 i, .bool v] w fun e w' => e = .returned (.bool false) ∧ w = w' := by
  have hb : (decide (0 ≤ i) && decide (i < n)) = false := by simpa using hi
  have hc := has_calls h i
  rw [hb] at hc
  have HC := Lib.hid hc
  have HF := Lib.hid (Flip_out h i hi)
  have HG := Lib.hid (Get_out h i hi)
  clear hc hi hb h
  cases v
  all_goals
    go_enter Tryd.func30, Tryd.ntmps30
    go_wp2_with (first
      | (go_at_call 37; refine HC.out.mono ?_; rintro e w' ⟨rfl, rfl⟩)
      | (go_at_call 18; refine HG.out.mono ?_; rintro e w' ⟨rfl, rfl⟩)
      | (go_at_call 19; refine HF.out.mono ?_; rintro e w' ⟨rfl, rfl⟩))
    go_ret
    exact ⟨rfl, rfl⟩
theorem Put_in {F : Nat → Prop} {w : World} {b : Nat} {n : Int} {ws : List Int} (h : SetR F w b n ws) (i : Nat) (hn : (i : Int) < n) (v : Bool) :
    Calls Tryd.prog 30 #[.pointer (some ⟨b, 0, none⟩), .int .i64 (i : Int), .bool v] w fun e w' => e = .returned (.bool true) ∧ SetR F w' b n (putW ws i v) ∧ Upd F w w' := by
  have hb : (decide (0 ≤ (i : Int)) && decide ((i : Int) < n)) = true := by simp [hn]
  have hc := has_calls h (i : Int)
  rw [hb] at hc
  have hg := Get_in h (i : Int) (by omega) hn
  rw [bitI_bitN h.2.2.2.1] at hg
  have HC := Lib.hid hc
  have HF := Lib.hid (Flip_in h i hn)
  have HS := Lib.hid h
  unfold putW
  clear hc hn hb h
  cases hq : bitN ws i
  all_goals
    rw [hq] at hg
    have HG := Lib.hid hg
    clear hg hq
    cases v
    all_goals
      go_enter Tryd.func30, Tryd.ntmps30
      go_wp2_with (first
        | (go_at_call 37; refine HC.out.mono ?_; rintro e w' ⟨rfl, rfl⟩)
        | (go_at_call 18; refine HG.out.mono ?_; rintro e w' ⟨rfl, rfl⟩)
        | (go_at_call 19; refine HF.out.mono ?_; rintro e w' ⟨rfl, hs, hu⟩))
      go_ret
      first
        | exact ⟨rfl, HS.out, Upd.refl _ _⟩
        | exact ⟨rfl, hs, hu⟩

theorem pop64c (x : Nat) (hx : x < 2 ^ 64) : Go.Proofs.YtccpoflhmooanaaDoor.R.bits_Count_uint64.f (x : Int) = some ((Lib.popAux 64 x : Nat) : Int) := by
  unfold Go.Proofs.YtccpoflhmooanaaDoor.R.bits_Count_uint64.f Go.Proofs.YtccpoflhmooanaaDoor.R.bits_OnesCount64.f
  rw [s1 x hx, s2 x hx, s3 x hx, s4 x hx]; rfl
theorem add_cn (a b c : Nat) (h : c = a + b) (hb : c ≤ 1073741824) : wrap64 ((a : Int) + (b : Int)) = (c : Int) := by unfold wrap64; omega
set_option maxHeartbeats 1000000 in
theorem Count_calls {F : Nat → Prop} {w : World} {b : Nat} {m : Nat} {ws : List Int} (h : SetR F w b (m : Int) ws) (hc : SetF.Clean m ws) :
    Calls Tryd.prog 16 #[.pointer (some ⟨b, 0, none⟩)] w fun e w' => e = .returned (.int .i64 (cn (bitN ws) m)) ∧ Drawn0 w w' := by
  have HS := Lib.hid h
  have HCl := Lib.hid hc
  obtain ⟨A, c, c1, hlc, hr⟩ := h.reads
  have h3 := h.2.2.1
  have h2 := h.2.1
  have hlen : ws.length ≤ 16384 := by omega
  have HR := Lib.hid hr
  have HL := Lib.hid (show cn (bitN ws) (64 * ws.length) = cn (bitN ws) m from cn_clean m _ hc (by omega))
  have HW := Lib.hid h.2.2.2.1
  clear hr h h3 h2 hlc hc
  go_enter Tryd.func16, Tryd.ntmps16
  go_wp2
  go_loopw [3, 4, 10] (fun n _ i wr => ∃ k : Nat, k ≤ ws.length ∧ i = .int .i64 k ∧ n = .int .i64 (cn (bitN ws) (64 * k) : Nat) ∧ Drawn0 w wr) (fun _ _ i _ => ws.length - (intOf i).toNat)
  case atStart => exact ⟨0, by omega, rfl, rfl, Drawn0.refl _⟩
  case round =>
    obtain ⟨k, hk, rfl, rfl, ⟨d, rfl⟩⟩ := hrel
    by_cases hlt : k < ws.length
    · obtain ⟨ad, e, hx⟩ := Kd.at_int HR.out (k : Int) (by omega) (by omega)
      subst e
      rw [Int.toNat_natCast] at hx
      have HX := Lib.hid hx
      have hd : decide ((k : Int) < (ws.length : Int)) = true := by simpa using hlt
      have hx64 := wd_lt HW.out k
      have e1 := wd_int HW.out k
      have HP := Lib.hid (pop64c (wd ws k) hx64)
      have HN := Lib.hid (cn_word HW.out k)
      have HB := Lib.hid (cn_le (bitN ws) (64 * k))
      have HX2 := HX.out
      have e3 : rd ws (k : Int) = (wd ws k : Int) := by unfold rd; rw [Int.toNat_natCast]; exact e1
      clear hx HX
      try rw [e1] at HX2
      try rw [e3] at HX2
      clear e1 e3 hx64
      go_wp2_with (go_at_call 29; refine (Go.Proofs.YtccpoflhmooanaaDoor.R.bits_Count_uint64.calls _ _ _ HP.out).mono ?_; rintro e w1 ⟨rfl, ⟨d1, rfl⟩⟩)
      go_roundw
      case rel => exact ⟨k + 1, by omega, by go_num, congrArg (Value.int .i64) (add_cn _ _ _ HN.out (by have := cn_le (bitN ws) (64 * (k + 1)); omega)), ⟨d + d1, rfl⟩⟩
      case measure => simp [intOf]; omega
    · obtain rfl : k = ws.length := by omega
      go_wp2
      go_ret
      exact ⟨by rw [HL.out]; rfl, ⟨d, rfl⟩⟩

theorem rd_wd {ws : List Int} (hw : Wd ws) (c : Nat) : rdOf 0 ws ((c : Int) / 64) = ((wd ws (c / 64) : Nat) : Int) := by
  unfold rdOf
  rw [show ((c : Int) / 64).toNat = c / 64 by omega, wd_int hw]
theorem quo_nat (x n : Nat) : (x : Int) / 2 ^ n = ((x / 2 ^ n : Nat) : Int) := by
  have e0 : ((2 : Int) ^ n) = ((2 ^ n : Nat) : Int) := by simp
  rw [e0]; rfl
theorem quo_test (x n : Nat) : ((x : Int) / 2 ^ n != 0) = (x / 2 ^ n != 0) := by
  rw [quo_nat, Bool.eq_iff_iff]
  simp only [bne_iff_ne, ne_eq]
  omega
theorem word_at {w : World} {A : Option Addr} {ws : List Int} (hr : (Kd.int .u64).C w A ws.length ws) (hw : Wd ws) (m c : Nat) (h3 : (ws.length : Int) = ((m : Int) + 63) / 64) (hc : c < m) :
    ∃ ad, A = some ad ∧ w.cell? (ad.add (c / 64)) = some (.int .u64 ((wd ws (c / 64) : Nat) : Int)) ∧ (c : Int) / 64 < ws.length := by
  obtain ⟨ad, e, hx⟩ := Kd.at_int hr ((c / 64 : Nat) : Int) (by omega) (by omega)
  refine ⟨ad, e, ?_, by omega⟩
  rw [Int.toNat_natCast] at hx
  rw [hx]
  unfold rd
  rw [Int.toNat_natCast, wd_int hw]
theorem idx (c : Nat) (hc : c < 1048577) : IntKind.i64.wrap ((c : Int) / 64) = (c : Int) / 64 ∧ wrap64 ((c : Int) / 64) = (c : Int) / 64 ∧ 0 ≤ (c : Int) / 64 ∧ 0 ≤ (c : Int) % 64 ∧ (c : Int) % 64 < 64 := by
  refine ⟨?_, ?_, by omega, by omega, by omega⟩
  · rw [i64_w]; unfold wrap64; omega
  · unfold wrap64; omega
theorem step64 (c : Nat) (h : c < 1048577) : wrap64 ((c : Int) + (64 - (c : Int) % 64)) = ((c + (64 - c % 64) : Nat) : Int) := by unfold wrap64; omega
theorem less64 (m c : Nat) (h : c < m) (h2 : c < 1048577) : m - (wrap64 ((c : Int) + (64 - (c : Int) % 64))).toNat < m - ((c : Int)).toNat := by rw [step64 c h2]; omega
theorem add_tz (c k : Nat) (h : c < 1048577) (hk : k < 64) : wrap64 ((c : Int) + (k : Int)) = ((c + k : Nat) : Int) := by unfold wrap64; omega
set_option maxHeartbeats 1000000 in
theorem Next_calls {F : Nat → Prop} {w : World} {b : Nat} {m : Nat} {ws : List Int} (h : SetR F w b (m : Int) ws) (hc : SetF.Clean m ws) (hT : Tab w) (i : Int) :
    Calls Tryd.prog 17 #[.pointer (some ⟨b, 0, none⟩), .int .i64 i] w fun e w' => e = .returned (.int .i64 (nxt (bitN ws) m i.toNat)) ∧ w = w' := by
  have hm : m ≤ 1048576 := by have := h.2.1; omega
  obtain ⟨A, cap, c1, hlc, hr⟩ := h.reads
  have HWA := Lib.hid (fun c hcm => word_at hr h.2.2.2.1 m c h.2.2.1 hcm)
  have HX := Lib.hid (rest_hit h.2.2.2.1 m hc)
  have HX2 := Lib.hid (fun c => rest_none (ws := ws) m c)
  have HX3 := Lib.hid (fun c => wd_lt h.2.2.2.1 (c / 64))
  have HT := Lib.hid hT
  obtain ⟨h1, h2, h3, h4, v, h5, h6⟩ := h
  have c0 := blk_cell h5 0
  simp at c0
  clear hr h5 h6 h4 h3 h2 h1 hT hc hlc
  obtain ⟨i0, hi0⟩ : ∃ i0 : Nat, i0 = i.toNat := ⟨_, rfl⟩
  rw [← hi0]
  go_enter Tryd.func17, Tryd.ntmps17
  go_wp2
  go_loop [1] (fun x => ∃ c : Nat, x = .int .i64 c ∧ Aside0 (nxt (bitN ws) m c = nxt (bitN ws) m i0)) (fun x => m - (intOf x).toNat)
  case atStart => exact ⟨i0, by congr 1; omega, ⟨rfl⟩⟩
  case round =>
    clear hi0
    obtain ⟨c, rfl, HN⟩ := hrel
    by_cases hlt : c < m
    · have hd : decide (c < m) = true := decide_eq_true hlt
      have hd2 : decide ((c : Int) < (m : Int)) = true := decide_eq_true (Int.ofNat_lt.2 hlt)
      obtain ⟨q1, q2, q3, q5, q6⟩ := idx c (Nat.lt_of_lt_of_le hlt (Nat.le_succ_of_le hm))
      obtain ⟨ad, rfl, c2, q4⟩ := HWA.out c hlt
      have hx1 := HX.out c
      have hx2 := HX2.out c
      have hx3 := HX3.out c
      generalize wd ws (c / 64) = x at hx1 hx2 hx3 c2
      have hx1' := Lib.hid hx1
      have hx2' := Lib.hid hx2
      have hx3' := Lib.hid hx3
      have hlt' := Lib.hid hlt
      have hm' := Lib.hid hm
      clear hx1 hx2 hx3 hlt hm
      by_cases hz : x / 2 ^ (c % 64) = 0
      · have t1 : ((x : Int) / 2 ^ (c % 64) != 0) = false := by rw [quo_test]; simpa using hz
        have t2 : ((x : Int) / 2 ^ ((c : Int) % 64).toNat != 0) = false := by rw [show ((c : Int) % 64).toNat = c % 64 by omega]; exact t1
        have hz' := Lib.hid hz
        clear hz
        go_wp2
        go_round
        case rel => exact ⟨c + (64 - c % 64), by exact congrArg (Value.int .i64) (step64 c (Nat.lt_trans hlt'.out (Nat.lt_succ_of_le hm'.out))), ⟨by rw [← hx2'.out hz'.out]; exact HN.out⟩⟩
        case measure => exact less64 m c hlt'.out (Nat.lt_trans hlt'.out (Nat.lt_succ_of_le hm'.out))
      · have t1 : ((x : Int) / 2 ^ (c % 64) != 0) = true := by rw [quo_test]; simpa using hz
        have t2 : ((x : Int) / 2 ^ ((c : Int) % 64).toNat != 0) = true := by rw [show ((c : Int) % 64).toNat = c % 64 by omega]; exact t1
        have hq := hx1'.out hz
        have hq1 := Lib.hid hq.1
        have hq2 := Lib.hid hq.2
        have hl := Lib.hid (Nat.lt_of_le_of_lt (Nat.div_le_self x (2 ^ (c % 64))) hx3'.out)
        have hz' := Lib.hid hz
        clear hz hq
        go_wp2_with (go_at_call 36; rw [quo_nat]; refine (tz_calls _ hl.out hz'.out _ HT.out).mono ?_; rintro e w1 ⟨rfl, rfl⟩)
        go_ret
        exact ⟨by rw [← HN.out, hq1.out]; exact congrArg (fun z => Ending.returned (Value.int .i64 z)) (add_tz _ _ (Nat.lt_trans hlt'.out (Nat.lt_succ_of_le hm'.out)) hq2.out), rfl⟩
    · have hd : decide (c < m) = false := decide_eq_false hlt
      have hd2 : decide ((c : Int) < (m : Int)) = false := decide_eq_false (fun h => hlt (Int.ofNat_lt.1 h))
      have hn := HN.out
      rw [nxt_end _ _ c (by omega)] at hn
      have hn' := Lib.hid hn
      clear hn hlt
      go_wp2
      go_ret
      exact ⟨by rw [← hn'.out]; rfl, rfl⟩
end Go.Proofs.YtccpoflhmooanaaDoor.Tz
