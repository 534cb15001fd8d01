/- BitsKnown, walked: the document's examples, one call after the other. (Written by genknown.py.) -/
import Derived.Test.YtccpoflhmooanaaDoorWalks
namespace Go.Proofs.YtccpoflhmooanaaDoor.Known
open Go.RowKit Go.Proofs.YtccpoflhmooanaaDoorW.PrintWords Go.Proofs.YtccpoflhmooanaaDoorW.PrintLast Go.Proofs.YtccpoflhmooanaaDoorW.PrintMore Go.Proofs.YtccpoflhmooanaaDoor.Nums Go.Proofs.YtccpoflhmooanaaDoor.Sets Go.Proofs.YtccpoflhmooanaaDoor.SetF Go.Proofs.YtccpoflhmooanaaDoor.Mem Go.Proofs.YtccpoflhmooanaaDoor.Kept Go.Proofs.YtccpoflhmooanaaDoor.Tz Go.Proofs.YtccpoflhmooanaaDoor.Walks
set_option linter.unusedVariables false
set_option linter.unusedSimpArgs false
theorem clean2 (n : Nat) (ws : List Int) (hl : ws.length ≤ 2) (h : ∀ i, i < 128 → n ≤ i → bitN ws i = false) : SetF.Clean n ws := by
  intro i hi
  by_cases h2 : i < 128
  · exact h i h2 hi
  · exact bitN_out (by omega)
theorem same_l (l : List Int) (hl : l.length ≤ 1048576) {w : World} {A A' : Option Addr} {c c' : Nat} (hC : (Kd.int .u64).C w A l.length l) (hc : l.length ≤ c) (hC' : (Kd.int .u64).C w A' l.length l) (hc' : l.length ≤ c') :
    Calls Tryd.prog 12 #[.slice A l.length c, .slice A' l.length c'] w fun e w' => e = .returned (.bool true) ∧ Drawn0 w w' := same_c l hl hC hc hC' hc'
theorem C_alloc' {w : World} {A : Option Addr} {l : List Int} (h : (Kd.int .u64).C w A l.length l) (o : Obj) : (Kd.int .u64).C (w.alloc o) A l.length l := Kd.C_alloc h o
theorem lit1 (w : World) (x : Int) : (Kd.int .u64).C (w.alloc (.cells #[.int .u64 x] 24)) (some ⟨w.heap.size, 0, none⟩) ([x] : List Int).length [x] := lit_row w x
theorem lit2 (w : World) (x y : Int) : (Kd.int .u64).C (w.alloc (.cells #[.int .u64 x, .int .u64 y] 24)) (some ⟨w.heap.size, 0, none⟩) ([x, y] : List Int).length [x, y] := by
  refine Kd.C_of_reads (enc := Value.int .u64) (d := (0 : Int)) ⟨rfl, by simp, fun _ => ⟨_, rfl, fun j hj => ?_⟩⟩
  have hj2 : j = 0 ∨ j = 1 := by simp at hj; omega
  rcases hj2 with rfl | rfl
  · exact blk_cell (blk_new w (.cells #[.int .u64 x, .int .u64 y] 24)) 0
  · exact blk_cell (blk_new w (.cells #[.int .u64 x, .int .u64 y] 24)) 1
theorem or_new' {w3 w4 : World} (h : w3.heap.size ≤ w4.heap.size) : ∀ k, Or (New w3) w4 k → New w3 k := fun k hk => hk.elim id (fun h2 => Nat.le_trans h h2)
theorem sz_of {w1 w : World} {b : Nat} {n : Int} {ws : List Int} (h : SetR (New w1) w b n ws) : w1.heap.size ≤ w.heap.size := by
  obtain ⟨h1, h2, h3, h4, v, h5, h6⟩ := h
  have := blk_lt h5
  unfold New at h1
  omega
theorem k0 : Go.Proofs.YtccpoflhmooanaaDoor.R.bits_Ceil_uint8.f 0 129 = some (0, false) := by decide +kernel
theorem k1 : Go.Proofs.YtccpoflhmooanaaDoor.R.bits_IsPower_uint8.f 0 = some false := by decide +kernel
theorem k2 : Go.Proofs.YtccpoflhmooanaaDoor.R.bits_IsPower_uint8.f 1 = some true := by decide +kernel
theorem k3 : Go.Proofs.YtccpoflhmooanaaDoor.R.bits_IsPower_uint8.f 12 = some false := by decide +kernel
theorem k4 : Go.Proofs.YtccpoflhmooanaaDoor.R.bits_IsPower_uint8.f 128 = some true := by decide +kernel
theorem k5 : Go.Proofs.YtccpoflhmooanaaDoor.R.bits_Ceil_uint16.f 0 129 = some (256, true) := by decide +kernel
theorem k6 : Go.Proofs.YtccpoflhmooanaaDoor.R.bits_Log_uint16.f 0 0 = some (-1) := by decide +kernel
theorem k7 : Go.Proofs.YtccpoflhmooanaaDoor.R.bits_Log_uint16.f 0 1 = some (0) := by decide +kernel
theorem k8 : Go.Proofs.YtccpoflhmooanaaDoor.R.bits_Log_uint16.f 0 255 = some (7) := by decide +kernel
theorem k9 : Go.Proofs.YtccpoflhmooanaaDoor.R.bits_Log_uint16.f 0 256 = some (8) := by decide +kernel
theorem k10 : Go.Proofs.YtccpoflhmooanaaDoor.R.bits_Up_uint8.f 1 5 4 = some (8, true) := by decide +kernel
theorem k11 : Go.Proofs.YtccpoflhmooanaaDoor.R.bits_Up_uint8.f 1 5 6 = some (0, false) := by decide +kernel
theorem k12 : Go.Proofs.YtccpoflhmooanaaDoor.R.bits_Up_uint8.f 1 250 16 = some (0, false) := by decide +kernel
theorem k13 : Go.Proofs.YtccpoflhmooanaaDoor.R.bits_Down_uint8.f 250 16 = some (240, true) := by decide +kernel
theorem k14 : Go.Proofs.YtccpoflhmooanaaDoor.R.bits_Down_uint8.f 3 0 = some (0, false) := by decide +kernel
theorem k15 : Go.Proofs.YtccpoflhmooanaaDoor.R.bits_Count_uint8.f 255 = some 8 := by decide +kernel
theorem k16 : Go.Proofs.YtccpoflhmooanaaDoor.R.bits_Count_uint64.f 9223372036854775809 = some 2 := by decide +kernel
theorem k17 : fitN 2097152 = 1048576 := by decide +kernel
theorem k18 : fitN 70 = ((70 : Nat) : Int) := by decide +kernel
theorem k19 : ofW [] 70 = [0, 0] := by decide +kernel
theorem k20 : putW [0, 0] 69 true = [0, 32] := by decide +kernel
theorem k21 : flipW [0, 32] 1 = [2, 32] := by decide +kernel
theorem k22 : SetF.Clean 70 [2, 32] := clean2 70 [2, 32] (by decide) (by decide +kernel)
theorem k23 : nxt (bitN [2, 32]) 70 (((-5) : Int)).toNat = 1 := by decide +kernel
theorem k24 : nxt (bitN [2, 32]) 70 ((2 : Int)).toNat = 69 := by decide +kernel
theorem k25 : nxt (bitN [2, 32]) 70 ((70 : Int)).toNat = -1 := by decide +kernel
theorem k26 : cn (bitN [2, 32]) 70 = 2 := by decide +kernel
theorem k27 : fitN 69 = ((69 : Nat) : Int) := by decide +kernel
theorem k28 : ofW [2, 32] 69 = [2, 0] := by decide +kernel
theorem k29 : SetF.Clean 69 [2, 0] := clean2 69 [2, 0] (by decide) (by decide +kernel)
theorem k30 : cn (bitN [2, 0]) 69 = 1 := by decide +kernel
theorem k31 : fitN 70 = ((70 : Nat) : Int) := by decide +kernel
theorem k32 : ofW [2, 0] 70 = [2, 0] := by decide +kernel
theorem k33 : fitN 2 = ((2 : Nat) : Int) := by decide +kernel
theorem k34 : ofW [5] 2 = [1] := by decide +kernel
theorem k35 : bitI [2, 0] 69 = false := by decide +kernel
theorem k36 : bitI [1] 0 = true := by decide +kernel
theorem k37 : fitN 65 = ((65 : Nat) : Int) := by decide +kernel
theorem k38 : ofW [] 65 = [0, 0] := by decide +kernel
set_option maxHeartbeats 4000000 in
set_option maxRecDepth 100000 in
theorem known_calls (w : World) (hT : Tab w) :
    Calls Tryd.prog 7 #[] w fun e w' => e = .returned (.bool true) ∧ Below w.heap.size w w' := by
  have HT := Lib.hid hT
  have hb0 := Lib.hid (Below.refl w.heap.size w)
  have tok0 : True := trivial
  clear hT
  go_enter Tryd.func7, Tryd.ntmps7
  go_wp2_with (first
    | (go_at_call 22; have _t := tok0; refine (Go.Proofs.YtccpoflhmooanaaDoor.R.bits_Ceil_uint8.calls 0 129 0 false _ k0).mono ?_; rintro e w0 ⟨rfl, hd0⟩; have hb1 := Lib.hid (hb0.out.trans (hd0.below.mono hb0.out.size)); clear hd0; have tok1 : True := trivial; clear tok0)
    | (go_at_call 8; have _t := tok1; refine (awake_calls _).mono ?_; rintro e w1 ⟨rfl, hd1⟩; have hb2 := Lib.hid (hb1.out.trans (hd1.mono hb1.out.size)); clear hd1; have tok2 : True := trivial; clear tok1)
    | (go_at_call 23; have _t := tok2; refine (Go.Proofs.YtccpoflhmooanaaDoor.R.bits_IsPower_uint8.calls 0 false _ k1).mono ?_; rintro e w2 ⟨rfl, hd2⟩; have hb3 := Lib.hid (hb2.out.trans (hd2.below.mono hb2.out.size)); clear hd2; have tok3 : True := trivial; clear tok2)
    | (go_at_call 23; have _t := tok3; refine (Go.Proofs.YtccpoflhmooanaaDoor.R.bits_IsPower_uint8.calls 1 true _ k2).mono ?_; rintro e w3 ⟨rfl, hd3⟩; have hb4 := Lib.hid (hb3.out.trans (hd3.below.mono hb3.out.size)); clear hd3; have tok4 : True := trivial; clear tok3)
    | (go_at_call 23; have _t := tok4; refine (Go.Proofs.YtccpoflhmooanaaDoor.R.bits_IsPower_uint8.calls 12 false _ k3).mono ?_; rintro e w4 ⟨rfl, hd4⟩; have hb5 := Lib.hid (hb4.out.trans (hd4.below.mono hb4.out.size)); clear hd4; have tok5 : True := trivial; clear tok4)
    | (go_at_call 23; have _t := tok5; refine (Go.Proofs.YtccpoflhmooanaaDoor.R.bits_IsPower_uint8.calls 128 true _ k4).mono ?_; rintro e w5 ⟨rfl, hd5⟩; have hb6 := Lib.hid (hb5.out.trans (hd5.below.mono hb5.out.size)); clear hd5; have tok6 : True := trivial; clear tok5)
    | (go_at_call 24; have _t := tok6; refine (Go.Proofs.YtccpoflhmooanaaDoor.R.bits_Ceil_uint16.calls 0 129 256 true _ k5).mono ?_; rintro e w6 ⟨rfl, hd6⟩; have hb7 := Lib.hid (hb6.out.trans (hd6.below.mono hb6.out.size)); clear hd6; have tok7 : True := trivial; clear tok6)
    | (go_at_call 25; have _t := tok7; refine (Go.Proofs.YtccpoflhmooanaaDoor.R.bits_Log_uint16.calls 0 0 (-1) _ k6).mono ?_; rintro e w7 ⟨rfl, hd7⟩; have hb8 := Lib.hid (hb7.out.trans (hd7.below.mono hb7.out.size)); clear hd7; have tok8 : True := trivial; clear tok7)
    | (go_at_call 25; have _t := tok8; refine (Go.Proofs.YtccpoflhmooanaaDoor.R.bits_Log_uint16.calls 0 1 (0) _ k7).mono ?_; rintro e w8 ⟨rfl, hd8⟩; have hb9 := Lib.hid (hb8.out.trans (hd8.below.mono hb8.out.size)); clear hd8; have tok9 : True := trivial; clear tok8)
    | (go_at_call 25; have _t := tok9; refine (Go.Proofs.YtccpoflhmooanaaDoor.R.bits_Log_uint16.calls 0 255 (7) _ k8).mono ?_; rintro e w9 ⟨rfl, hd9⟩; have hb10 := Lib.hid (hb9.out.trans (hd9.below.mono hb9.out.size)); clear hd9; have tok10 : True := trivial; clear tok9)
    | (go_at_call 25; have _t := tok10; refine (Go.Proofs.YtccpoflhmooanaaDoor.R.bits_Log_uint16.calls 0 256 (8) _ k9).mono ?_; rintro e w10 ⟨rfl, hd10⟩; have hb11 := Lib.hid (hb10.out.trans (hd10.below.mono hb10.out.size)); clear hd10; have tok11 : True := trivial; clear tok10)
    | (go_at_call 26; have _t := tok11; refine (Go.Proofs.YtccpoflhmooanaaDoor.R.bits_Up_uint8.calls 1 5 4 8 true _ k10).mono ?_; rintro e w11 ⟨rfl, hd11⟩; have hb12 := Lib.hid (hb11.out.trans (hd11.below.mono hb11.out.size)); clear hd11; have tok12 : True := trivial; clear tok11)
    | (go_at_call 26; have _t := tok12; refine (Go.Proofs.YtccpoflhmooanaaDoor.R.bits_Up_uint8.calls 1 5 6 0 false _ k11).mono ?_; rintro e w12 ⟨rfl, hd12⟩; have hb13 := Lib.hid (hb12.out.trans (hd12.below.mono hb12.out.size)); clear hd12; have tok13 : True := trivial; clear tok12)
    | (go_at_call 26; have _t := tok13; refine (Go.Proofs.YtccpoflhmooanaaDoor.R.bits_Up_uint8.calls 1 250 16 0 false _ k12).mono ?_; rintro e w13 ⟨rfl, hd13⟩; have hb14 := Lib.hid (hb13.out.trans (hd13.below.mono hb13.out.size)); clear hd13; have tok14 : True := trivial; clear tok13)
    | (go_at_call 27; have _t := tok14; refine (Go.Proofs.YtccpoflhmooanaaDoor.R.bits_Down_uint8.calls 250 16 240 true _ k13).mono ?_; rintro e w14 ⟨rfl, hd14⟩; have hb15 := Lib.hid (hb14.out.trans (hd14.below.mono hb14.out.size)); clear hd14; have tok15 : True := trivial; clear tok14)
    | (go_at_call 27; have _t := tok15; refine (Go.Proofs.YtccpoflhmooanaaDoor.R.bits_Down_uint8.calls 3 0 0 false _ k14).mono ?_; rintro e w15 ⟨rfl, hd15⟩; have hb16 := Lib.hid (hb15.out.trans (hd15.below.mono hb15.out.size)); clear hd15; have tok16 : True := trivial; clear tok15)
    | (go_at_call 28; have _t := tok16; refine (Go.Proofs.YtccpoflhmooanaaDoor.R.bits_Count_uint8.calls 255 8 _ k15).mono ?_; rintro e w16 ⟨rfl, hd16⟩; have hb17 := Lib.hid (hb16.out.trans (hd16.below.mono hb16.out.size)); clear hd16; have tok17 : True := trivial; clear tok16)
    | (go_at_call 29; have _t := tok17; refine (Go.Proofs.YtccpoflhmooanaaDoor.R.bits_Count_uint64.calls 9223372036854775809 2 _ k16).mono ?_; rintro e w17 ⟨rfl, hd17⟩; have hb18 := Lib.hid (hb17.out.trans (hd17.below.mono hb17.out.size)); clear hd17; have tok18 : True := trivial; clear tok17)
    | (go_at_call 10; have _t := tok18; refine (NewSet_calls _ 2097152).mono ?_; rintro e w18 ⟨qb, rfl, hs18, hd18⟩; rw [k17] at hs18; have q19 := Lib.hid hs18; clear hs18; have hb19 := Lib.hid (hb18.out.trans (hd18.fresh.mono hb18.out.size)); have tok19 : True := trivial; clear tok18)
    | (go_at_call 15; have _t := tok19; refine (Len_calls q19.out).mono ?_; rintro e w19 ⟨rfl, rfl⟩; have tok20 : True := trivial; clear tok19)
    | (go_at_call 10; have _t := tok20; refine (NewSet_calls _ 70).mono ?_; rintro e w20 ⟨sb, rfl, hs20, hd20⟩; rw [k18, k19] at hs20; have s21 := Lib.hid hs20; clear hs20; have hb21 := Lib.hid (hb19.out.trans (hd20.fresh.mono hb19.out.size)); have tok21 : True := trivial; clear tok20)
    | (go_at_call 30; have _t := tok21; have hS : Hid (∀ k, New w18 k → w.heap.size ≤ k) := Lib.hid (new_from hb19.out.size); have hp := Put_in s21.out 69 (by omega) true; rw [show ((69 : Nat) : Int) = 69 from rfl] at hp; refine hp.mono ?_; rintro e w21 ⟨rfl, hs21, hu21⟩; rw [k20] at hs21; have s22 := Lib.hid hs21; have hb22 := Lib.hid (Upd.below_trans hb21.out hu21 (fun _ h => hS.out _ h) hb21.out.size); clear hs21; clear hp; have tok22 : True := trivial; clear tok21)
    | (go_at_call 30; have _t := tok22; refine (Put_out s22.out 70 (by omega) true).mono ?_; rintro e w22 ⟨rfl, rfl⟩; have tok23 : True := trivial; clear tok22)
    | (go_at_call 19; have _t := tok23; have hp := Flip_in s22.out 1 (by omega); rw [show ((1 : Nat) : Int) = 1 from rfl] at hp; refine hp.mono ?_; rintro e w23 ⟨rfl, hs23, hu23⟩; rw [k21] at hs23; have s24 := Lib.hid hs23; have hb24 := Lib.hid (Upd.below_trans hb22.out hu23 (fun _ h => hS.out _ h) hb22.out.size); clear hs23; clear hp; have tok24 : True := trivial; clear tok23)
    | (go_at_call 17; have _t := tok24; refine (Next_calls s24.out k22 (tab_below HT.out hb24.out) (-5)).mono ?_; rintro e w24 ⟨rfl, rfl⟩; rw [k23]; have tok25 : True := trivial; clear tok24)
    | (go_at_call 17; have _t := tok25; refine (Next_calls s24.out k22 (tab_below HT.out hb24.out) 2).mono ?_; rintro e w25 ⟨rfl, rfl⟩; rw [k24]; have tok26 : True := trivial; clear tok25)
    | (go_at_call 17; have _t := tok26; refine (Next_calls s24.out k22 (tab_below HT.out hb24.out) 70).mono ?_; rintro e w26 ⟨rfl, rfl⟩; rw [k25]; have tok27 : True := trivial; clear tok26)
    | (go_at_call 16; have _t := tok27; refine (Count_calls s24.out k22).mono ?_; rintro e w27 ⟨rfl, hd27⟩; rw [k26]; have s28 := Lib.hid (s24.out.upd (Upd.of_below (F := No) hd27.below) (fun _ _ h => h)); have hb28 := Lib.hid (hb24.out.trans (hd27.below.mono hb24.out.size)); clear hd27; have tok28 : True := trivial; clear tok27)
    | (go_at_call 13; have _t := tok28; refine (Words_calls s28.out).mono ?_; rintro e w28 ⟨v28, rfl, hR28, hd28⟩; obtain ⟨A28, c28, rfl, hl28, hC28⟩ := Kd.R_reads hR28; have s29 := Lib.hid (s28.out.upd (Upd.of_below (F := No) hd28) (fun _ _ h => h)); have hb29 := Lib.hid (hb28.out.trans (hd28.mono hb28.out.size)); have hC28' := Lib.hid hC28; clear hR28 hC28 hd28; have tok29 : True := trivial; clear tok28)
    | (go_at_call 12; have _t := tok29; refine (same_l [2, 32] (by decide) (C_alloc' hC28'.out _) hl28 (lit2 _ 2 32) (Nat.le_refl _)).mono ?_; rintro e w29 ⟨rfl, hd29⟩; have hu29 := ((Upd.refl No w28).alloc _).trans (Upd.of_below (F := No) hd29.below) (fun _ h _ => h); have s30 := Lib.hid (s29.out.upd hu29 (fun _ _ h => h)); have hb30 := Lib.hid (hb29.out.trans (hu29.fresh.mono hb29.out.size)); clear hd29 hu29; have tok30 : True := trivial; clear tok29)
    | (go_at_call 31; have _t := tok30; have hSz30 := sz_of s30.out; refine (Resize_calls s30.out 69).mono ?_; rintro e w30 ⟨rfl, hs30, hu30⟩; rw [k27, k28] at hs30; have s31 := Lib.hid (hs30.mono (G := New w18) (or_new' (hSz30))); have hb31 := Lib.hid (Upd.below_trans hb30.out hu30 (fun _ h => hS.out _ h) hb30.out.size); clear hs30; have tok31 : True := trivial; clear tok30)
    | (go_at_call 13; have _t := tok31; refine (Words_calls s31.out).mono ?_; rintro e w31 ⟨v31, rfl, hR31, hd31⟩; obtain ⟨A31, c31, rfl, hl31, hC31⟩ := Kd.R_reads hR31; have s32 := Lib.hid (s31.out.upd (Upd.of_below (F := No) hd31) (fun _ _ h => h)); have hb32 := Lib.hid (hb31.out.trans (hd31.mono hb31.out.size)); have hC31' := Lib.hid hC31; clear hR31 hC31 hd31; have tok32 : True := trivial; clear tok31)
    | (go_at_call 12; have _t := tok32; refine (same_l [2, 0] (by decide) (C_alloc' hC31'.out _) hl31 (lit2 _ 2 0) (Nat.le_refl _)).mono ?_; rintro e w32 ⟨rfl, hd32⟩; have hu32 := ((Upd.refl No w31).alloc _).trans (Upd.of_below (F := No) hd32.below) (fun _ h _ => h); have s33 := Lib.hid (s32.out.upd hu32 (fun _ _ h => h)); have hb33 := Lib.hid (hb32.out.trans (hu32.fresh.mono hb32.out.size)); clear hd32 hu32; have tok33 : True := trivial; clear tok32)
    | (go_at_call 16; have _t := tok33; refine (Count_calls s33.out k29).mono ?_; rintro e w33 ⟨rfl, hd33⟩; rw [k30]; have s34 := Lib.hid (s33.out.upd (Upd.of_below (F := No) hd33.below) (fun _ _ h => h)); have hb34 := Lib.hid (hb33.out.trans (hd33.below.mono hb33.out.size)); clear hd33; have tok34 : True := trivial; clear tok33)
    | (go_at_call 31; have _t := tok34; have hSz34 := sz_of s34.out; refine (Resize_calls s34.out 70).mono ?_; rintro e w34 ⟨rfl, hs34, hu34⟩; rw [k31, k32] at hs34; have s35 := Lib.hid (hs34.mono (G := New w18) (or_new' (hSz34))); have hb35 := Lib.hid (Upd.below_trans hb34.out hu34 (fun _ h => hS.out _ h) hb34.out.size); clear hs34; have tok35 : True := trivial; clear tok34)
    | (go_at_call 9; have _t := tok35; refine (Of_calls (l := [5]) 2 (lit_row _ 5) wd_five).mono ?_; rintro e w35 ⟨tb, rfl, hs35, hd35⟩; rw [k33, k34] at hs35; have t36 := Lib.hid hs35; have hu35 := ((Upd.refl No w34).alloc _).trans hd35 (fun _ h _ => h); have s36 := Lib.hid (s35.out.upd hu35 (fun _ _ h => h)); have hb36 := Lib.hid (hb35.out.trans (hu35.fresh.mono hb35.out.size)); clear hs35 hd35 hu35; have tok36 : True := trivial; clear tok35)
    | (go_at_call 18; have _t := tok36; refine (Get_in s36.out 69 (by omega) (by omega)).mono ?_; rintro e w36 ⟨rfl, rfl⟩; rw [k35]; have tok37 : True := trivial; clear tok36)
    | (go_at_call 18; have _t := tok37; refine (Get_in t36.out 0 (by omega) (by omega)).mono ?_; rintro e w37 ⟨rfl, rfl⟩; rw [k36]; have tok38 : True := trivial; clear tok37)
    | (go_at_call 18; have _t := tok38; refine (Get_out t36.out 2 (by omega)).mono ?_; rintro e w38 ⟨rfl, rfl⟩; have tok39 : True := trivial; clear tok38)
    | (go_at_call 13; have _t := tok39; refine (Words_calls t36.out).mono ?_; rintro e w39 ⟨v39, rfl, hR39, hd39⟩; obtain ⟨A39, c39, rfl, hl39, hC39⟩ := Kd.R_reads hR39; have s40 := Lib.hid (s36.out.upd (Upd.of_below (F := No) hd39) (fun _ _ h => h)); have t40 := Lib.hid (t36.out.upd (Upd.of_below (F := No) hd39) (fun _ _ h => h)); have hb40 := Lib.hid (hb36.out.trans (hd39.mono hb36.out.size)); have hC39' := Lib.hid hC39; clear hR39 hC39 hd39; have tok40 : True := trivial; clear tok39)
    | (go_at_call 12; have _t := tok40; refine (same_l [1] (by decide) (C_alloc' hC39'.out _) hl39 (lit1 _ 1) (Nat.le_refl _)).mono ?_; rintro e w40 ⟨rfl, hd40⟩; have hu40 := ((Upd.refl No w39).alloc _).trans (Upd.of_below (F := No) hd40.below) (fun _ h _ => h); have s41 := Lib.hid (s40.out.upd hu40 (fun _ _ h => h)); have t41 := Lib.hid (t40.out.upd hu40 (fun _ _ h => h)); have hb41 := Lib.hid (hb40.out.trans (hu40.fresh.mono hb40.out.size)); clear hd40 hu40; have tok41 : True := trivial; clear tok40)
    | (go_at_call 9; have _t := tok41; refine (Of_calls (l := []) 65 (Kd.C_nil _ _) wd_nil).mono ?_; rintro e w41 ⟨ub, rfl, hs41, hd41⟩; rw [k37, k38] at hs41; have u42 := Lib.hid hs41; have hb42 := Lib.hid (hb41.out.trans (hd41.fresh.mono hb41.out.size)); clear hs41 hd41; have tok42 : True := trivial; clear tok41)
    | (go_at_call 13; have _t := tok42; refine (Words_calls u42.out).mono ?_; rintro e w42 ⟨v42, rfl, hR42, hd42⟩; obtain ⟨A42, c42, rfl, hl42, hC42⟩ := Kd.R_reads hR42; have hb43 := Lib.hid (hb42.out.trans (hd42.mono hb42.out.size)); have hC42' := Lib.hid hC42; clear hR42 hC42 hd42; have tok43 : True := trivial; clear tok42)
    | (go_at_call 12; have _t := tok43; refine (same_l [0, 0] (by decide) (C_alloc' hC42'.out _) hl42 (lit2 _ 0 0) (Nat.le_refl _)).mono ?_; rintro e w43 ⟨rfl, hd43⟩; have hu43 := ((Upd.refl No w42).alloc _).trans (Upd.of_below (F := No) hd43.below) (fun _ h _ => h); have hb44 := Lib.hid (hb43.out.trans (hu43.fresh.mono hb43.out.size)); clear hd43 hu43; have tok44 : True := trivial; clear tok43))
  go_ret
  exact ⟨rfl, hb44.out⟩
end Go.Proofs.YtccpoflhmooanaaDoor.Known
