/- BitsApart, walked: two sets of the same words, changed in turns. -/
import Derived.Test.YtccpoflhmooanaaDoorApart
import Derived.Deep.Cut
import Derived.Deep.CutRange
import Derived.Deep.LoopGhost
namespace Go.Proofs.YtccpoflhmooanaaDoor.Ref2
open Go.RowKit Go.Proofs.YtccpoflhmooanaaDoorW.PrintWords Go.Proofs.YtccpoflhmooanaaDoorW.PrintLast Go.Proofs.YtccpoflhmooanaaDoorW.PrintMore Go.Proofs.YtccpoflhmooanaaDoor.Nums Go.Proofs.YtccpoflhmooanaaDoor.NumF Go.Proofs.YtccpoflhmooanaaDoor.Sets Go.Proofs.YtccpoflhmooanaaDoor.SetF Go.Proofs.YtccpoflhmooanaaDoor.Mem Go.Proofs.YtccpoflhmooanaaDoor.Kept Go.Proofs.YtccpoflhmooanaaDoor.Tz Go.Proofs.YtccpoflhmooanaaDoor.R Go.Proofs.YtccpoflhmooanaaDoor.Walks
set_option linter.unusedVariables false
set_option linter.unusedSimpArgs false
set_option maxHeartbeats 4000000 in
set_option maxRecDepth 100000 in
theorem apart_calls {l : List Int} (hw : Wd l) (n : Int) (w : World) (hT : Tab w) {A : Option Addr} {c : Nat} (hC : (Kd.int .u64).C w A l.length l) (hc : l.length ≤ c)
    (ao : Option Addr) (lo co : Nat) (K I : Nat → Int) (B : Nat → Bool) (ho : ROps w ao lo K I B) (hlo : lo ≤ maxLen) (ap : Option Addr) (lp cp : Nat) (K' I' : Nat → Int) (B' : Nat → Bool) (hp : ROps w ap lp K' I' B') (hlp : lp ≤ maxLen) :
    Calls Tryd.prog 6 #[.slice A l.length c, .int .i64 n, .slice ao lo co, .slice ap lp cp] w fun e w' => e = .returned (.bool true) ∧ Below w.heap.size w w' := by
  obtain ⟨m, hm, hm2⟩ := fitN_nat n
  have HW := Lib.hid hw
  have HM := Lib.hid hm
  have HC := Lib.hid hC
  have Hc := Lib.hid hc
  have HT := Lib.hid hT
  have HO := Lib.hid ho
  have HP := Lib.hid hp
  have HS1 := Lib.hid (fun k (h : k < lo) => succ_w2 k (Nat.lt_of_lt_of_le h hlo))
  have HS2 := Lib.hid (fun k (h : k < lp) => succ_w2 k (Nat.lt_of_lt_of_le h hlp))
  clear hw hm hC hc hT hm2 ho hlo hp hlp
  go_enter Tryd.func6, Tryd.ntmps6
  have tok0 : True := trivial
  go_wp2_with (first
    | (go_at_call 8; have _t := tok0; refine (awake_calls _).mono ?_; rintro e w1 ⟨rfl, hb1⟩; have HB1 := Lib.hid hb1; clear hb1; have tok1 : True := trivial; clear tok0)
    | (go_at_call 9; have _t := tok1; refine (Of_calls n (Kd.C_below HC.out HB1.out) HW.out).mono ?_; rintro e w2 ⟨b, rfl, hs2, hu2⟩; rw [HM.out] at hs2; have HSA := Lib.hid hs2; have HB2 := Lib.hid (HB1.out.trans (hu2.fresh.mono HB1.out.size)); clear hs2 hu2; have tok2 : True := trivial; clear tok1)
    | (go_at_call 9; have _t := tok2; refine (Of_calls n (Kd.C_below HC.out HB2.out) HW.out).mono ?_; rintro e w3 ⟨b2, rfl, hs3, hu3⟩; rw [HM.out] at hs3; have HSB := Lib.hid hs3; have HU3 := Lib.hid hu3; have HB3 := Lib.hid (HB2.out.trans (hu3.fresh.mono HB2.out.size)); clear hs3 hu3; have tok3 : True := trivial; clear tok2)
    | (go_at_call 11; have _t := tok3; refine (refOf_t HW.out n m HM.out (Kd.C_below HC.out HB3.out) Hc.out).mono ?_; rintro e w4 ⟨At, ct, rfl, ht4, hb4⟩; have HTA := Lib.hid ht4; have HU4 := Lib.hid hb4; have HB4 := Lib.hid (HB3.out.trans (hb4.mono HB3.out.size)); clear ht4 hb4; have tok4 : True := trivial; clear tok3)
    | (go_at_call 11; have _t := tok4; refine (refOf_t HW.out n m HM.out (Kd.C_below HC.out HB4.out) Hc.out).mono ?_; rintro e w5 ⟨At2, ct2, rfl, ht5, hb5⟩; have HTB := Lib.hid ht5; have HU5 := Lib.hid hb5; have HB5 := Lib.hid (HB4.out.trans (hb5.mono HB4.out.size)); clear ht5 hb5; clear tok4))
  have HPM := Lib.hid (pairs_made HW.out n m HM.out HSA.out HU3.out HSB.out HTA.out HU4.out HTB.out HU5.out)
  have GA := Lib.hid HB1.out.size
  have GB := Lib.hid HB2.out.size
  have GC := Lib.hid HB3.out.size
  have GD := Lib.hid HB4.out.size
  clear HSA HSB HTA HTB HU3 HU4 HU5 HB1 HB2 HB3 HB4
  go_loopg [11, 12, 13] (max lo lp) (fun g x y i wr => ∃ k : Nat, Aside0 (k + g = max lo lp) ∧ i = .int .i64 k ∧ ∃ (A1 : Option Addr) (c1 m1 : Nat) (ws1 : List Int) (F1 G1 : Nat → Prop) (A2 : Option Addr) (c2 m2 : Nat) (ws2 : List Int) (F2 G2 : Nat → Prop), x = .slice A1 m1 c1 ∧ y = .slice A2 m2 c2 ∧
      Aside0 (Both F1 G1 wr b m1 ws1 A1 c1) ∧ Aside0 (Both F2 G2 wr b2 m2 ws2 A2 c2) ∧ Aside0 (Far F1 G1 F2 G2) ∧ Aside0 (∀ k, FG F1 G1 k → w.heap.size ≤ k) ∧ Aside0 (∀ k, FG F2 G2 k → w.heap.size ≤ k) ∧ Aside0 (Below w.heap.size w wr))
  case atStart => exact ⟨0, ⟨Nat.zero_add _⟩, rfl, At, ct, m, ofW l n, _, _, At2, ct2, m, ofW l n, _, _, rfl, rfl, ⟨HPM.out.1⟩, ⟨HPM.out.2.1⟩, ⟨HPM.out.2.2⟩, ⟨fun k hk => hk.elim (fun h => Nat.le_trans GA.out h.1) (fun h => Nat.le_trans GC.out h.1)⟩, ⟨fun k hk => hk.elim (fun h => Nat.le_trans GB.out h.1) (fun h => Nat.le_trans GD.out h.1)⟩, ⟨HB5.out⟩⟩
  case round =>
    obtain ⟨k, hg, rfl, A1, c1, m1, ws1, F1, G1, A2, c2, m2, ws2, F2, G2, rfl, rfl, hb1, hb2, hfar, hw1, hw2, hbr⟩ := hrel
    have HS : ∀ q, q < max lo lp → k = q → ∃ g1, gk = g1 + 1 ∧ (k + 1) + g1 = max lo lp := fun q hq e => ⟨gk - 1, by have := hg.out; omega, by have := hg.out; omega⟩
    have HSh := Lib.hid HS
    clear HS
    by_cases hla : k < lo
    · have da : decide (k < lo) = true := decide_eq_true hla
      have HLA := Lib.hid hla
      obtain ⟨g1, eg, hg1⟩ := HSh.out k (Nat.lt_of_lt_of_le hla (Nat.le_max_left _ _)) rfl
      have HG1 := Lib.hid hg1
      subst eg
      have HSU := Lib.hid (HS1.out k hla)
      clear hla hg hg1
      obtain ⟨ad, rfl, o1, o2, o3⟩ := HO.out.below hbr.out k HLA.out
      go_upto_if 50 with fail
      go_cut [11, 14, 15, 16, 17, 18] from 35 to 123 (fun x s14 s15 s16 s17 s18 wx => ∃ (A3 : Option Addr) (c3 m3 : Nat) (ws3 : List Int) (F3 G3 : Nat → Prop), x = .slice A3 m3 c3 ∧ Aside0 (Both F3 G3 wx b m3 ws3 A3 c3) ∧ Aside0 (Both F2 G2 wx b2 m2 ws2 A2 c2) ∧ Aside0 (Far F3 G3 F2 G2) ∧ Aside0 (∀ k, FG F3 G3 k → w.heap.size ≤ k) ∧ Aside0 (Below w.heap.size w wx))
      case first =>
        by_cases hk1 : K k = 1
        · have HKK := Lib.hid hk1
          have t1 : (K k == 1) = true := by simpa using hk1
          by_cases hi : 0 ≤ I k ∧ I k < (m1 : Int)
          · have ti : decide (I k < 0) = false := decide_eq_false (by omega)
            have tj : decide (I k ≥ (m1 : Int)) = false := decide_eq_false (by omega)
            clear hi hk1
            have tk0 : True := trivial
            go_wp2_with (first
            | (go_at_call 13; have _t := tk0; refine (Words_calls hb1.out.s).mono ?_; rintro e w6 ⟨va, rfl, hRa, hb6⟩; obtain ⟨Aa, ca, rfl, hla, hCa⟩ := Kd.R_reads hRa; have HCa := Lib.hid hCa; have H1 := Lib.hid (hb1.out.upd (Upd.of_below (F := No) hb6) (fun _ _ h => h) (fun _ _ h => h)); have H2 := Lib.hid (hb2.out.upd (Upd.of_below (F := No) hb6) (fun _ _ h => h) (fun _ _ h => h)); have HB6 := Lib.hid (hbr.out.trans (hb6.mono hbr.out.size)); have S6 := Lib.hid hb6.size; obtain ⟨ad2, e2, o1', o2', o3'⟩ := HO.out.below HB6.out k HLA.out; cases e2; clear hRa hCa hb6; have tk1 : True := trivial; clear tk0)
            | (go_at_call 15; have _t := tk1; refine (Len_calls H1.out.s).mono ?_; rintro e w7 ⟨rfl, rfl⟩; have tk2 : True := trivial; clear tk1)
            | (go_at_call 20; have _t := tk2; refine (played_c H1.out (tab_below HT.out HB6.out) _ (I k) (B k)).mono ?_; rintro e w8 ⟨A3, c3, m3, ws3, F3, G3, rfl, hbo3, hF3, hG3, hu3⟩; have HBO3 := Lib.hid hbo3; have HF3 := Lib.hid hF3; have HG3 := Lib.hid hG3; have HU3 := Lib.hid hu3; have HB8 := Lib.hid (Upd.below_trans HB6.out hu3 hw1.out HB6.out.size); obtain ⟨ad4, e4, p1, p2, p3⟩ := HO.out.below HB8.out k HLA.out; cases e4; clear hbo3 hF3 hG3 hu3; have tk3 : True := trivial; clear tk2))
            all_goals (go_meet; exact ⟨A3, c3, m3, ws3, F3, G3, rfl, ⟨HBO3.out⟩, ⟨H2.out.far HU3.out hfar.out⟩, ⟨hfar.out.after H2.out.fg HF3.out HG3.out⟩, ⟨fun q hq => hq.elim (fun h => or_from (fun q h => hw1.out q (.inl h)) HB6.out.size q (HF3.out q h)) (fun h => or_from (fun q h => hw1.out q (.inr h)) HB6.out.size q (HG3.out q h))⟩, ⟨HB8.out⟩⟩)
          · have HI := Lib.hid hi
            by_cases hn : I k < 0
            · have ti : decide (I k < 0) = true := decide_eq_true hn
              clear hi hn hk1 t1
              rw [HKK.out] at o1
              have tk0 : True := trivial
              go_wp2_with (first
              | (go_at_call 13; have _t := tk0; refine (Words_calls hb1.out.s).mono ?_; rintro e w6 ⟨va, rfl, hRa, hb6⟩; obtain ⟨Aa, ca, rfl, hla, hCa⟩ := Kd.R_reads hRa; have HCa := Lib.hid hCa; have H1 := Lib.hid (hb1.out.upd (Upd.of_below (F := No) hb6) (fun _ _ h => h) (fun _ _ h => h)); have H2 := Lib.hid (hb2.out.upd (Upd.of_below (F := No) hb6) (fun _ _ h => h) (fun _ _ h => h)); have HB6 := Lib.hid (hbr.out.trans (hb6.mono hbr.out.size)); have S6 := Lib.hid hb6.size; obtain ⟨ad2, e2, o1', o2', o3'⟩ := HO.out.below HB6.out k HLA.out; cases e2; rw [HKK.out] at o1'; clear hRa hCa hb6; have tk1 : True := trivial; clear tk0)
              | (go_at_call 15; have _t := tk1; refine (Len_calls H1.out.s).mono ?_; rintro e w7 ⟨rfl, rfl⟩; have tk2 : True := trivial; clear tk1)
              | (go_at_call 20; have _t := tk2; refine (refused1 H1.out (I k) HI.out (B k)).mono ?_; rintro e w8 ⟨rfl, hu3⟩; have H1b := Lib.hid (H1.out.upd hu3 (fun _ _ h => h) (fun _ _ h => h)); have H2b := Lib.hid (H2.out.upd hu3 (fun _ _ h => h) (fun _ _ h => h)); have HB8 := Lib.hid (HB6.out.trans (hu3.fresh.mono HB6.out.size)); have HCa8 := Lib.hid (Kd.C_below HCa.out hu3.fresh); obtain ⟨ad4, e4, p1, p2, p3⟩ := HO.out.below HB8.out k HLA.out; cases e4; rw [HKK.out] at p1; clear hu3; have tk3 : True := trivial; clear tk2)
              | (go_at_call 13; have _t := tk3; refine (Words_calls H1b.out.s).mono ?_; rintro e w9 ⟨vb, rfl, hRb, hb9⟩; obtain ⟨Ab, cb, rfl, hlb2, hCb⟩ := Kd.R_reads hRb; have H1c := Lib.hid (H1b.out.upd (Upd.of_below (F := No) hb9) (fun _ _ h => h) (fun _ _ h => h)); have H2c := Lib.hid (H2b.out.upd (Upd.of_below (F := No) hb9) (fun _ _ h => h) (fun _ _ h => h)); have HB9 := Lib.hid (HB8.out.trans (hb9.mono HB8.out.size)); have HCa9 := Lib.hid (Kd.C_below HCa8.out hb9); clear hRb hb9; have tk4 : True := trivial; clear tk3)
              | (go_at_call 12; have _t := tk4; refine (same_c ws1 H1.out.len HCa9.out hla hCb hlb2).mono ?_; rintro e w10 ⟨rfl, ⟨d10, rfl⟩⟩; clear tk4))
              all_goals (go_meet; exact ⟨A1, c1, m1, ws1, F1, G1, rfl, ⟨H1c.out.drewN d10⟩, ⟨H2c.out.drewN d10⟩, ⟨hfar.out⟩, ⟨hw1.out⟩, ⟨below_drewN HB9.out d10⟩⟩)
            · have ti : decide (I k < 0) = false := decide_eq_false hn
              have tj : decide (I k ≥ (m1 : Int)) = true := decide_eq_true (by omega)
              clear hi hn hk1 t1
              rw [HKK.out] at o1
              have tk0 : True := trivial
              go_wp2_with (first
              | (go_at_call 13; have _t := tk0; refine (Words_calls hb1.out.s).mono ?_; rintro e w6 ⟨va, rfl, hRa, hb6⟩; obtain ⟨Aa, ca, rfl, hla, hCa⟩ := Kd.R_reads hRa; have HCa := Lib.hid hCa; have H1 := Lib.hid (hb1.out.upd (Upd.of_below (F := No) hb6) (fun _ _ h => h) (fun _ _ h => h)); have H2 := Lib.hid (hb2.out.upd (Upd.of_below (F := No) hb6) (fun _ _ h => h) (fun _ _ h => h)); have HB6 := Lib.hid (hbr.out.trans (hb6.mono hbr.out.size)); have S6 := Lib.hid hb6.size; obtain ⟨ad2, e2, o1', o2', o3'⟩ := HO.out.below HB6.out k HLA.out; cases e2; rw [HKK.out] at o1'; clear hRa hCa hb6; have tk1 : True := trivial; clear tk0)
              | (go_at_call 15; have _t := tk1; refine (Len_calls H1.out.s).mono ?_; rintro e w7 ⟨rfl, rfl⟩; have tk2 : True := trivial; clear tk1)
              | (go_at_call 20; have _t := tk2; refine (refused1 H1.out (I k) HI.out (B k)).mono ?_; rintro e w8 ⟨rfl, hu3⟩; have H1b := Lib.hid (H1.out.upd hu3 (fun _ _ h => h) (fun _ _ h => h)); have H2b := Lib.hid (H2.out.upd hu3 (fun _ _ h => h) (fun _ _ h => h)); have HB8 := Lib.hid (HB6.out.trans (hu3.fresh.mono HB6.out.size)); have HCa8 := Lib.hid (Kd.C_below HCa.out hu3.fresh); obtain ⟨ad4, e4, p1, p2, p3⟩ := HO.out.below HB8.out k HLA.out; cases e4; rw [HKK.out] at p1; clear hu3; have tk3 : True := trivial; clear tk2)
              | (go_at_call 13; have _t := tk3; refine (Words_calls H1b.out.s).mono ?_; rintro e w9 ⟨vb, rfl, hRb, hb9⟩; obtain ⟨Ab, cb, rfl, hlb2, hCb⟩ := Kd.R_reads hRb; have H1c := Lib.hid (H1b.out.upd (Upd.of_below (F := No) hb9) (fun _ _ h => h) (fun _ _ h => h)); have H2c := Lib.hid (H2b.out.upd (Upd.of_below (F := No) hb9) (fun _ _ h => h) (fun _ _ h => h)); have HB9 := Lib.hid (HB8.out.trans (hb9.mono HB8.out.size)); have HCa9 := Lib.hid (Kd.C_below HCa8.out hb9); clear hRb hb9; have tk4 : True := trivial; clear tk3)
              | (go_at_call 12; have _t := tk4; refine (same_c ws1 H1.out.len HCa9.out hla hCb hlb2).mono ?_; rintro e w10 ⟨rfl, ⟨d10, rfl⟩⟩; clear tk4))
              all_goals (go_meet; exact ⟨A1, c1, m1, ws1, F1, G1, rfl, ⟨H1c.out.drewN d10⟩, ⟨H2c.out.drewN d10⟩, ⟨hfar.out⟩, ⟨hw1.out⟩, ⟨below_drewN HB9.out d10⟩⟩)
        by_cases hk2 : K k = 2
        · have HKK := Lib.hid hk2
          have t1 : (K k == 1) = false := by simpa using hk1
          have t2 : (K k == 2) = true := by simpa using hk2
          by_cases hi : 0 ≤ I k ∧ I k < (m1 : Int)
          · have ti : decide (I k < 0) = false := decide_eq_false (by omega)
            have tj : decide (I k ≥ (m1 : Int)) = false := decide_eq_false (by omega)
            clear hi hk2 hk1
            have tk0 : True := trivial
            go_wp2_with (first
            | (go_at_call 13; have _t := tk0; refine (Words_calls hb1.out.s).mono ?_; rintro e w6 ⟨va, rfl, hRa, hb6⟩; obtain ⟨Aa, ca, rfl, hla, hCa⟩ := Kd.R_reads hRa; have HCa := Lib.hid hCa; have H1 := Lib.hid (hb1.out.upd (Upd.of_below (F := No) hb6) (fun _ _ h => h) (fun _ _ h => h)); have H2 := Lib.hid (hb2.out.upd (Upd.of_below (F := No) hb6) (fun _ _ h => h) (fun _ _ h => h)); have HB6 := Lib.hid (hbr.out.trans (hb6.mono hbr.out.size)); have S6 := Lib.hid hb6.size; obtain ⟨ad2, e2, o1', o2', o3'⟩ := HO.out.below HB6.out k HLA.out; cases e2; clear hRa hCa hb6; have tk1 : True := trivial; clear tk0)
            | (go_at_call 15; have _t := tk1; refine (Len_calls H1.out.s).mono ?_; rintro e w7 ⟨rfl, rfl⟩; have tk2 : True := trivial; clear tk1)
            | (go_at_call 20; have _t := tk2; refine (played_c H1.out (tab_below HT.out HB6.out) _ (I k) (B k)).mono ?_; rintro e w8 ⟨A3, c3, m3, ws3, F3, G3, rfl, hbo3, hF3, hG3, hu3⟩; have HBO3 := Lib.hid hbo3; have HF3 := Lib.hid hF3; have HG3 := Lib.hid hG3; have HU3 := Lib.hid hu3; have HB8 := Lib.hid (Upd.below_trans HB6.out hu3 hw1.out HB6.out.size); obtain ⟨ad4, e4, p1, p2, p3⟩ := HO.out.below HB8.out k HLA.out; cases e4; clear hbo3 hF3 hG3 hu3; have tk3 : True := trivial; clear tk2))
            all_goals (go_meet; exact ⟨A3, c3, m3, ws3, F3, G3, rfl, ⟨HBO3.out⟩, ⟨H2.out.far HU3.out hfar.out⟩, ⟨hfar.out.after H2.out.fg HF3.out HG3.out⟩, ⟨fun q hq => hq.elim (fun h => or_from (fun q h => hw1.out q (.inl h)) HB6.out.size q (HF3.out q h)) (fun h => or_from (fun q h => hw1.out q (.inr h)) HB6.out.size q (HG3.out q h))⟩, ⟨HB8.out⟩⟩)
          · have HI := Lib.hid hi
            by_cases hn : I k < 0
            · have ti : decide (I k < 0) = true := decide_eq_true hn
              clear hi hn hk2 t1 hk1 t2
              rw [HKK.out] at o1
              have tk0 : True := trivial
              go_wp2_with (first
              | (go_at_call 13; have _t := tk0; refine (Words_calls hb1.out.s).mono ?_; rintro e w6 ⟨va, rfl, hRa, hb6⟩; obtain ⟨Aa, ca, rfl, hla, hCa⟩ := Kd.R_reads hRa; have HCa := Lib.hid hCa; have H1 := Lib.hid (hb1.out.upd (Upd.of_below (F := No) hb6) (fun _ _ h => h) (fun _ _ h => h)); have H2 := Lib.hid (hb2.out.upd (Upd.of_below (F := No) hb6) (fun _ _ h => h) (fun _ _ h => h)); have HB6 := Lib.hid (hbr.out.trans (hb6.mono hbr.out.size)); have S6 := Lib.hid hb6.size; obtain ⟨ad2, e2, o1', o2', o3'⟩ := HO.out.below HB6.out k HLA.out; cases e2; rw [HKK.out] at o1'; clear hRa hCa hb6; have tk1 : True := trivial; clear tk0)
              | (go_at_call 15; have _t := tk1; refine (Len_calls H1.out.s).mono ?_; rintro e w7 ⟨rfl, rfl⟩; have tk2 : True := trivial; clear tk1)
              | (go_at_call 20; have _t := tk2; refine (refused2 H1.out (I k) HI.out (B k)).mono ?_; rintro e w8 ⟨rfl, hu3⟩; have H1b := Lib.hid (H1.out.upd hu3 (fun _ _ h => h) (fun _ _ h => h)); have H2b := Lib.hid (H2.out.upd hu3 (fun _ _ h => h) (fun _ _ h => h)); have HB8 := Lib.hid (HB6.out.trans (hu3.fresh.mono HB6.out.size)); have HCa8 := Lib.hid (Kd.C_below HCa.out hu3.fresh); obtain ⟨ad4, e4, p1, p2, p3⟩ := HO.out.below HB8.out k HLA.out; cases e4; rw [HKK.out] at p1; clear hu3; have tk3 : True := trivial; clear tk2)
              | (go_at_call 13; have _t := tk3; refine (Words_calls H1b.out.s).mono ?_; rintro e w9 ⟨vb, rfl, hRb, hb9⟩; obtain ⟨Ab, cb, rfl, hlb2, hCb⟩ := Kd.R_reads hRb; have H1c := Lib.hid (H1b.out.upd (Upd.of_below (F := No) hb9) (fun _ _ h => h) (fun _ _ h => h)); have H2c := Lib.hid (H2b.out.upd (Upd.of_below (F := No) hb9) (fun _ _ h => h) (fun _ _ h => h)); have HB9 := Lib.hid (HB8.out.trans (hb9.mono HB8.out.size)); have HCa9 := Lib.hid (Kd.C_below HCa8.out hb9); clear hRb hb9; have tk4 : True := trivial; clear tk3)
              | (go_at_call 12; have _t := tk4; refine (same_c ws1 H1.out.len HCa9.out hla hCb hlb2).mono ?_; rintro e w10 ⟨rfl, ⟨d10, rfl⟩⟩; clear tk4))
              all_goals (go_meet; exact ⟨A1, c1, m1, ws1, F1, G1, rfl, ⟨H1c.out.drewN d10⟩, ⟨H2c.out.drewN d10⟩, ⟨hfar.out⟩, ⟨hw1.out⟩, ⟨below_drewN HB9.out d10⟩⟩)
            · have ti : decide (I k < 0) = false := decide_eq_false hn
              have tj : decide (I k ≥ (m1 : Int)) = true := decide_eq_true (by omega)
              clear hi hn hk2 t1 hk1 t2
              rw [HKK.out] at o1
              have tk0 : True := trivial
              go_wp2_with (first
              | (go_at_call 13; have _t := tk0; refine (Words_calls hb1.out.s).mono ?_; rintro e w6 ⟨va, rfl, hRa, hb6⟩; obtain ⟨Aa, ca, rfl, hla, hCa⟩ := Kd.R_reads hRa; have HCa := Lib.hid hCa; have H1 := Lib.hid (hb1.out.upd (Upd.of_below (F := No) hb6) (fun _ _ h => h) (fun _ _ h => h)); have H2 := Lib.hid (hb2.out.upd (Upd.of_below (F := No) hb6) (fun _ _ h => h) (fun _ _ h => h)); have HB6 := Lib.hid (hbr.out.trans (hb6.mono hbr.out.size)); have S6 := Lib.hid hb6.size; obtain ⟨ad2, e2, o1', o2', o3'⟩ := HO.out.below HB6.out k HLA.out; cases e2; rw [HKK.out] at o1'; clear hRa hCa hb6; have tk1 : True := trivial; clear tk0)
              | (go_at_call 15; have _t := tk1; refine (Len_calls H1.out.s).mono ?_; rintro e w7 ⟨rfl, rfl⟩; have tk2 : True := trivial; clear tk1)
              | (go_at_call 20; have _t := tk2; refine (refused2 H1.out (I k) HI.out (B k)).mono ?_; rintro e w8 ⟨rfl, hu3⟩; have H1b := Lib.hid (H1.out.upd hu3 (fun _ _ h => h) (fun _ _ h => h)); have H2b := Lib.hid (H2.out.upd hu3 (fun _ _ h => h) (fun _ _ h => h)); have HB8 := Lib.hid (HB6.out.trans (hu3.fresh.mono HB6.out.size)); have HCa8 := Lib.hid (Kd.C_below HCa.out hu3.fresh); obtain ⟨ad4, e4, p1, p2, p3⟩ := HO.out.below HB8.out k HLA.out; cases e4; rw [HKK.out] at p1; clear hu3; have tk3 : True := trivial; clear tk2)
              | (go_at_call 13; have _t := tk3; refine (Words_calls H1b.out.s).mono ?_; rintro e w9 ⟨vb, rfl, hRb, hb9⟩; obtain ⟨Ab, cb, rfl, hlb2, hCb⟩ := Kd.R_reads hRb; have H1c := Lib.hid (H1b.out.upd (Upd.of_below (F := No) hb9) (fun _ _ h => h) (fun _ _ h => h)); have H2c := Lib.hid (H2b.out.upd (Upd.of_below (F := No) hb9) (fun _ _ h => h) (fun _ _ h => h)); have HB9 := Lib.hid (HB8.out.trans (hb9.mono HB8.out.size)); have HCa9 := Lib.hid (Kd.C_below HCa8.out hb9); clear hRb hb9; have tk4 : True := trivial; clear tk3)
              | (go_at_call 12; have _t := tk4; refine (same_c ws1 H1.out.len HCa9.out hla hCb hlb2).mono ?_; rintro e w10 ⟨rfl, ⟨d10, rfl⟩⟩; clear tk4))
              all_goals (go_meet; exact ⟨A1, c1, m1, ws1, F1, G1, rfl, ⟨H1c.out.drewN d10⟩, ⟨H2c.out.drewN d10⟩, ⟨hfar.out⟩, ⟨hw1.out⟩, ⟨below_drewN HB9.out d10⟩⟩)
        have t1 : (K k == 1) = false := by simpa using hk1
        have t2 : (K k == 2) = false := by simpa using hk2
        clear hk1 hk2
        have tk0 : True := trivial
        go_wp2_with (first
        | (go_at_call 13; have _t := tk0; refine (Words_calls hb1.out.s).mono ?_; rintro e w6 ⟨va, rfl, hRa, hb6⟩; obtain ⟨Aa, ca, rfl, hla, hCa⟩ := Kd.R_reads hRa; have HCa := Lib.hid hCa; have H1 := Lib.hid (hb1.out.upd (Upd.of_below (F := No) hb6) (fun _ _ h => h) (fun _ _ h => h)); have H2 := Lib.hid (hb2.out.upd (Upd.of_below (F := No) hb6) (fun _ _ h => h) (fun _ _ h => h)); have HB6 := Lib.hid (hbr.out.trans (hb6.mono hbr.out.size)); have S6 := Lib.hid hb6.size; obtain ⟨ad2, e2, o1', o2', o3'⟩ := HO.out.below HB6.out k HLA.out; cases e2; clear hRa hCa hb6; have tk1 : True := trivial; clear tk0)
        | (go_at_call 15; have _t := tk1; refine (Len_calls H1.out.s).mono ?_; rintro e w7 ⟨rfl, rfl⟩; have tk2 : True := trivial; clear tk1)
        | (go_at_call 20; have _t := tk2; refine (played_c H1.out (tab_below HT.out HB6.out) _ (I k) (B k)).mono ?_; rintro e w8 ⟨A3, c3, m3, ws3, F3, G3, rfl, hbo3, hF3, hG3, hu3⟩; have HBO3 := Lib.hid hbo3; have HF3 := Lib.hid hF3; have HG3 := Lib.hid hG3; have HU3 := Lib.hid hu3; have HB8 := Lib.hid (Upd.below_trans HB6.out hu3 hw1.out HB6.out.size); obtain ⟨ad4, e4, p1, p2, p3⟩ := HO.out.below HB8.out k HLA.out; cases e4; clear hbo3 hF3 hG3 hu3; have tk3 : True := trivial; clear tk2))
        all_goals (go_meet; exact ⟨A3, c3, m3, ws3, F3, G3, rfl, ⟨HBO3.out⟩, ⟨H2.out.far HU3.out hfar.out⟩, ⟨hfar.out.after H2.out.fg HF3.out HG3.out⟩, ⟨fun q hq => hq.elim (fun h => or_from (fun q h => hw1.out q (.inl h)) HB6.out.size q (HF3.out q h)) (fun h => or_from (fun q h => hw1.out q (.inr h)) HB6.out.size q (HG3.out q h))⟩, ⟨HB8.out⟩⟩)
      case rest =>
        obtain ⟨A3, c3, m3, ws3, F3, G3, rfl, hb3, hb4, hfar3, hw3, hbr3⟩ := hcut
        by_cases hlb : k < lp
        · have db : decide (k < lp) = true := decide_eq_true hlb
          have HLB := Lib.hid hlb
          clear hlb
          obtain ⟨ad5, rfl, r1, r2, r3⟩ := HP.out.below hbr3.out k HLB.out
          go_wp2_with (go_at_call 20; refine (played_c hb4.out (tab_below HT.out hbr3.out) (K' k) (I' k) (B' k)).mono ?_; rintro e w9 ⟨A4, c4, m4, ws4, F4, G4, rfl, hbo4, hF4, hG4, hu4⟩; have HBO4 := Lib.hid hbo4; have HF4 := Lib.hid hF4; have HG4 := Lib.hid hG4; have HU4 := Lib.hid hu4; clear hbo4 hF4 hG4 hu4)
          go_roundg g1
          case measure => exact Nat.lt_succ_self _
          case rel => exact ⟨k + 1, ⟨HG1.out⟩, congrArg (Value.int .i64) HSU.out, A3, c3, m3, ws3, F3, G3, A4, c4, m4, ws4, F4, G4, rfl, rfl, ⟨hb3.out.far HU4.out hfar3.out.symm⟩, ⟨HBO4.out⟩, ⟨(hfar3.out.symm.after hb3.out.fg HF4.out HG4.out).symm⟩, ⟨hw3.out⟩, ⟨fun q hq => hq.elim (fun h => or_from (fun q h => hw2.out q (.inl h)) hbr3.out.size q (HF4.out q h)) (fun h => or_from (fun q h => hw2.out q (.inr h)) hbr3.out.size q (HG4.out q h))⟩, ⟨Upd.below_trans hbr3.out HU4.out hw2.out hbr3.out.size⟩⟩
        · have db : decide (k < lp) = false := decide_eq_false hlb
          clear hlb
          go_wp2
          go_roundg g1
          case measure => exact Nat.lt_succ_self _
          case rel => exact ⟨k + 1, ⟨HG1.out⟩, congrArg (Value.int .i64) HSU.out, A3, c3, m3, ws3, F3, G3, A2, c2, m2, ws2, F2, G2, rfl, rfl, ⟨hb3.out⟩, ⟨hb4.out⟩, ⟨hfar3.out⟩, ⟨hw3.out⟩, ⟨hw2.out⟩, ⟨hbr3.out⟩⟩
    · have da : decide (k < lo) = false := decide_eq_false hla
      by_cases hlb : k < lp
      · have db : decide (k < lp) = true := decide_eq_true hlb
        have HLA := Lib.hid hla
        have HLB := Lib.hid hlb
        obtain ⟨g1, eg, hg1⟩ := HSh.out k (Nat.lt_of_lt_of_le hlb (Nat.le_max_right _ _)) rfl
        have HG1 := Lib.hid hg1
        subst eg
        clear hla hlb hg hg1
        obtain ⟨ad, rfl, o1, o2, o3⟩ := HP.out.below hbr.out k HLB.out
        go_wp2_with (go_at_call 20; refine (played_c hb2.out (tab_below HT.out hbr.out) (K' k) (I' k) (B' k)).mono ?_; rintro e w6 ⟨A3, c3, m3, ws3, F3, G3, rfl, hbo3, hF3, hG3, hu3⟩; have HBO3 := Lib.hid hbo3; have HF3 := Lib.hid hF3; have HG3 := Lib.hid hG3; have HU3 := Lib.hid hu3; clear hbo3 hF3 hG3 hu3)
        go_roundg g1
        case rel => exact ⟨k + 1, ⟨HG1.out⟩, congrArg (Value.int .i64) (HS2.out k HLB.out), A1, c1, m1, ws1, F1, G1, A3, c3, m3, ws3, F3, G3, rfl, rfl, ⟨hb1.out.far HU3.out hfar.out.symm⟩, ⟨HBO3.out⟩, ⟨(hfar.out.symm.after hb1.out.fg HF3.out HG3.out).symm⟩, ⟨hw1.out⟩, ⟨fun q hq => hq.elim (fun h => or_from (fun q h => hw2.out q (.inl h)) hbr.out.size q (HF3.out q h)) (fun h => or_from (fun q h => hw2.out q (.inr h)) hbr.out.size q (HG3.out q h))⟩, ⟨Upd.below_trans hbr.out HU3.out hw2.out hbr.out.size⟩⟩
        case measure => exact Nat.lt_succ_self _
      · have db : decide (k < lp) = false := decide_eq_false hlb
        clear hla hlb hg
        have H1 := Lib.hid hb1.out
        have H2 := Lib.hid hb2.out
        have HBr := Lib.hid hbr.out
        clear hb1 hb2 hbr hfar hw1 hw2
        have tok5 : True := trivial
        go_wp2_with (first
          | (go_at_call 13; have _t := tok5; refine (Words_calls H1.out.s).mono ?_; rintro e w8 ⟨va, rfl, hRa, hb8⟩; obtain ⟨Aa, ca, rfl, hla, hCa⟩ := Kd.R_reads hRa; have HT8 := Lib.hid (H1.out.t.upd (Upd.of_below (F := No) hb8) (fun _ _ h => h)); have H28 := Lib.hid (H2.out.upd (Upd.of_below (F := No) hb8) (fun _ _ h => h) (fun _ _ h => h)); have HB8 := Lib.hid (HBr.out.trans (hb8.mono HBr.out.size)); have HCa := Lib.hid hCa; clear hRa hCa hb8; have tok6 : True := trivial; clear tok5)
          | (go_at_call 14; have _t := tok6; refine (rwords_c H1.out HT8.out.C).mono ?_; rintro e w9 ⟨Aw, cw, rfl, hlw, hCw, hb9⟩; have HCa2 := Lib.hid (Kd.C_below HCa.out hb9); have H29 := Lib.hid (H28.out.upd (Upd.of_below (F := No) hb9) (fun _ _ h => h) (fun _ _ h => h)); have HB9 := Lib.hid (HB8.out.trans (hb9.mono HB8.out.size)); clear hb9; have tok7 : True := trivial; clear tok6)
          | (go_at_call 12; have _t := tok7; refine (same_c ws1 H1.out.len HCa2.out hla hCw hlw).mono ?_; rintro e w10 ⟨rfl, ⟨d10, rfl⟩⟩; have H30 := Lib.hid (H29.out.drewN d10); have HB10 := Lib.hid (below_drewN HB9.out d10); have tok8 : True := trivial; clear tok7)
          | (go_at_call 13; have _t := tok8; refine (Words_calls H30.out.s).mono ?_; rintro e w11 ⟨vb, rfl, hRb, hb11⟩; obtain ⟨Ab, cb, rfl, hlb, hCb⟩ := Kd.R_reads hRb; have HT11 := Lib.hid (H30.out.t.upd (Upd.of_below (F := No) hb11) (fun _ _ h => h)); have HB11 := Lib.hid (HB10.out.trans (hb11.mono HB10.out.size)); have HCb := Lib.hid hCb; clear hRb hCb hb11; have tok9 : True := trivial; clear tok8)
          | (go_at_call 14; have _t := tok9; refine (rwords_c H2.out HT11.out.C).mono ?_; rintro e w12 ⟨Aw2, cw2, rfl, hlw2, hCw2, hb12⟩; have HCb2 := Lib.hid (Kd.C_below HCb.out hb12); have HB12 := Lib.hid (HB11.out.trans (hb12.mono HB11.out.size)); clear hb12; have tok10 : True := trivial; clear tok9)
          | (go_at_call 12; have _t := tok10; refine (same_c ws2 H2.out.len HCb2.out hlb hCw2 hlw2).mono ?_; rintro e w13 ⟨rfl, ⟨d13, rfl⟩⟩; clear tok10))
        go_ret
        exact ⟨rfl, below_drewN HB12.out d13⟩
theorem apart_walk (a0 : Option Addr) (len0 cap0 : Nat) (z0 : List Int) (a1 : Int) (w : World) (hT : Tab w)
    (w0 : (a0 = none ∧ len0 = 0 ∧ cap0 = 0 ∧ z0 = []) ∨ ∃ x, a0 = some x ∧ len0 ≤ cap0 ∧ cap0 ≤ maxLen ∧ z0.length = cap0 ∧ (∀ i, i < z0.length → w.cell? (x.add i) = some (.int .u64 (z0.getD i 0))) ∧ ∀ n ∈ z0, (Lit.int .u64 n).wf = true)
    (ao : Option Addr) (lo co : Nat) (K I : Nat → Int) (B : Nat → Bool) (ho : ROps w ao lo K I B) (hlo : lo ≤ maxLen) (ap : Option Addr) (lp cp : Nat) (K' I' : Nat → Int) (B' : Nat → Bool) (hp : ROps w ap lp K' I' B') (hlp : lp ≤ maxLen) :
    Calls Tryd.prog 6 #[.slice a0 len0 cap0, .int .i64 a1, .slice ao lo co, .slice ap lp cp] w fun e w' => e = .returned (.bool true) ∧ Below w.heap.size w w' := by
  obtain ⟨l0, rfl, hr0, hm0, hw0, hc0⟩ := ReadsInt.ofRowC w0
  exact apart_calls (wd_wf hw0) a1 w hT (Kd.C_of_reads (d := (0 : Int)) (h1 := fun _ => rfl) hr0) hc0 ao lo co K I B ho hlo ap lp cp K' I' B' hp hlp
end Go.Proofs.YtccpoflhmooanaaDoor.Ref2
