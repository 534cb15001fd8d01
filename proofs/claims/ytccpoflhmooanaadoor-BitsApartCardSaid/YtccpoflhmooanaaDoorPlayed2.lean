/- One call on both sets: Flip, Words, Resize; every call. -/
import Derived.Test.YtccpoflhmooanaaDoorPlayed
import Derived.Deep.RegionWith
namespace Go.Proofs.YtccpoflhmooanaaDoor.Ref2
open Go.RowKit Go.Proofs.YtccpoflhmooanaaDoorW.PrintWords Go.Proofs.YtccpoflhmooanaaDoorW.PrintLast Go.Proofs.YtccpoflhmooanaaDoorW.PrintMore Go.Proofs.YtccpoflhmooanaaDoor.Nums Go.Proofs.YtccpoflhmooanaaDoor.NumF Go.Proofs.YtccpoflhmooanaaDoor.Sets Go.Proofs.YtccpoflhmooanaaDoor.SetF Go.Proofs.YtccpoflhmooanaaDoor.Mem Go.Proofs.YtccpoflhmooanaaDoor.Kept Go.Proofs.YtccpoflhmooanaaDoor.Tz Go.Proofs.YtccpoflhmooanaaDoor.R
set_option linter.unusedVariables false
set_option linter.unusedSimpArgs false
theorem TR.bound {G : Nat → Prop} {w : World} {A : Option Addr} {m c : Nat} {t : List Bool} (h : TR G w A m c t) : TR (fun k => G k ∧ k < w.heap.size) w A m c t :=
  ⟨h.1, h.2.1, Kd.R_mono (Kd.R_bound h.2.2) (fun k hk => ⟨hk.1, hk.2.2.1⟩)⟩
theorem Both.resized {F G : Nat → Prop} {w wa w1 w2 : World} {b m : Nat} {ws : List Int} {A : Option Addr} {c : Nat} (h : Both F G w b m ws A c) (ha : Upd No w wa) (n : Int) (M : Nat) (hM : fitN n = M)
    (hs : SetR (Or F wa) w1 b (fitN n) (ofW ws n)) (hu : Upd F wa w1) {A' : Option Addr} {c' : Nat} (ht : TR (New w1) w2 A' M c' (tbl M (cutB m (bitN ws)))) (hb : Below w1.heap.size w1 w2) :
    After F G w b (.returned (.tuple #[.slice A' M c', .bool true])) w2 := by
  have s1 := ha.size
  have s2 := hu.size
  have s3 := hb.size
  have hw := h.s.2.2.2.1
  rw [hM] at hs
  rw [resize_tbl hw m h.clean n M hM] at ht
  refine ⟨A', c', M, ofW ws n, fun k => Or F wa k ∧ k < w1.heap.size, fun k => New w1 k ∧ k < w2.heap.size, rfl, ⟨?_, ofW_clean hw n M hM, ht.bound, ?_, ?_, fun k hk => hk.2⟩, ?_, ?_, ?_⟩
  · exact hs.bound.upd (Upd.of_below (F := No) hb) (fun _ _ h => h)
  · rintro k ⟨-, h1⟩ ⟨h2, -⟩
    unfold New at h2; omega
  · rintro k ⟨-, h1⟩; omega
  · rintro k ⟨h1 | h1, h2⟩
    · exact .inl h1
    · exact .inr (by omega)
  · rintro k ⟨h1, -⟩
    unfold New at h1
    exact .inr (by omega)
  · exact (((ha.mono (fun _ h => h.elim)).trans (hu.mono (fun k hk => Or.inl hk)) (fun _ h _ => h)).trans (Upd.of_below (F := FG F G) hb) (fun _ h _ => h) : Upd (FG F G) w w2)
set_option maxHeartbeats 4000000 in
theorem played7 {F G : Nat → Prop} {w : World} {b m : Nat} {ws : List Int} {A : Option Addr} {c : Nat} (h : Both F G w b m ws A c) (i : Int) (v : Bool) :
    Calls Tryd.prog 20 #[.pointer (some ⟨b, 0, none⟩), .slice A m c, .agg #[.int .i64 7, .int .i64 i, .bool v]] w fun e w' => After F G w b e w' := by
  have HH := Lib.hid h
  have hn := Lib.hid (fun hk : F w.heap.size => Nat.lt_irrefl _ (h.f _ hk))
  obtain ⟨M, hM, hM2⟩ := fitN_nat i
  have HM := Lib.hid hM
  clear h hM hM2
  go_enter Tryd.func20, Tryd.ntmps20
  go_wp2_with (first
    | (go_at_call 31; refine (Resize_calls (HH.out.alloc _).s i).mono ?_; rintro e w1 ⟨rfl, hs1, hu1⟩; have HS1 := Lib.hid hs1; have HU1 := Lib.hid hu1; have HT1 := Lib.hid ((HH.out.alloc _).t.upd hu1 (fun k hk hf => HH.out.apart k hf hk)); have q1 : w1.cell? ⟨w.heap.size, 1, none⟩ = some (.int .i64 i) := (box_cell hu1 hn.out 1).trans (blk_cell (blk_new w _) 1); clear hs1 hu1)
    | (go_at_call 41; refine (resize_c HH.out.le (bitN ws) i M HM.out HT1.out.C HT1.out.2.1).mono ?_; rintro e w2 ⟨A', c', rfl, ht2, hb2⟩))
  go_ret2
  exact Both.resized HH.out ((Upd.refl No w).alloc _) i M HM.out HS1.out HU1.out ht2 hb2
theorem Both.words {F G : Nat → Prop} {w : World} {b m : Nat} {ws : List Int} {A : Option Addr} {c : Nat} (h : Both F G w b m ws A c) : wordsOf (tbl m (bitN ws)) = ws :=
  words_back h.s.2.2.2.1 (by have := h.s.2.2.1; omega) h.clean
theorem rwords_c {F G : Nat → Prop} {w0 w : World} {b m : Nat} {ws : List Int} {A : Option Addr} {c : Nat} (h : Both F G w0 b m ws A c) (hC : Kd.bool.C w A m (tbl m (bitN ws))) :
    Calls Tryd.prog 14 #[.slice A m c] w fun e w' => ∃ A' c', e = .returned (.slice A' ws.length c') ∧ ws.length ≤ c' ∧ (Kd.int .u64).C w' A' ws.length ws ∧ Below w.heap.size w w' := by
  have := refWords_c (t := tbl m (bitN ws)) (by rw [tbl_length]; exact h.le) (w := w) (A := A) (c := c) (by rw [tbl_length]; exact hC) (by rw [tbl_length]; exact h.t.2.1)
  rw [tbl_length, h.words] at this
  refine this.mono ?_
  rintro e w' ⟨A', c', rfl, hr, hb⟩
  obtain ⟨A2, c2, e2, h1, h2⟩ := Kd.R_reads hr
  injection e2 with e3 e4 e5
  subst e3
  subst e5
  exact ⟨_, _, rfl, h1, h2, hb⟩
theorem Both.len {F G : Nat → Prop} {w : World} {b m : Nat} {ws : List Int} {A : Option Addr} {c : Nat} (h : Both F G w b m ws A c) : ws.length ≤ 1048576 := by
  have := h.s.2.2.1
  have := h.le
  omega
set_option maxHeartbeats 4000000 in
theorem played6 {F G : Nat → Prop} {w : World} {b m : Nat} {ws : List Int} {A : Option Addr} {c : Nat} (h : Both F G w b m ws A c) (i : Int) (v : Bool) :
    Calls Tryd.prog 20 #[.pointer (some ⟨b, 0, none⟩), .slice A m c, .agg #[.int .i64 6, .int .i64 i, .bool v]] w fun e w' => After F G w b e w' := by
  have HH := Lib.hid h
  clear h
  go_enter Tryd.func20, Tryd.ntmps20
  go_wp2_with (first
    | (go_at_call 13; refine (Words_calls (HH.out.alloc _).s).mono ?_; rintro e w1 ⟨va, rfl, hRa, hb1⟩; obtain ⟨Aa, ca, rfl, hla, hCa⟩ := Kd.R_reads hRa; have HT1 := Lib.hid ((HH.out.alloc _).t.upd (Upd.of_below (F := No) hb1) (fun _ _ h => h)); have HB1 := Lib.hid hb1; have HCa := Lib.hid hCa; clear hRa hCa hb1)
    | (go_at_call 14; refine (rwords_c HH.out HT1.out.C).mono ?_; rintro e w2 ⟨Aw, cw, rfl, hlw, hCw, hb2⟩; have HCa2 := Lib.hid (Kd.C_below HCa.out hb2); have HB2 := Lib.hid hb2; clear hb2)
    | (go_at_call 12; refine (same_c ws HH.out.len HCa2.out hla hCw hlw).mono ?_; rintro e w3 ⟨rfl, ⟨d3, rfl⟩⟩))
  go_ret2
  exact After.of rfl (Both.same HH.out (((((Upd.refl No w).alloc _).trans (Upd.of_below (F := No) HB1.out) (fun _ h _ => h)).trans (Upd.of_below (F := No) HB2.out) (fun _ h _ => h)).drewN _))
end Go.Proofs.YtccpoflhmooanaaDoor.Ref2
