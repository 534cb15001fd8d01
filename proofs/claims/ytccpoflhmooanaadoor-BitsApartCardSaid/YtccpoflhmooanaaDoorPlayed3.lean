/- One call on both sets: Flip; every call. -/
import Derived.Test.YtccpoflhmooanaaDoorPlayed2
import Derived.Deep.RegionWith
namespace Go.Proofs.YtccpoflhmooanaaDoor.Ref2
open Go.RowKit Go.Proofs.YtccpoflhmooanaaDoorW.PrintWords Go.Proofs.YtccpoflhmooanaaDoorW.PrintLast Go.Proofs.YtccpoflhmooanaaDoorW.PrintMore Go.Proofs.YtccpoflhmooanaaDoor.Nums Go.Proofs.YtccpoflhmooanaaDoor.NumF Go.Proofs.YtccpoflhmooanaaDoor.Sets Go.Proofs.YtccpoflhmooanaaDoor.SetF Go.Proofs.YtccpoflhmooanaaDoor.Mem Go.Proofs.YtccpoflhmooanaaDoor.Kept Go.Proofs.YtccpoflhmooanaaDoor.Tz Go.Proofs.YtccpoflhmooanaaDoor.R
set_option linter.unusedVariables false
set_option linter.unusedSimpArgs false
theorem TR.drewN {G : Nat → Prop} {w : World} {A : Option Addr} {m c : Nat} {t : List Bool} (h : TR G w A m c t) (n : Nat) : TR G (w.drewN n) A m c t := h.upd ((Upd.refl No w).drewN n) (fun _ _ h => h)
theorem inT_in (m : Nat) (f : Nat → Bool) (j : Nat) (hj : j < m) : inT m f (j : Int) = f j := by unfold inT; simp [hj]
set_option maxHeartbeats 4000000 in
theorem played2 {F G : Nat → Prop} {w : World} {b m : Nat} {ws : List Int} {A : Option Addr} {c : Nat} (h : Both F G w b m ws A c) (i : Int) (v : Bool) :
    Calls Tryd.prog 20 #[.pointer (some ⟨b, 0, none⟩), .slice A m c, .agg #[.int .i64 2, .int .i64 i, .bool v]] w fun e w' => After F G w b e w' := by
  have HH := Lib.hid h
  have hn := Lib.hid (fun hk : F w.heap.size => Nat.lt_irrefl _ (h.f _ hk))
  by_cases hi : 0 ≤ i ∧ i < (m : Int)
  · obtain ⟨j, rfl⟩ := Int.eq_ofNat_of_zero_le hi.1
    have hj : (j : Int) < (m : Int) := hi.2
    have HJ := Lib.hid hj
    have HJ2 := Lib.hid (Int.ofNat_lt.1 hj)
    clear h hi hj
    have HL := Lib.hid (HH.out.idx j HJ2.out)
    go_enter Tryd.func20, Tryd.ntmps20
    go_wp2_with (first
      | (go_at_call 19; refine (Flip_in (HH.out.alloc _).s j HJ.out).mono ?_; rintro e w1 ⟨rfl, hs1, hu1⟩; have HS1 := Lib.hid hs1; have HU1 := Lib.hid hu1; have HT1 := Lib.hid ((HH.out.alloc _).t.upd hu1 (fun k hk hf => HH.out.apart k hf hk)); have q1 : w1.cell? ⟨w.heap.size, 1, none⟩ = some (.int .i64 (j : Int)) := (box_cell hu1 hn.out 1).trans (blk_cell (blk_new w _) 1); clear hs1 hu1))
    go_region_with (first
      | (go_at_call 39; refine (get_c (bitN ws) (j : Int) (TR.drewN HT1.out _).C HH.out.t.2.1).mono ?_; rintro e w2 ⟨rfl, ⟨d2, rfl⟩⟩)
      | (go_at_call 38; refine (put_in_c (TR.drewN HT1.out _) j HJ2.out _).mono ?_; rintro e w3 ⟨rfl, ht3, hu3⟩))
    all_goals
      go_wp2
      go_ret2
      exact Both.put HH.out ((Upd.refl No w).alloc _) j HJ2.out HS1.out (flip_clean HH.out.clean j HJ2.out HL.out) HU1.out ht3 (by rw [inT_in _ _ _ HJ2.out, flip_tbl ws m j HJ2.out HL.out]) (((Upd.refl G w1).drewN _).trans hu3 (fun _ h _ => h))
  · have HI := Lib.hid hi
    clear h hi
    go_enter Tryd.func20, Tryd.ntmps20
    go_wp2_with (first
      | (go_at_call 19; refine (Flip_out (HH.out.alloc _).s i HI.out).mono ?_; rintro e w1 ⟨rfl, rfl⟩))
    go_region_with (first
      | (go_at_call 39; refine (get_c (bitN ws) i (TR.drewN (HH.out.alloc _).t _).C HH.out.t.2.1).mono ?_; rintro e w2 ⟨rfl, ⟨d2, rfl⟩⟩)
      | (go_at_call 38; refine (put_out_c i HI.out _ _ _ _).mono ?_; rintro e w3 ⟨rfl, rfl⟩))
    all_goals
      go_wp2
      go_ret2
      exact Both.same HH.out (((Upd.refl No w).alloc _).drewN _)
/-- Every call. -/
theorem played_c {F G : Nat → Prop} {w : World} {b m : Nat} {ws : List Int} {A : Option Addr} {c : Nat} (h : Both F G w b m ws A c) (hT : Tab w) (K i : Int) (v : Bool) :
    Calls Tryd.prog 20 #[.pointer (some ⟨b, 0, none⟩), .slice A m c, .agg #[.int .i64 K, .int .i64 i, .bool v]] w fun e w' => After F G w b e w' := by
  by_cases k1 : K = 1
  · subst k1; exact played1 h i v
  by_cases k2 : K = 2
  · subst k2; exact played2 h i v
  by_cases k3 : K = 3
  · subst k3; exact played3 h hT i v
  by_cases k4 : K = 4
  · subst k4; exact played4 h i v
  by_cases k5 : K = 5
  · subst k5; exact played5 h i v
  by_cases k6 : K = 6
  · subst k6; exact played6 h i v
  by_cases k7 : K = 7
  · subst k7; exact played7 h i v
  exact played0 h K ⟨k1, k2, k3, k4, k5, k6, k7⟩ i v
end Go.Proofs.YtccpoflhmooanaaDoor.Ref2
