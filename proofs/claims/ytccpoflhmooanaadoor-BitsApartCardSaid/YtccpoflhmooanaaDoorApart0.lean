/- What a refused Put or Flip leaves; both sets beside what does not touch them. -/
import Derived.Test.YtccpoflhmooanaaDoorPlays
namespace Go.Proofs.YtccpoflhmooanaaDoor.Ref2
open Go.RowKit Go.Proofs.YtccpoflhmooanaaDoorW.PrintWords Go.Proofs.YtccpoflhmooanaaDoorW.PrintLast Go.Proofs.YtccpoflhmooanaaDoorW.PrintMore Go.Proofs.YtccpoflhmooanaaDoor.Nums Go.Proofs.YtccpoflhmooanaaDoor.NumF Go.Proofs.YtccpoflhmooanaaDoor.Sets Go.Proofs.YtccpoflhmooanaaDoor.SetF Go.Proofs.YtccpoflhmooanaaDoor.Mem Go.Proofs.YtccpoflhmooanaaDoor.Kept Go.Proofs.YtccpoflhmooanaaDoor.Tz Go.Proofs.YtccpoflhmooanaaDoor.R Go.Proofs.YtccpoflhmooanaaDoor.Walks
set_option linter.unusedVariables false
set_option linter.unusedSimpArgs false
/-- Another pair's call leaves a pair as it is. -/
theorem Both.upd {F G D : Nat → Prop} {w w' : World} {b m : Nat} {ws : List Int} {A : Option Addr} {c : Nat} (h : Both F G w b m ws A c) (hu : Upd D w w') (hf : ∀ k, F k → ¬ D k) (hg : ∀ k, G k → ¬ D k) : Both F G w' b m ws A c :=
  ⟨h.s.upd hu hf, h.clean, h.t.upd hu hg, h.apart, fun k hk => Nat.lt_of_lt_of_le (h.f k hk) hu.size, fun k hk => Nat.lt_of_lt_of_le (h.g k hk) hu.size⟩
/-- A call that changes nothing. -/
def Kept0 (w : World) (A : Option Addr) (m c : Nat) (e : Ending) (w' : World) : Prop := e = .returned (.tuple #[.slice A m c, .bool true]) ∧ Upd No w w'
set_option maxHeartbeats 4000000 in
theorem refused1 {F G : Nat → Prop} {w : World} {b m : Nat} {ws : List Int} {A : Option Addr} {c : Nat} (h : Both F G w b m ws A c) (i : Int) (hi : ¬ (0 ≤ i ∧ i < (m : Int))) (v : Bool) :
    Calls Tryd.prog 20 #[.pointer (some ⟨b, 0, none⟩), .slice A m c, .agg #[.int .i64 1, .int .i64 i, .bool v]] w fun e w' => Kept0 w A m c e w' := by
  have HH := Lib.hid h
  have HI := Lib.hid hi
  clear h hi
  go_enter Tryd.func20, Tryd.ntmps20
  go_wp2_with (first
    | (go_at_call 30; refine (Put_out (HH.out.alloc _).s i HI.out v).mono ?_; rintro e w1 ⟨rfl, rfl⟩)
    | (go_at_call 38; refine (put_out_c i HI.out v _ _ _).mono ?_; rintro e w2 ⟨rfl, rfl⟩))
  go_ret2
  exact ⟨rfl, (Upd.refl No w).alloc _⟩
set_option maxHeartbeats 4000000 in
theorem refused2 {F G : Nat → Prop} {w : World} {b m : Nat} {ws : List Int} {A : Option Addr} {c : Nat} (h : Both F G w b m ws A c) (i : Int) (hi : ¬ (0 ≤ i ∧ i < (m : Int))) (v : Bool) :
    Calls Tryd.prog 20 #[.pointer (some ⟨b, 0, none⟩), .slice A m c, .agg #[.int .i64 2, .int .i64 i, .bool v]] w fun e w' => Kept0 w A m c e w' := by
  have HH := Lib.hid h
  have HI := Lib.hid hi
  clear h hi
  go_enter Tryd.func20, Tryd.ntmps20
  go_wp2_with (first
    | (go_at_call 19; refine (Flip_out (HH.out.alloc _).s i HI.out).mono ?_; rintro e w1 ⟨rfl, rfl⟩))
  go_region_with (first
    | (go_at_call 39; refine (get_c (bitN ws) i (TR.drewN (HH.out.alloc _).t _).C HH.out.t.2.1).mono ?_; rintro e w2 ⟨rfl, ⟨d2, rfl⟩⟩)
    | (go_at_call 38; refine (put_out_c i HI.out _ _ _ _).mono ?_; rintro e w3 ⟨rfl, rfl⟩))
  all_goals
    go_wp2
    go_ret2
    exact ⟨rfl, ((Upd.refl No w).alloc _).drewN _⟩
end Go.Proofs.YtccpoflhmooanaaDoor.Ref2
