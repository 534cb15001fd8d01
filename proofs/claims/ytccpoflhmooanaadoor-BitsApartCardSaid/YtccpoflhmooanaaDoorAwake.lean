/- The first question of most laws: some answers that the document tells. -/
import Derived.Test.YtccpoflhmooanaaDoorSet
namespace Go.Proofs.YtccpoflhmooanaaDoor.Sets
open Go.RowKit Go.Proofs.YtccpoflhmooanaaDoorW.PrintWords Go.Proofs.YtccpoflhmooanaaDoorW.PrintLast Go.Proofs.YtccpoflhmooanaaDoorW.PrintMore Go.Proofs.YtccpoflhmooanaaDoor.Mem
set_option linter.unusedVariables false
set_option linter.unusedSimpArgs false

theorem lit_row (w : World) (x : Int) : (Kd.int .u64).C (w.alloc (.cells #[.int .u64 x] 24)) (some ⟨w.heap.size, 0, none⟩) ([x] : List Int).length [x] := by
  refine Kd.C_of_reads (enc := Value.int .u64) (d := (0 : Int)) ⟨rfl, by simp, fun _ => ⟨_, rfl, fun j hj => ?_⟩⟩
  obtain rfl : j = 0 := by simpa using hj
  exact blk_cell (blk_new w (.cells #[.int .u64 x] 24)) 0
theorem wd_five : Wd [5] := fun i => by
  match i with
  | 0 => decide
  | i + 1 => simp
theorem ceil5 : ∃ k, Go.Proofs.YtccpoflhmooanaaDoor.R.bits_Ceil_uint8.f k 5 = some (8, true) := ⟨0, by decide +kernel⟩
theorem awake_calls (w : World) : Calls Tryd.prog 8 #[] w fun e w' => e = .returned (.bool true) ∧ Below w.heap.size w w' := by
  obtain ⟨k0, hc⟩ := ceil5
  have HC := Lib.hid hc
  clear hc
  have h70 : fitN 70 = 70 := by decide
  have h3 : fitN 3 = 3 := by decide
  have hb2 : bitI (ofW [5] 3) 2 = true := by decide
  have hl1 : (ofW [5] 3).length = 1 := by decide
  have H70 := Lib.hid h70
  have H3 := Lib.hid h3
  have HB2 := Lib.hid hb2
  have HL1 := Lib.hid hl1
  clear h70 h3 hb2 hl1
  go_enter Tryd.func8, Tryd.ntmps8
  go_wp2_with (first
    | (go_at_call 22; refine (Go.Proofs.YtccpoflhmooanaaDoor.R.bits_Ceil_uint8.calls k0 5 8 true _ HC.out).mono ?_; rintro e w1 ⟨rfl, ⟨n1, rfl⟩⟩)
    | (go_at_call 10; refine (NewSet_calls _ 70).mono ?_; rintro e w2 ⟨b1, rfl, hs1, hu1⟩; rw [H70.out] at hs1)
    | (go_at_call 9; refine (Of_calls (l := [5]) 3 (lit_row _ 5) wd_five).mono ?_; rintro e w3 ⟨b2, rfl, hs2, hu2⟩; rw [H3.out] at hs2; have hu12 := ((Upd.refl No w2).alloc (.cells #[.int .u64 5] 24)).trans hu2 (fun _ h _ => h); have hs1' := hs1.upd hu12 (fun _ _ h => h))
    | (go_at_call 15; refine (Len_calls hs1').mono ?_; rintro e w4 ⟨rfl, rfl⟩)
    | (go_at_call 18; refine (Get_in hs2 2 (by omega) (by omega)).mono ?_; rintro e w4 ⟨rfl, rfl⟩; rw [HB2.out])
    | (go_at_call 13; refine (Words_calls hs2).mono ?_; rintro e w4 ⟨v, rfl, hr, hu3⟩; obtain ⟨A4, c4, rfl, -, -⟩ := Kd.R_reads hr; rw [HL1.out]))
  go_ret
  refine ⟨rfl, ?_⟩
  have u1 : Upd No w (w.drewN n1) := (Upd.refl _ _).drewN n1
  have u2 := (u1.trans hu1 (fun _ h _ => h)).trans hu12 (fun _ h _ => h)
  exact (u2.trans (Upd.of_below (F := No) hu3) (fun _ h _ => h)).fresh
end Go.Proofs.YtccpoflhmooanaaDoor.Sets
