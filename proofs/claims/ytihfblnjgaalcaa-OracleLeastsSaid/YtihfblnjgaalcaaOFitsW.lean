/- Fits, walked. -/
import Derived.Test.YtihfblnjgaalcaaOFits
namespace Go.Proofs.Ytihfblnjgaalcaa.OF
open Go Go.RowKit Go.Maps Go.Proofs.YtihfblnjgaalcaaW.PrintWords Go.Proofs.YtihfblnjgaalcaaW.PrintLast Go.Proofs.YtihfblnjgaalcaaW.PrintMore Go.Proofs.Ytihfblnjgaalcaa.R Go.Proofs.Ytihfblnjgaalcaa.OM Go.Proofs.Ytihfblnjgaalcaa.OP Go.Proofs.Ytihfblnjgaalcaa.OR Go.Proofs.Ytihfblnjgaalcaa.OS Go.Proofs.Ytihfblnjgaalcaa.OB
set_option linter.unusedVariables false
set_option linter.unusedSimpArgs false
abbrev cfgC (base limit order : Int) : Obj := .cells #[.int .u64 base, .int .i64 limit, .int .i64 order] 29 (0, 0)
def castL (l : List Nat) : List Int := l.map (fun x : Nat => (x : Int))
theorem castL_length (l : List Nat) : (castL l).length = l.length := by simp [castL]
theorem rd_cast (l : List Nat) (j : Nat) : rd (castL l) (j : Int) = ((l.getD j 0 : Nat) : Int) := by
 unfold rd castL
 rw [Int.toNat_natCast, List.getD_eq_getElem?_getD, List.getD_eq_getElem?_getD, List.getElem?_map]
 cases l[j]? <;> rfl
theorem shl_x (x j k : Nat) (hx : x ≤ 2251799813685248) (h : k ≤ j) (hj : j ≤ 8) : wrap64 ((x : Int) * 2 ^ (j - k)) = ((x * 2 ^ (j - k) : Nat) : Int) := by
 have h1 : x * 2 ^ (j - k) ≤ 2251799813685248 * 2 ^ 8 := Nat.mul_le_mul hx (Nat.pow_le_pow_right (by decide) (by omega))
 have e : (x : Int) * 2 ^ (j - k) = ((x * 2 ^ (j - k) : Nat) : Int) := by simp
 rw [e]
 generalize x * 2 ^ (j - k) = y at *
 unfold wrap64; omega
theorem pow_k {k : Nat} (h : k ≤ 8) : 0 < 2 ^ k ∧ 2 ^ k ≤ 1024 := ⟨Nat.pow_pos (by decide), Nat.le_trans (Nat.pow_le_pow_right (by decide) h) (by decide)⟩
theorem keep3 {W w' : World} (bc : Nat) {base limit order : Int} (hb : Below W.heap.size W w') (h0 : W.cell? ⟨bc, 0, none⟩ = some (.int .u64 base)) (h1 : W.cell? ⟨bc, 1, none⟩ = some (.int .i64 limit)) (h2 : W.cell? ⟨bc, 2, none⟩ = some (.int .i64 order)) :
  w'.cell? ⟨bc, 0, none⟩ = some (.int .u64 base) ∧ w'.cell? ⟨bc, 1, none⟩ = some (.int .i64 limit) ∧ w'.cell? ⟨bc, 2, none⟩ = some (.int .i64 order) :=
 ⟨(hb.cell (World.block_lt_of_cell? _ _ h0)).trans h0, (hb.cell (World.block_lt_of_cell? _ _ h1)).trans h1, (hb.cell (World.block_lt_of_cell? _ _ h2)).trans h2⟩
theorem fitK_true {m : PM} {T : Nat} {need : List Nat} {k kk : Nat} (h : fitK m T need k = true) (e : 2 ^ k = kk) : decide ((T : Int) / (kk : Int) - (occN m T kk : Int) < (takesAll need k : Int)) = false := by
 unfold fitK at h
 rw [e, Int.natCast_ediv] at h
 have h2 := of_decide_eq_true h
 exact decide_eq_false (by omega)
theorem fitK_false {m : PM} {T : Nat} {need : List Nat} {k kk : Nat} (h : fitK m T need k = false) (e : 2 ^ k = kk) : decide ((T : Int) / (kk : Int) - (occN m T kk : Int) < (takesAll need k : Int)) = true := by
 unfold fitK at h
 rw [e, Int.natCast_ediv] at h
 have h2 := of_decide_eq_false h
 exact decide_eq_true (by omega)
theorem sum_eq (x j k sum : Nat) (hx : x ≤ 2251799813685248) (h : k ≤ j) (hj : j ≤ 8) (hs : sum + x * 2 ^ (j - k) ≤ 2251799813685248 * 256 * 9) : wrap64 ((sum : Int) + wrap64 ((x : Int) * 2 ^ (j - k))) = ((sum + x * 2 ^ (j - k) : Nat) : Int) := by
 rw [shl_x x j k hx h hj]
 generalize x * 2 ^ (j - k) = y at *
 unfold wrap64; omega
theorem takes_all_bd {need : List Nat} (hB : ∀ j, need.getD j 0 ≤ 2251799813685248) (k : Nat) (hl : need.length ≤ 9) : takesAll need k ≤ 2251799813685248 * 256 * 9 := by
 unfold takesAll
 by_cases h : k ≤ need.length
 ·have h1 := takes_bd hB k (need.length - k) k (by omega)
  exact Nat.le_trans h1 (Nat.mul_le_mul_left _ (by omega))
 ·rw [show need.length - k = 0 from by omega]
  simp [takes]
set_option maxRecDepth 100000 in
set_option maxHeartbeats 4000000 in
theorem fits_calls (base limit order n : Int) (T : Nat) (mb s : Nat) (m : PM) (w : World) (hR : RepR w mb s m) (hdom : ∀ x, (m x).isSome = true → 0 ≤ x ∧ x < 1024) (h0 : 0 ≤ order) (h8 : order ≤ 8) (hT : n * 2 ^ order.toNat = (T : Int)) (hT2 : T ≤ 1024)
  (need : List Nat) (hlen : need.length ≤ 9) (hB : ∀ j, need.getD j 0 ≤ 2251799813685248) (A : Option Addr) (c : Nat) (hC : (Kd.int .i64).C w A need.length (castL need)) :
  Calls Try.prog 44 #[.agg #[.int .u64 base, .int .i64 limit, .int .i64 order], .int .i64 n, .map (some mb), .slice A need.length c] w fun e w' => e = .returned (.bool (fitsB m T need)) ∧ Below w.heap.size w w' := by
 have HR := Lib.hid hR
 have HD := Lib.hid hdom
 have HT := Lib.hid hT
 have HT2 := Lib.hid hT2
 have HBD := Lib.hid hB
 have HC := Lib.hid hC
 obtain ⟨len, hl⟩ : ∃ len, need.length = len := ⟨_, rfl⟩
 have HL := Lib.hid hl
 rw [hl] at hlen hC ⊢
 clear hR hdom hT hT2 hB hl hC
 go_enter Try.func44, Try.ntmps44
 go_wp2
 have HB1 := Lib.hid ((Below.refl w.heap.size w).alloc (Nat.le_refl _) (cfgC base limit order))
 have HX1 := Lib.hid (blk_new w (cfgC base limit order))
 go_loopg [14] len (fun g v wr => ∃ k : Nat, v = .int .i64 (k : Int) ∧ Aside0 (k + g = len) ∧ Aside0 (allFrom (fitK m T need) g k = fitsB m T need) ∧ Aside0 (Below w.heap.size w wr) ∧ Aside0 (wr.heap[w.heap.size]? = some (cfgC base limit order)))
 case atStart => exact ⟨0, rfl, ⟨Nat.zero_add _⟩, ⟨by rw [fitsB, HL.out]⟩, ⟨HB1.out⟩, ⟨HX1.out⟩⟩
 case round =>
  obtain ⟨k, rfl, hkg, hall, hbr, hbx⟩ := hrel
  by_cases hk : k < len
  ·have hkd : decide (k < len) = true := decide_eq_true hk
   obtain ⟨g1, rfl⟩ : ∃ g1, gk = g1 + 1 := ⟨gk - 1, by have := hkg.out; omega⟩
   have HK := Lib.hid hk
   have hk8 : k ≤ 8 := by omega
   clear hk HB1 HX1
   go_wp2
   go_loopg [10, 11] (len - k) (fun g v u wx => ∃ (j sum : Nat), v = .int .i64 (sum : Int) ∧ u = .int .i64 (j : Int) ∧ Aside0 (j + g = len) ∧ Aside0 (k ≤ j) ∧ Aside0 (sum + takes need k g j = takesAll need k) ∧ Aside0 (wx = wr))
   case atStart => exact ⟨k, 0, rfl, rfl, ⟨by have := HK.out; omega⟩, ⟨Nat.le_refl _⟩, ⟨by rw [Nat.zero_add, takesAll, HL.out]⟩, ⟨rfl⟩⟩
   case round =>
    obtain ⟨j, sum, rfl, rfl, hjg, hkj, hsum, hwx⟩ := hrel
    by_cases hj : j < len
    ·have hjd : decide (j < len) = true := decide_eq_true hj
     have ew := hwx.out
     clear hwx
     subst ew
     obtain ⟨g2, rfl⟩ : ∃ g2, gk = g2 + 1 := ⟨gk - 1, by have := hjg.out; omega⟩
     obtain ⟨ad, rfl, hx⟩ := Kd.at_int HC.out (j : Int) (by omega) (by rw [HL.out]; omega)
     replace hx := (hbr.out.cell (World.block_lt_of_cell? w _ hx)).trans hx
     rw [rd_cast, Int.toNat_natCast] at hx
     obtain ⟨x, hxx⟩ : ∃ x, need.getD j 0 = x := ⟨_, rfl⟩
     have HXX := Lib.hid hxx
     rw [hxx] at hx
     have hkj' := hkj.out
     have HJL := Lib.hid hj
     clear hxx
     go_wp2
     go_roundg g2
     case measure => omega
     case rel =>
      have hs := hsum.out
      rw [takes, HXX.out] at hs
      exact ⟨j + 1, sum + x * 2 ^ (j - k), congrArg (Value.int .i64) (sum_eq x j k sum (HXX.out ▸ HBD.out j) hkj.out (by have := HJL.out; omega) (by have h1 := takes_all_bd HBD.out k (by rw [HL.out]; exact hlen); omega)), congrArg (Value.int .i64) (show (j : Int) + 1 = ((j + 1 : Nat) : Int) from by omega), ⟨by have := hjg.out; omega⟩, ⟨Nat.le_succ_of_le hkj.out⟩, ⟨by omega⟩, ⟨rfl⟩⟩
    ·have hjd : decide (j < len) = false := decide_eq_false hj
     have ew := hwx.out
     clear hwx
     subst ew
     have HS := Lib.hid (show sum = takesAll need k from by
      have h1 := hsum.out
      rw [show gk = 0 from by have := hjg.out; omega] at h1
      simpa [takes] using h1)
     clear hj hsum hjg hkj
     have HK2 := Lib.hid (pow_k hk8)
     have hsh : wrap64 ((1 : Int) * 2 ^ k) = ((2 ^ k : Nat) : Int) := by have h := shl_x 1 k 0 (by omega) (by omega) hk8; simpa using h
     obtain ⟨kk, hkk⟩ : ∃ kk : Nat, 2 ^ k = kk := ⟨_, rfl⟩
     rw [hkk] at hsh
     have hsh2 : wrap64 ((2 : Int) ^ k) = (kk : Int) := by rw [← hsh, Int.one_mul]
     have HSH3 := Lib.hid (show IntKind.i64.wrap ((2 : Int) ^ k) = (kk : Int) from by rw [← hkk]; have h := (pow_k hk8).2; rw [show ((2 : Int) ^ k) = ((2 ^ k : Nat) : Int) from by simp]; exact i64_in' (by omega) (by omega))
     have HKK := Lib.hid hkk
     clear hkk
     go_upto_region 9 with fail
     have c0 : wr.cell? ⟨w.heap.size, 0, none⟩ = some (.int .u64 base) := blk_cell hbx.out 0
     have c1 : wr.cell? ⟨w.heap.size, 1, none⟩ = some (.int .i64 limit) := blk_cell hbx.out 1
     have c2 : wr.cell? ⟨w.heap.size, 2, none⟩ = some (.int .i64 order) := blk_cell hbx.out 2
     have HP := Lib.hid (fun X (hX : Below w.heap.size w X) => stretches_calls base limit order n T kk mb s m X (RepR.below HR.out hX) HD.out h0 h8 HT.out HT2.out (HKK.out ▸ HK2.out.1) (HKK.out ▸ HK2.out.2))
     by_cases hf : fitK m T need k = true
     ·have hte : decide ((T : Int) / (kk : Int) - (occN m T kk : Int) < (sum : Int)) = false := by rw [HS.out]; exact fitK_true hf HKK.out
      have HF := Lib.hid hf
      clear hf
      go_region_held3 (fun w' => w'.cell? ⟨w.heap.size, 0, none⟩ = some (.int .u64 base) ∧ w'.cell? ⟨w.heap.size, 1, none⟩ = some (.int .i64 limit) ∧ w'.cell? ⟨w.heap.size, 2, none⟩ = some (.int .i64 order)) (go_keep)
       (first | (go_at_call 47; rw [HSH3.out]; refine (HP.out _ (by repeat (first | exact hbr.out | apply below_drew1 | apply below_alloc | apply pw_below_drewN))).mono ?_; rintro e w7 ⟨rfl, hb7⟩; obtain ⟨k0, k1, k2⟩ := keep3 (base := base) (limit := limit) (order := order) w.heap.size hb7 (by go_keep) (by go_keep) (by go_keep); have HB7 := Lib.hid hb7; clear hb7))
      go_wp2
      go_roundg g1
      case measure => omega
      case rel =>
       refine ⟨k + 1, congrArg (Value.int .i64) (show (k : Int) + 1 = ((k + 1 : Nat) : Int) from by omega), ⟨by have := hkg.out; omega⟩, ⟨?_⟩, ⟨(below_drew1 hbr.out).trans (HB7.out.mono hbr.out.size)⟩, ⟨(HB7.out.block _ (blk_lt hbx.out)).trans hbx.out⟩⟩
       rw [← hall.out, allFrom, HF.out, Bool.true_and]
     ·have hte : decide ((T : Int) / (kk : Int) - (occN m T kk : Int) < (sum : Int)) = true := by rw [HS.out]; exact fitK_false (by simpa using hf) HKK.out
      have HF := Lib.hid hf
      clear hf
      go_region_held3 (fun w' => w'.cell? ⟨w.heap.size, 0, none⟩ = some (.int .u64 base) ∧ w'.cell? ⟨w.heap.size, 1, none⟩ = some (.int .i64 limit) ∧ w'.cell? ⟨w.heap.size, 2, none⟩ = some (.int .i64 order)) (go_keep)
       (first | (go_at_call 47; rw [HSH3.out]; refine (HP.out _ (by repeat (first | exact hbr.out | apply below_drew1 | apply below_alloc | apply pw_below_drewN))).mono ?_; rintro e w7 ⟨rfl, hb7⟩; obtain ⟨k0, k1, k2⟩ := keep3 (base := base) (limit := limit) (order := order) w.heap.size hb7 (by go_keep) (by go_keep) (by go_keep); have HB7 := Lib.hid hb7; clear hb7))
      go_wp2
      go_ret
      refine ⟨?_, (below_drew1 hbr.out).trans (HB7.out.mono hbr.out.size)⟩
      rw [← hall.out, allFrom, show fitK m T need k = false from by simpa using HF.out, Bool.false_and]
      rfl
  ·have hkd : decide (k < len) = false := decide_eq_false hk
   have HK := Lib.hid hk
   clear hk
   go_wp2
   go_ret
   refine ⟨?_, hbr.out⟩
   rw [← hall.out, show gk = 0 from by have := HK.out; have := hkg.out; omega]
   rfl
end Go.Proofs.Ytihfblnjgaalcaa.OF
