import Derived.Test.YtihfblnjgaalcaaRT1
namespace Go.Proofs.Ytihfblnjgaalcaa.R
open Go.RowKit Go.Proofs.YtihfblnjgaalcaaW.PrintWords Go.Proofs.YtihfblnjgaalcaaW.PrintLast Go.Proofs.YtihfblnjgaalcaaW.PrintMore
attribute [local go_sem] max2_int min2_int max_two min_two max_three min_three max_four min_four
set_option linter.unusedVariables false
set_option linter.unusedSimpArgs false

/-! ### croftlaw11_OracleTurns: function 5 -/
def croftlaw11_OracleTurns.l0 : Nat → List Int → List (S55) → Int → Int → Bool → List Int → Int → Int → Int → Int → Option (Bool)
  | 0, _, _, _, _, _, _, _, _, _, _ => none
  | k + 1, x1, x6, x7, x9, x10, x11, x12, x182000, x182001, x182002 => if x12 ≥ 0 then (if 0 ≤ x12 then (if x12 < (x1.length : Int) then (if x11.length < 17592186044416 then (croftlaw11_OracleTurns.l0 k x1 x6 x7 x9 x10 (x11 ++ [rd x1 x12]) (wrap64 (x12 - 1)) x182000 x182001 x182002) else (none)) else (none)) else (none)) else (if 0 ≤ x7 then (if x7 ≤ (x6.length : Int) then ((oracle_Least.f x182000 x182001 x182002 (x6.take (x7 : Int).toNat) x11).bind fun bt216 => (if x9 = bt216.1 then (some (x10 == bt216.2)) else (some false))) else (none)) else (none))
def croftlaw11_OracleTurns.f (k : Nat) (a0_0 : Int) (a0_1 : Int) (a0_2 : Int) (a0_3 : Int) (l0_4 : List (S49)) (a0_5 : Int) (a0_6 : Bool) (l1 : List Int) : Option (Bool) := (croftlaw11_awake.f k).bind fun t168 => (if t168 = true then ((croftlaw11_blocks.f k l0_4).bind fun t169 => ((croftlaw11_turned.f k l0_4).bind fun t172 => ((croftlaw11_blocks.f k t172).bind fun t175 => ((croftlaw11_config.f a0_0 a0_1 a0_2).bind fun bt178 => (if 0 ≤ (l0_4.length : Int) then (if (l0_4.length : Int) ≤ (t169.length : Int) then ((oracle_Sound.f bt178.1 bt178.2.1 bt178.2.2 a0_3 (t169.take ((l0_4.length : Int) : Int).toNat)).bind fun t186 => (if (l0_4.length : Int) ≤ (t175.length : Int) then ((oracle_Sound.f bt178.1 bt178.2.1 bt178.2.2 a0_3 (t175.take ((l0_4.length : Int) : Int).toNat)).bind fun t191 => (if ((t186 == (-1)) != (t191 == (-1))) = true then (some false) else ((oracle_NoFit.f bt178.1 bt178.2.1 bt178.2.2 a0_3 (t169.take ((l0_4.length : Int) : Int).toNat) a0_5).bind fun t196 => ((oracle_NoFit.f bt178.1 bt178.2.1 bt178.2.2 a0_3 (t175.take ((l0_4.length : Int) : Int).toNat) a0_5).bind fun t201 => (if (t196 != t201) = true then (some false) else ((oracle_Least.f bt178.1 bt178.2.1 bt178.2.2 (t169.take ((l0_4.length : Int) : Int).toNat) l1).bind fun bt206 => (croftlaw11_OracleTurns.l0 k l1 t175 (l0_4.length : Int) bt206.1 bt206.2 ([] : List Int) (wrap64 ((l1.length : Int) - 1)) bt178.1 bt178.2.1 bt178.2.2))))))) else (none))) else (none)) else (none)))))) else (some false))
theorem croftlaw11_OracleTurns.mono_l : ∀ k, (∀ y0 y1 y2 y3 y4 y5 y6 y7 y8 y9, LeO (croftlaw11_OracleTurns.l0 k y0 y1 y2 y3 y4 y5 y6 y7 y8 y9) (croftlaw11_OracleTurns.l0 (k + 1) y0 y1 y2 y3 y4 y5 y6 y7 y8 y9))
  | 0 => fun _ _ _ _ _ _ _ _ _ _ r h => by simp [croftlaw11_OracleTurns.l0] at h
  | k + 1 => by
    have ih0 := croftlaw11_OracleTurns.mono_l k
    · intro y0 y1 y2 y3 y4 y5 y6 y7 y8 y9
      unfold croftlaw11_OracleTurns.l0
      repeat' first
      | (with_reducible exact ih0 _ _ _ _ _ _ _ _ _ _)
      | (with_reducible exact croftlaw11_awake.mono _)
      | (with_reducible exact croftlaw11_blocks.mono _ _)
      | (with_reducible exact croftlaw11_turned.mono _ _)
      | (with_reducible exact LeO.refl _)
      | (with_reducible exact LeO.none _)
      | (with_reducible refine LeO.ite ?_ ?_)
      | (with_reducible refine LeO.bind ?_ (fun _ => ?_))
      | exact ih0 _ _ _ _ _ _ _ _ _ _
      | exact croftlaw11_awake.mono _
      | exact croftlaw11_blocks.mono _ _
      | exact croftlaw11_turned.mono _ _
      | exact LeO.none _
      | refine LeO.ite ?_ ?_
      | refine LeO.bind ?_ (fun _ => ?_)
theorem croftlaw11_OracleTurns.mono : ∀ a0 a1 a2 a3 a4 a5 a6 a7 k, LeO (croftlaw11_OracleTurns.f k a0 a1 a2 a3 a4 a5 a6 a7) (croftlaw11_OracleTurns.f (k + 1) a0 a1 a2 a3 a4 a5 a6 a7) := by
  intro a0 a1 a2 a3 a4 a5 a6 a7 k
  have ih0 := croftlaw11_OracleTurns.mono_l k
  unfold croftlaw11_OracleTurns.f
  repeat' first
      | (with_reducible exact ih0 _ _ _ _ _ _ _ _ _ _)
      | (with_reducible exact croftlaw11_awake.mono _)
      | (with_reducible exact croftlaw11_blocks.mono _ _)
      | (with_reducible exact croftlaw11_turned.mono _ _)
      | (with_reducible exact LeO.refl _)
      | (with_reducible exact LeO.none _)
      | (with_reducible refine LeO.ite ?_ ?_)
      | (with_reducible refine LeO.bind ?_ (fun _ => ?_))
      | exact ih0 _ _ _ _ _ _ _ _ _ _
      | exact croftlaw11_awake.mono _
      | exact croftlaw11_blocks.mono _ _
      | exact croftlaw11_turned.mono _ _
      | exact LeO.none _
      | refine LeO.ite ?_ ?_
      | refine LeO.bind ?_ (fun _ => ?_)
def croftlaw11_OracleTurns.T7 : Bool × List (List Nat × List Nat) := (true, [([], []), ([], []), ([1], [1]), ([], []), ([], []), ([3, 4], [3, 4]), ([0, 2, 5], [0, 2, 5]), ([6], [6]), ([], []), ([], []), ([9], [9]), ([], []), ([], []), ([11, 12], [11, 12]), ([8, 10, 13, 6], [8, 10, 13]), ([14], [14]), ([7, 15], [7, 15])])
def croftlaw11_OracleTurns.B7 : List Nat := [0, 0, 2, 0, 0, 24, 63, 127, 0, 0, 512, 0, 0, 6144, 16255, 32639, 65535]
theorem croftlaw11_OracleTurns.tab7 : rtab .any (opsOf Try.f5 7) = croftlaw11_OracleTurns.T7 := by kernel_rfl
theorem croftlaw11_OracleTurns.bits7 : waitsOk croftlaw11_OracleTurns.T7.2 croftlaw11_OracleTurns.B7 = true := by kernel_rfl
def croftlaw11_OracleTurns.T9 : Bool × List (List Nat × List Nat) := (true, [([], []), ([], []), ([1], [1]), ([], []), ([], []), ([3, 4], [3, 4]), ([], []), ([6], [6]), ([0, 2, 5, 7], [0, 2, 5, 7]), ([], []), ([], []), ([10], [10]), ([], []), ([], []), ([12, 13], [12, 13]), ([], []), ([15], [15]), ([9, 11, 14, 16, 8], [9, 11, 14, 16]), ([8, 17], [8, 17])])
def croftlaw11_OracleTurns.B9 : List Nat := [0, 0, 2, 0, 0, 24, 0, 64, 255, 0, 0, 1024, 0, 0, 12288, 0, 32768, 131071, 262143]
theorem croftlaw11_OracleTurns.tab9 : rtab .any (opsOf Try.f5 9) = croftlaw11_OracleTurns.T9 := by kernel_rfl
theorem croftlaw11_OracleTurns.bits9 : waitsOk croftlaw11_OracleTurns.T9.2 croftlaw11_OracleTurns.B9 = true := by kernel_rfl
def croftlaw11_OracleTurns.T11 : Bool × List (List Nat × List Nat) := (true, [([], []), ([], []), ([], []), ([1, 2], [1, 2]), ([], []), ([0, 3, 4], [0, 3, 4]), ([5], [5]), ([6], [6]), ([6], [6]), ([7, 5, 0, 1, 2, 3, 4, 5, 6, 7], [7]), ([8, 9, 0, 1, 2, 3, 4, 5, 6, 7, 8, 9], [8])])
def croftlaw11_OracleTurns.B11 : List Nat := [0, 0, 0, 6, 0, 31, 63, 127, 127, 255, 1023]
theorem croftlaw11_OracleTurns.tab11 : rtab .any (opsOf Try.f5 11) = croftlaw11_OracleTurns.T11 := by kernel_rfl
theorem croftlaw11_OracleTurns.bits11 : waitsOk croftlaw11_OracleTurns.T11.2 croftlaw11_OracleTurns.B11 = true := by kernel_rfl
def croftlaw11_OracleTurns.T17 : Bool × List (List Nat × List Nat) := (true, [([], []), ([], []), ([], []), ([1, 2], [1, 2]), ([], []), ([0, 3, 4], [0, 3, 4]), ([5], [5]), ([6], [6]), ([6], [6]), ([7, 5, 0, 1, 2, 3, 4, 5, 6, 7], [7]), ([8, 9, 0, 1, 2, 3, 4, 5, 6, 7, 8, 9], [8])])
def croftlaw11_OracleTurns.B17 : List Nat := [0, 0, 0, 6, 0, 31, 63, 127, 127, 255, 1023]
theorem croftlaw11_OracleTurns.tab17 : rtab .any (opsOf Try.f5 17) = croftlaw11_OracleTurns.T17 := by kernel_rfl
theorem croftlaw11_OracleTurns.bits17 : waitsOk croftlaw11_OracleTurns.T17.2 croftlaw11_OracleTurns.B17 = true := by kernel_rfl
set_option maxHeartbeats 8000000 in
set_option maxRecDepth 100000 in
theorem croftlaw11_OracleTurns.calls (k : Nat) (a0_0 : Int) (a0_1 : Int) (a0_2 : Int) (a0_3 : Int) (A0_4 : Option Addr) (c0_4 : Nat) (l0_4 : List (S49)) (a0_5 : Int) (a0_6 : Bool) (A1 : Option Addr) (c1 : Nat) (l1 : List Int) (r : Bool) (w : World) (hr0_4 : Kd.C k49 w A0_4 l0_4.length l0_4) (hc0_4 : l0_4.length ≤ c0_4) (hr1 : Kd.C (Kd.int .u64) w A1 l1.length l1) (hc1 : l1.length ≤ c1) (h : croftlaw11_OracleTurns.f k a0_0 a0_1 a0_2 a0_3 l0_4 a0_5 a0_6 l1 = some r) :
    Calls Try.prog 5 #[.agg #[.int .u64 a0_0, .int .i64 a0_1, .int .i64 a0_2, .int .i64 a0_3, .slice A0_4 l0_4.length c0_4, .int .u64 a0_5, .bool a0_6], .slice A1 l1.length c1] w fun e w' => e = .returned (.bool r) ∧ Below w.heap.size w w' := by
  have hu44 := Try.underlying44
  have hu24 := Try.underlying24
  have hu29 := Try.underlying29
  have HR0_4 := Aside0.mk hr0_4
  have HC0_4 := Aside0.mk hc0_4
  clear hr0_4 hc0_4
  have HR1 := Aside0.mk hr1
  have HC1 := Aside0.mk hc1
  clear hr1 hc1
  have HB := Aside0.mk (Below.refl w.heap.size w)
  have H : ((croftlaw11_awake.f k).bind fun t168 => (if t168 = true then ((croftlaw11_blocks.f k l0_4).bind fun t169 => ((croftlaw11_turned.f k l0_4).bind fun t172 => ((croftlaw11_blocks.f k t172).bind fun t175 => ((croftlaw11_config.f a0_0 a0_1 a0_2).bind fun bt178 => (if 0 ≤ (l0_4.length : Int) then (if (l0_4.length : Int) ≤ (t169.length : Int) then ((oracle_Sound.f bt178.1 bt178.2.1 bt178.2.2 a0_3 (t169.take ((l0_4.length : Int) : Int).toNat)).bind fun t186 => (if (l0_4.length : Int) ≤ (t175.length : Int) then ((oracle_Sound.f bt178.1 bt178.2.1 bt178.2.2 a0_3 (t175.take ((l0_4.length : Int) : Int).toNat)).bind fun t191 => (if ((t186 == (-1)) != (t191 == (-1))) = true then (some false) else ((oracle_NoFit.f bt178.1 bt178.2.1 bt178.2.2 a0_3 (t169.take ((l0_4.length : Int) : Int).toNat) a0_5).bind fun t196 => ((oracle_NoFit.f bt178.1 bt178.2.1 bt178.2.2 a0_3 (t175.take ((l0_4.length : Int) : Int).toNat) a0_5).bind fun t201 => (if (t196 != t201) = true then (some false) else ((oracle_Least.f bt178.1 bt178.2.1 bt178.2.2 (t169.take ((l0_4.length : Int) : Int).toNat) l1).bind fun bt206 => (croftlaw11_OracleTurns.l0 k l1 t175 (l0_4.length : Int) bt206.1 bt206.2 ([] : List Int) (wrap64 ((l1.length : Int) - 1)) bt178.1 bt178.2.1 bt178.2.2))))))) else (none))) else (none)) else (none)))))) else (some false))) = some r := h
  clear h
  replace H := Option.bind_eq_some_iff.mp H
  obtain ⟨t168, A30, H⟩ := H
  replace H : (if t168 = true then ((croftlaw11_blocks.f k l0_4).bind fun t169 => ((croftlaw11_turned.f k l0_4).bind fun t172 => ((croftlaw11_blocks.f k t172).bind fun t175 => ((croftlaw11_config.f a0_0 a0_1 a0_2).bind fun bt178 => (if 0 ≤ (l0_4.length : Int) then (if (l0_4.length : Int) ≤ (t169.length : Int) then ((oracle_Sound.f bt178.1 bt178.2.1 bt178.2.2 a0_3 (t169.take ((l0_4.length : Int) : Int).toNat)).bind fun t186 => (if (l0_4.length : Int) ≤ (t175.length : Int) then ((oracle_Sound.f bt178.1 bt178.2.1 bt178.2.2 a0_3 (t175.take ((l0_4.length : Int) : Int).toNat)).bind fun t191 => (if ((t186 == (-1)) != (t191 == (-1))) = true then (some false) else ((oracle_NoFit.f bt178.1 bt178.2.1 bt178.2.2 a0_3 (t169.take ((l0_4.length : Int) : Int).toNat) a0_5).bind fun t196 => ((oracle_NoFit.f bt178.1 bt178.2.1 bt178.2.2 a0_3 (t175.take ((l0_4.length : Int) : Int).toNat) a0_5).bind fun t201 => (if (t196 != t201) = true then (some false) else ((oracle_Least.f bt178.1 bt178.2.1 bt178.2.2 (t169.take ((l0_4.length : Int) : Int).toNat) l1).bind fun bt206 => (croftlaw11_OracleTurns.l0 k l1 t175 (l0_4.length : Int) bt206.1 bt206.2 ([] : List Int) (wrap64 ((l1.length : Int) - 1)) bt178.1 bt178.2.1 bt178.2.2))))))) else (none))) else (none)) else (none)))))) else (some false)) = some r := H
  have A3 := Aside0.mk A30
  clear A30
  by_cases c4 : t168 = true
  · subst c4
    have H1 : ((croftlaw11_blocks.f k l0_4).bind fun t169 => ((croftlaw11_turned.f k l0_4).bind fun t172 => ((croftlaw11_blocks.f k t172).bind fun t175 => ((croftlaw11_config.f a0_0 a0_1 a0_2).bind fun bt178 => (if 0 ≤ (l0_4.length : Int) then (if (l0_4.length : Int) ≤ (t169.length : Int) then ((oracle_Sound.f bt178.1 bt178.2.1 bt178.2.2 a0_3 (t169.take ((l0_4.length : Int) : Int).toNat)).bind fun t186 => (if (l0_4.length : Int) ≤ (t175.length : Int) then ((oracle_Sound.f bt178.1 bt178.2.1 bt178.2.2 a0_3 (t175.take ((l0_4.length : Int) : Int).toNat)).bind fun t191 => (if ((t186 == (-1)) != (t191 == (-1))) = true then (some false) else ((oracle_NoFit.f bt178.1 bt178.2.1 bt178.2.2 a0_3 (t169.take ((l0_4.length : Int) : Int).toNat) a0_5).bind fun t196 => ((oracle_NoFit.f bt178.1 bt178.2.1 bt178.2.2 a0_3 (t175.take ((l0_4.length : Int) : Int).toNat) a0_5).bind fun t201 => (if (t196 != t201) = true then (some false) else ((oracle_Least.f bt178.1 bt178.2.1 bt178.2.2 (t169.take ((l0_4.length : Int) : Int).toNat) l1).bind fun bt206 => (croftlaw11_OracleTurns.l0 k l1 t175 (l0_4.length : Int) bt206.1 bt206.2 ([] : List Int) (wrap64 ((l1.length : Int) - 1)) bt178.1 bt178.2.1 bt178.2.2))))))) else (none))) else (none)) else (none)))))) = some r := by rw [if_pos rfl] at H; exact H
    clear H
    have H := H1
    clear H1
    replace H := Option.bind_eq_some_iff.mp H
    obtain ⟨t169, A50, H⟩ := H
    replace H : ((croftlaw11_turned.f k l0_4).bind fun t172 => ((croftlaw11_blocks.f k t172).bind fun t175 => ((croftlaw11_config.f a0_0 a0_1 a0_2).bind fun bt178 => (if 0 ≤ (l0_4.length : Int) then (if (l0_4.length : Int) ≤ (t169.length : Int) then ((oracle_Sound.f bt178.1 bt178.2.1 bt178.2.2 a0_3 (t169.take ((l0_4.length : Int) : Int).toNat)).bind fun t186 => (if (l0_4.length : Int) ≤ (t175.length : Int) then ((oracle_Sound.f bt178.1 bt178.2.1 bt178.2.2 a0_3 (t175.take ((l0_4.length : Int) : Int).toNat)).bind fun t191 => (if ((t186 == (-1)) != (t191 == (-1))) = true then (some false) else ((oracle_NoFit.f bt178.1 bt178.2.1 bt178.2.2 a0_3 (t169.take ((l0_4.length : Int) : Int).toNat) a0_5).bind fun t196 => ((oracle_NoFit.f bt178.1 bt178.2.1 bt178.2.2 a0_3 (t175.take ((l0_4.length : Int) : Int).toNat) a0_5).bind fun t201 => (if (t196 != t201) = true then (some false) else ((oracle_Least.f bt178.1 bt178.2.1 bt178.2.2 (t169.take ((l0_4.length : Int) : Int).toNat) l1).bind fun bt206 => (croftlaw11_OracleTurns.l0 k l1 t175 (l0_4.length : Int) bt206.1 bt206.2 ([] : List Int) (wrap64 ((l1.length : Int) - 1)) bt178.1 bt178.2.1 bt178.2.2))))))) else (none))) else (none)) else (none))))) = some r := H
    have A5 := Aside0.mk A50
    clear A50
    replace H := Option.bind_eq_some_iff.mp H
    obtain ⟨t172, A60, H⟩ := H
    replace H : ((croftlaw11_blocks.f k t172).bind fun t175 => ((croftlaw11_config.f a0_0 a0_1 a0_2).bind fun bt178 => (if 0 ≤ (l0_4.length : Int) then (if (l0_4.length : Int) ≤ (t169.length : Int) then ((oracle_Sound.f bt178.1 bt178.2.1 bt178.2.2 a0_3 (t169.take ((l0_4.length : Int) : Int).toNat)).bind fun t186 => (if (l0_4.length : Int) ≤ (t175.length : Int) then ((oracle_Sound.f bt178.1 bt178.2.1 bt178.2.2 a0_3 (t175.take ((l0_4.length : Int) : Int).toNat)).bind fun t191 => (if ((t186 == (-1)) != (t191 == (-1))) = true then (some false) else ((oracle_NoFit.f bt178.1 bt178.2.1 bt178.2.2 a0_3 (t169.take ((l0_4.length : Int) : Int).toNat) a0_5).bind fun t196 => ((oracle_NoFit.f bt178.1 bt178.2.1 bt178.2.2 a0_3 (t175.take ((l0_4.length : Int) : Int).toNat) a0_5).bind fun t201 => (if (t196 != t201) = true then (some false) else ((oracle_Least.f bt178.1 bt178.2.1 bt178.2.2 (t169.take ((l0_4.length : Int) : Int).toNat) l1).bind fun bt206 => (croftlaw11_OracleTurns.l0 k l1 t175 (l0_4.length : Int) bt206.1 bt206.2 ([] : List Int) (wrap64 ((l1.length : Int) - 1)) bt178.1 bt178.2.1 bt178.2.2))))))) else (none))) else (none)) else (none)))) = some r := H
    have A6 := Aside0.mk A60
    clear A60
    replace H := Option.bind_eq_some_iff.mp H
    obtain ⟨t175, A70, H⟩ := H
    replace H : ((croftlaw11_config.f a0_0 a0_1 a0_2).bind fun bt178 => (if 0 ≤ (l0_4.length : Int) then (if (l0_4.length : Int) ≤ (t169.length : Int) then ((oracle_Sound.f bt178.1 bt178.2.1 bt178.2.2 a0_3 (t169.take ((l0_4.length : Int) : Int).toNat)).bind fun t186 => (if (l0_4.length : Int) ≤ (t175.length : Int) then ((oracle_Sound.f bt178.1 bt178.2.1 bt178.2.2 a0_3 (t175.take ((l0_4.length : Int) : Int).toNat)).bind fun t191 => (if ((t186 == (-1)) != (t191 == (-1))) = true then (some false) else ((oracle_NoFit.f bt178.1 bt178.2.1 bt178.2.2 a0_3 (t169.take ((l0_4.length : Int) : Int).toNat) a0_5).bind fun t196 => ((oracle_NoFit.f bt178.1 bt178.2.1 bt178.2.2 a0_3 (t175.take ((l0_4.length : Int) : Int).toNat) a0_5).bind fun t201 => (if (t196 != t201) = true then (some false) else ((oracle_Least.f bt178.1 bt178.2.1 bt178.2.2 (t169.take ((l0_4.length : Int) : Int).toNat) l1).bind fun bt206 => (croftlaw11_OracleTurns.l0 k l1 t175 (l0_4.length : Int) bt206.1 bt206.2 ([] : List Int) (wrap64 ((l1.length : Int) - 1)) bt178.1 bt178.2.1 bt178.2.2))))))) else (none))) else (none)) else (none))) = some r := H
    have A7 := Aside0.mk A70
    clear A70
    replace H := Option.bind_eq_some_iff.mp H
    obtain ⟨⟨t178, t179, t180⟩, A80, H⟩ := H
    replace H : (if 0 ≤ (l0_4.length : Int) then (if (l0_4.length : Int) ≤ (t169.length : Int) then ((oracle_Sound.f t178 t179 t180 a0_3 (t169.take ((l0_4.length : Int) : Int).toNat)).bind fun t186 => (if (l0_4.length : Int) ≤ (t175.length : Int) then ((oracle_Sound.f t178 t179 t180 a0_3 (t175.take ((l0_4.length : Int) : Int).toNat)).bind fun t191 => (if ((t186 == (-1)) != (t191 == (-1))) = true then (some false) else ((oracle_NoFit.f t178 t179 t180 a0_3 (t169.take ((l0_4.length : Int) : Int).toNat) a0_5).bind fun t196 => ((oracle_NoFit.f t178 t179 t180 a0_3 (t175.take ((l0_4.length : Int) : Int).toNat) a0_5).bind fun t201 => (if (t196 != t201) = true then (some false) else ((oracle_Least.f t178 t179 t180 (t169.take ((l0_4.length : Int) : Int).toNat) l1).bind fun bt206 => (croftlaw11_OracleTurns.l0 k l1 t175 (l0_4.length : Int) bt206.1 bt206.2 ([] : List Int) (wrap64 ((l1.length : Int) - 1)) t178 t179 t180))))))) else (none))) else (none)) else (none)) = some r := H
    have A8 := Aside0.mk A80
    clear A80
    by_cases c9 : 0 ≤ (l0_4.length : Int)
    · rw [if_pos c9] at H
      have c9b0 := eq_true c9
      have c9b1 : decide (0 ≤ (l0_4.length : Int)) = true := decide_eq_true c9
      clear c9
      by_cases c10 : (l0_4.length : Int) ≤ (t169.length : Int)
      · rw [if_pos c10] at H
        have c10b0 := eq_true c10
        have c10b1 : decide ((l0_4.length : Int) ≤ (t169.length : Int)) = true := decide_eq_true c10
        clear c10
        obtain ⟨y182, hy182⟩ : ∃ y_ : List (S55), y_ = (t169.take ((l0_4.length : Int) : Int).toNat) := ⟨_, rfl⟩
        replace H : ((oracle_Sound.f t178 t179 t180 a0_3 y182).bind fun t186 => (if (l0_4.length : Int) ≤ (t175.length : Int) then ((oracle_Sound.f t178 t179 t180 a0_3 (t175.take ((l0_4.length : Int) : Int).toNat)).bind fun t191 => (if ((t186 == (-1)) != (t191 == (-1))) = true then (some false) else ((oracle_NoFit.f t178 t179 t180 a0_3 (t169.take ((l0_4.length : Int) : Int).toNat) a0_5).bind fun t196 => ((oracle_NoFit.f t178 t179 t180 a0_3 (t175.take ((l0_4.length : Int) : Int).toNat) a0_5).bind fun t201 => (if (t196 != t201) = true then (some false) else ((oracle_Least.f t178 t179 t180 (t169.take ((l0_4.length : Int) : Int).toNat) l1).bind fun bt206 => (croftlaw11_OracleTurns.l0 k l1 t175 (l0_4.length : Int) bt206.1 bt206.2 ([] : List Int) (wrap64 ((l1.length : Int) - 1)) t178 t179 t180))))))) else (none))) = some r := by first | (rw [hy182]; with_reducible exact H) | (have H2_ := (Option.bind_some _ _).symm.trans H; rw [hy182]; with_reducible exact H2_) | (have H2_ := (Option.bind_some _ _).symm.trans H; with_reducible exact H2_) | with_reducible exact H | (rw [hy182]; exact H) | exact H
        have Ny182 := Aside0.mk hy182
        clear hy182
        replace H := Option.bind_eq_some_iff.mp H
        obtain ⟨t186, A110, H⟩ := H
        replace H : (if (l0_4.length : Int) ≤ (t175.length : Int) then ((oracle_Sound.f t178 t179 t180 a0_3 (t175.take ((l0_4.length : Int) : Int).toNat)).bind fun t191 => (if ((t186 == (-1)) != (t191 == (-1))) = true then (some false) else ((oracle_NoFit.f t178 t179 t180 a0_3 (t169.take ((l0_4.length : Int) : Int).toNat) a0_5).bind fun t196 => ((oracle_NoFit.f t178 t179 t180 a0_3 (t175.take ((l0_4.length : Int) : Int).toNat) a0_5).bind fun t201 => (if (t196 != t201) = true then (some false) else ((oracle_Least.f t178 t179 t180 (t169.take ((l0_4.length : Int) : Int).toNat) l1).bind fun bt206 => (croftlaw11_OracleTurns.l0 k l1 t175 (l0_4.length : Int) bt206.1 bt206.2 ([] : List Int) (wrap64 ((l1.length : Int) - 1)) t178 t179 t180))))))) else (none)) = some r := H
        have A11 := Aside0.mk A110
        clear A110
        have c12b0 := eq_true (of_decide_eq_true (by first | (with_reducible assumption) | assumption) : 0 ≤ (l0_4.length : Int))
        by_cases c13 : (l0_4.length : Int) ≤ (t175.length : Int)
        · rw [if_pos c13] at H
          have c13b0 := eq_true c13
          have c13b1 : decide ((l0_4.length : Int) ≤ (t175.length : Int)) = true := decide_eq_true c13
          clear c13
          obtain ⟨y187, hy187⟩ : ∃ y_ : List (S55), y_ = (t175.take ((l0_4.length : Int) : Int).toNat) := ⟨_, rfl⟩
          replace H : ((oracle_Sound.f t178 t179 t180 a0_3 y187).bind fun t191 => (if ((t186 == (-1)) != (t191 == (-1))) = true then (some false) else ((oracle_NoFit.f t178 t179 t180 a0_3 (t169.take ((l0_4.length : Int) : Int).toNat) a0_5).bind fun t196 => ((oracle_NoFit.f t178 t179 t180 a0_3 (t175.take ((l0_4.length : Int) : Int).toNat) a0_5).bind fun t201 => (if (t196 != t201) = true then (some false) else ((oracle_Least.f t178 t179 t180 (t169.take ((l0_4.length : Int) : Int).toNat) l1).bind fun bt206 => (croftlaw11_OracleTurns.l0 k l1 t175 (l0_4.length : Int) bt206.1 bt206.2 ([] : List Int) (wrap64 ((l1.length : Int) - 1)) t178 t179 t180))))))) = some r := by first | (rw [hy187]; with_reducible exact H) | (have H2_ := (Option.bind_some _ _).symm.trans H; rw [hy187]; with_reducible exact H2_) | (have H2_ := (Option.bind_some _ _).symm.trans H; with_reducible exact H2_) | with_reducible exact H | (rw [hy187]; exact H) | exact H
          have Ny187 := Aside0.mk hy187
          clear hy187
          replace H := Option.bind_eq_some_iff.mp H
          obtain ⟨t191, A140, H⟩ := H
          replace H : (if ((t186 == (-1)) != (t191 == (-1))) = true then (some false) else ((oracle_NoFit.f t178 t179 t180 a0_3 (t169.take ((l0_4.length : Int) : Int).toNat) a0_5).bind fun t196 => ((oracle_NoFit.f t178 t179 t180 a0_3 (t175.take ((l0_4.length : Int) : Int).toNat) a0_5).bind fun t201 => (if (t196 != t201) = true then (some false) else ((oracle_Least.f t178 t179 t180 (t169.take ((l0_4.length : Int) : Int).toNat) l1).bind fun bt206 => (croftlaw11_OracleTurns.l0 k l1 t175 (l0_4.length : Int) bt206.1 bt206.2 ([] : List Int) (wrap64 ((l1.length : Int) - 1)) t178 t179 t180)))))) = some r := H
          have A14 := Aside0.mk A140
          clear A140
          by_cases c15 : ((t186 == (-1)) != (t191 == (-1))) = true
          · rw [if_pos c15] at H
            have c15b0 : ((t186 == (-1)) != (t191 == (-1))) = true := c15
            (try (have c15b1 : decide ((t186 == (-1)) = (t191 == (-1))) = false := by simpa using c15))
            (try (have c15b2 : ((t186 == (-1)) == (t191 == (-1))) = false := by simpa using c15))
            (try (have c15b3 : ¬ ((t186 == (-1)) = (t191 == (-1))) := by simpa using c15))
            clear c15
            obtain rfl := Option.some.inj H
            go_enter Try.func5, Try.ntmps5
            try go_wp2_with (first | ((with_reducible refine gate_dst (N := 2) rfl ?_); refine box_event ?hg (N := 2) ?hd (cs := #[.int .u64 a0_0, .int .i64 a0_1, .int .i64 a0_2, .int .i64 a0_3, .slice A0_4 l0_4.length c0_4, .int .u64 a0_5, .bool a0_6]) (t := 44) ?hr ?_; (case hd => rfl); (case hg => rfl); (case hr => first | (go_simp; done) | (go_simp; rfl)); intro gb167 hg w16 hbox hb; have n0_ := Aside0.mk (below_step (by repeat (first | (with_reducible first | exact HB.out | apply below_alloc | apply pw_below_drewN | apply below_drew1) | exact HB.out)) hb); have n1_ := Aside0.mk (hbox); have n2_ := Aside0.mk ((by rw [hg]; exact (below_size (by repeat (first | (with_reducible first | exact HB.out | apply below_alloc | apply pw_below_drewN | apply below_drew1) | exact HB.out))) : w.heap.size ≤ gb167)); have n3_ := Aside0.mk ((by rw [hg]; exact (below_size (by repeat (first | (with_reducible first | exact HB.out | apply below_alloc | apply pw_below_drewN | apply below_drew1) | exact HB.out))) : w.heap.size ≤ gb167)); clear HB; have HB := n0_; have BK167 := n1_; have GW167 := n2_; have GE167 := n3_; clear n0_ n1_ n2_ n3_; clear hb hbox hg) | ((with_reducible refine gate_callee (f := 18) rfl ?_); refine goesL_ (some 15) rfl rfl Try.func18 (by kernel_rfl) rfl #[] rfl (by (try simp only [List.map_toArray, List.map_cons, List.map_nil]); first | done | rfl | (simp only [List.length_drop, List.length_take]; rfl)) ?_; (with_reducible refine (croftlaw11_awake.calls k  true _ A3.out).mono ?_); rintro e w17 ⟨rfl, hb⟩; refine ⟨_, rfl, ?_⟩; have n0_ := Aside0.mk (blk_below (g := gb167) (o := .cells #[.int .u64 a0_0, .int .i64 a0_1, .int .i64 a0_2, .int .i64 a0_3, .slice A0_4 l0_4.length c0_4, .int .u64 a0_5, .bool a0_6] 44 (0, 0)) (by (with_reducible repeat (first | refine blk_drewN ?_ _ | refine blk_drew ?_ | refine blk_alloc ?_ _)); exact BK167.out) hb); have n1_ := Aside0.mk (below_step (by repeat (first | (with_reducible first | exact HB.out | apply below_alloc | apply pw_below_drewN | apply below_drew1 | refine below_set ?_ GE167.out) | exact HB.out)) hb); clear BK167; clear HB; have BK167 := n0_; have HB := n1_; clear n0_ n1_; (try clear hb); (try clear hb2); (try clear hk); (try clear hi); have hcz18_0 : w17.cell? ⟨gb167, 0, none⟩ = some (.int .u64 a0_0) := (blk_cell BK167.out 0).trans rfl; have hcz18_1 : w17.cell? ⟨gb167, 1, none⟩ = some (.int .i64 a0_1) := (blk_cell BK167.out 1).trans rfl; have hcz18_2 : w17.cell? ⟨gb167, 2, none⟩ = some (.int .i64 a0_2) := (blk_cell BK167.out 2).trans rfl; have hcz18_3 : w17.cell? ⟨gb167, 3, none⟩ = some (.int .i64 a0_3) := (blk_cell BK167.out 3).trans rfl; have hcz18_4 : w17.cell? ⟨gb167, 4, none⟩ = some (.slice A0_4 l0_4.length c0_4) := (blk_cell BK167.out 4).trans rfl; have hcz18_5 : w17.cell? ⟨gb167, 5, none⟩ = some (.int .u64 a0_5) := (blk_cell BK167.out 5).trans rfl; have hcz18_6 : w17.cell? ⟨gb167, 6, none⟩ = some (.bool a0_6) := (blk_cell BK167.out 6).trans rfl; have hfz18_0 := blk_frozen BK167.out 0; have hfz18_1 := blk_frozen BK167.out 1; have hfz18_2 := blk_frozen BK167.out 2; have hfz18_3 := blk_frozen BK167.out 3; have hfz18_4 := blk_frozen BK167.out 4; have hfz18_5 := blk_frozen BK167.out 5; have hfz18_6 := blk_frozen BK167.out 6) | ((with_reducible refine gate_callee (f := 13) rfl ?_); refine goesL_ (some 19) rfl rfl Try.func13 (by kernel_rfl) rfl #[.slice A0_4 l0_4.length c0_4] rfl (by (try simp only [List.map_toArray, List.map_cons, List.map_nil]); first | done | rfl | (simp only [List.length_drop, List.length_take]; rfl)) ?_; (with_reducible refine (croftlaw11_blocks.calls k _ _ l0_4 t169 _ ?side1 ?side2 A5.out).mono ?_); (case side1 => repeat (first | exact (Kd.C_below HR0_4.out HB.out) | (with_reducible refine Kd.C_alloc ?_ _) | (with_reducible refine Kd.C_drewN ?_ _) | (with_reducible refine Kd.C_drew ?_))); (case side2 => exact HC0_4.out); rintro e w19 ⟨v170, rfl, ho0, hb⟩; refine ⟨_, rfl, ?_⟩; have n0_ := Aside0.mk (Kd.R_lower ho0 (below_size (by repeat (first | (with_reducible first | exact HB.out | apply below_alloc | apply pw_below_drewN | apply below_drew1 | refine below_set ?_ GE167.out) | exact HB.out)))); have n1_ := Aside0.mk (blk_below (g := gb167) (o := .cells #[.int .u64 a0_0, .int .i64 a0_1, .int .i64 a0_2, .int .i64 a0_3, .slice A0_4 l0_4.length c0_4, .int .u64 a0_5, .bool a0_6] 44 (0, 0)) (by (with_reducible repeat (first | refine blk_drewN ?_ _ | refine blk_drew ?_ | refine blk_alloc ?_ _)); exact BK167.out) hb); have n2_ := Aside0.mk (below_step (by repeat (first | (with_reducible first | exact HB.out | apply below_alloc | apply pw_below_drewN | apply below_drew1 | refine below_set ?_ GE167.out) | exact HB.out)) hb); clear BK167; clear HB; have HO171 := n0_; have BK167 := n1_; have HB := n2_; clear n0_ n1_ n2_; (try clear hb); (try clear hb2); (try clear hk); (try clear hi); (try clear ho0); have hcz20_0 : w19.cell? ⟨gb167, 0, none⟩ = some (.int .u64 a0_0) := (blk_cell BK167.out 0).trans rfl; have hcz20_1 : w19.cell? ⟨gb167, 1, none⟩ = some (.int .i64 a0_1) := (blk_cell BK167.out 1).trans rfl; have hcz20_2 : w19.cell? ⟨gb167, 2, none⟩ = some (.int .i64 a0_2) := (blk_cell BK167.out 2).trans rfl; have hcz20_3 : w19.cell? ⟨gb167, 3, none⟩ = some (.int .i64 a0_3) := (blk_cell BK167.out 3).trans rfl; have hcz20_4 : w19.cell? ⟨gb167, 4, none⟩ = some (.slice A0_4 l0_4.length c0_4) := (blk_cell BK167.out 4).trans rfl; have hcz20_5 : w19.cell? ⟨gb167, 5, none⟩ = some (.int .u64 a0_5) := (blk_cell BK167.out 5).trans rfl; have hcz20_6 : w19.cell? ⟨gb167, 6, none⟩ = some (.bool a0_6) := (blk_cell BK167.out 6).trans rfl; have hfz20_0 := blk_frozen BK167.out 0; have hfz20_1 := blk_frozen BK167.out 1; have hfz20_2 := blk_frozen BK167.out 2; have hfz20_3 := blk_frozen BK167.out 3; have hfz20_4 := blk_frozen BK167.out 4; have hfz20_5 := blk_frozen BK167.out 5; have hfz20_6 := blk_frozen BK167.out 6) | ((with_reducible refine gate_callee (f := 22) rfl ?_); refine goesL_ (some 22) rfl rfl Try.func22 (by kernel_rfl) rfl #[.slice A0_4 l0_4.length c0_4] rfl (by (try simp only [List.map_toArray, List.map_cons, List.map_nil]); first | done | rfl | (simp only [List.length_drop, List.length_take]; rfl)) ?_; (with_reducible refine (croftlaw11_turned.calls k _ _ l0_4 t172 _ ?side1 ?side2 A6.out).mono ?_); (case side1 => repeat (first | exact (Kd.C_below HR0_4.out HB.out) | (with_reducible refine Kd.C_alloc ?_ _) | (with_reducible refine Kd.C_drewN ?_ _) | (with_reducible refine Kd.C_drew ?_))); (case side2 => exact HC0_4.out); rintro e w21 ⟨v173, rfl, ho0, hb⟩; refine ⟨_, rfl, ?_⟩; have n0_ := Aside0.mk (Kd.R_below (by (with_reducible repeat (first | apply Kd.R_alloc | apply Kd.R_drewN | apply Kd.R_drew)); exact HO171.out) hb); have n1_ := Aside0.mk (Kd.R_lower ho0 (below_size (by repeat (first | (with_reducible first | exact HB.out | apply below_alloc | apply pw_below_drewN | apply below_drew1 | refine below_set ?_ GE167.out) | exact HB.out)))); have n2_ := Aside0.mk (blk_below (g := gb167) (o := .cells #[.int .u64 a0_0, .int .i64 a0_1, .int .i64 a0_2, .int .i64 a0_3, .slice A0_4 l0_4.length c0_4, .int .u64 a0_5, .bool a0_6] 44 (0, 0)) (by (with_reducible repeat (first | refine blk_drewN ?_ _ | refine blk_drew ?_ | refine blk_alloc ?_ _)); exact BK167.out) hb); have n3_ := Aside0.mk (below_step (by repeat (first | (with_reducible first | exact HB.out | apply below_alloc | apply pw_below_drewN | apply below_drew1 | refine below_set ?_ GE167.out) | exact HB.out)) hb); clear HO171; clear BK167; clear HB; have HO171 := n0_; have HO174 := n1_; have BK167 := n2_; have HB := n3_; clear n0_ n1_ n2_ n3_; (try clear hb); (try clear hb2); (try clear hk); (try clear hi); (try clear ho0); obtain ⟨Ao22, co22, eo22⟩ := Kd.R_slice HO174.out; subst eo22) | ((with_reducible refine gate_callee (f := 13) rfl ?_); refine goesL_ (some 23) rfl rfl Try.func13 (by kernel_rfl) rfl #[.slice Ao22 t172.length co22] rfl (by (try simp only [List.map_toArray, List.map_cons, List.map_nil]); first | done | rfl | (simp only [List.length_drop, List.length_take]; rfl)) ?_; (with_reducible refine (croftlaw11_blocks.calls k _ _ t172 t175 _ ?side1 ?side2 A7.out).mono ?_); (case side1 => repeat (first | exact (Kd.R_reads' HO174.out).2.2 | (with_reducible refine Kd.C_alloc ?_ _) | (with_reducible refine Kd.C_drewN ?_ _) | (with_reducible refine Kd.C_drew ?_))); (case side2 => exact (Kd.R_reads' HO174.out).2.1); rintro e w23 ⟨v176, rfl, ho0, hb⟩; refine ⟨_, rfl, ?_⟩; have n0_ := Aside0.mk (Kd.R_elder' (by (with_reducible repeat (first | apply Kd.R_alloc | apply Kd.R_drewN | apply Kd.R_drew)); exact HO171.out) (Kd.R_base ho0) hb); have n1_ := Aside0.mk (Kd.R_below (by (with_reducible repeat (first | apply Kd.R_alloc | apply Kd.R_drewN | apply Kd.R_drew)); exact HO174.out) hb); have n2_ := Aside0.mk (Kd.R_lower (Kd.R_new' ho0 (Kd.R_lt (by (with_reducible repeat (first | apply Kd.R_alloc | apply Kd.R_drewN | apply Kd.R_drew)); exact HO171.out))) (below_size (by repeat (first | (with_reducible first | exact HB.out | apply below_alloc | apply pw_below_drewN | apply below_drew1 | refine below_set ?_ GE167.out) | exact HB.out)))); have n3_ := Aside0.mk (blk_below (g := gb167) (o := .cells #[.int .u64 a0_0, .int .i64 a0_1, .int .i64 a0_2, .int .i64 a0_3, .slice A0_4 l0_4.length c0_4, .int .u64 a0_5, .bool a0_6] 44 (0, 0)) (by (with_reducible repeat (first | refine blk_drewN ?_ _ | refine blk_drew ?_ | refine blk_alloc ?_ _)); exact BK167.out) hb); have n4_ := Aside0.mk (below_step (by repeat (first | (with_reducible first | exact HB.out | apply below_alloc | apply pw_below_drewN | apply below_drew1 | refine below_set ?_ GE167.out) | exact HB.out)) hb); clear HO171; clear HO174; clear BK167; clear HB; have HO171 := n0_; have HO174 := n1_; have HO177 := n2_; have BK167 := n3_; have HB := n4_; clear n0_ n1_ n2_ n3_ n4_; (try clear hb); (try clear hb2); (try clear hk); (try clear hi); (try clear ho0); have hcz24_0 : w23.cell? ⟨gb167, 0, none⟩ = some (.int .u64 a0_0) := (blk_cell BK167.out 0).trans rfl; have hcz24_1 : w23.cell? ⟨gb167, 1, none⟩ = some (.int .i64 a0_1) := (blk_cell BK167.out 1).trans rfl; have hcz24_2 : w23.cell? ⟨gb167, 2, none⟩ = some (.int .i64 a0_2) := (blk_cell BK167.out 2).trans rfl; have hcz24_3 : w23.cell? ⟨gb167, 3, none⟩ = some (.int .i64 a0_3) := (blk_cell BK167.out 3).trans rfl; have hcz24_4 : w23.cell? ⟨gb167, 4, none⟩ = some (.slice A0_4 l0_4.length c0_4) := (blk_cell BK167.out 4).trans rfl; have hcz24_5 : w23.cell? ⟨gb167, 5, none⟩ = some (.int .u64 a0_5) := (blk_cell BK167.out 5).trans rfl; have hcz24_6 : w23.cell? ⟨gb167, 6, none⟩ = some (.bool a0_6) := (blk_cell BK167.out 6).trans rfl; have hfz24_0 := blk_frozen BK167.out 0; have hfz24_1 := blk_frozen BK167.out 1; have hfz24_2 := blk_frozen BK167.out 2; have hfz24_3 := blk_frozen BK167.out 3; have hfz24_4 := blk_frozen BK167.out 4; have hfz24_5 := blk_frozen BK167.out 5; have hfz24_6 := blk_frozen BK167.out 6) | ((with_reducible refine gate_callee (f := 15) rfl ?_); refine goesL_ (some 29) rfl rfl Try.func15 (by kernel_rfl) rfl #[.agg #[.int .u64 a0_0, .int .i64 a0_1, .int .i64 a0_2]] rfl (by (try simp only [List.map_toArray, List.map_cons, List.map_nil]); first | done | rfl | (simp only [List.length_drop, List.length_take]; rfl)) ?_; (with_reducible refine (croftlaw11_config.calls a0_0 a0_1 a0_2 t178 t179 t180 _ A8.out).mono ?_); rintro e w25 ⟨rfl, hb⟩; refine ⟨_, rfl, ?_⟩; have n0_ := Aside0.mk (Kd.R_below (by (with_reducible repeat (first | apply Kd.R_alloc | apply Kd.R_drewN | apply Kd.R_drew)); exact HO171.out) hb); have n1_ := Aside0.mk (Kd.R_below (by (with_reducible repeat (first | apply Kd.R_alloc | apply Kd.R_drewN | apply Kd.R_drew)); exact HO174.out) hb); have n2_ := Aside0.mk (Kd.R_below (by (with_reducible repeat (first | apply Kd.R_alloc | apply Kd.R_drewN | apply Kd.R_drew)); exact HO177.out) hb); have n3_ := Aside0.mk (blk_below (g := gb167) (o := .cells #[.int .u64 a0_0, .int .i64 a0_1, .int .i64 a0_2, .int .i64 a0_3, .slice A0_4 l0_4.length c0_4, .int .u64 a0_5, .bool a0_6] 44 (0, 0)) (by (with_reducible repeat (first | refine blk_drewN ?_ _ | refine blk_drew ?_ | refine blk_alloc ?_ _)); exact BK167.out) hb); have n4_ := Aside0.mk (below_step (by repeat (first | (with_reducible first | exact HB.out | apply below_alloc | apply pw_below_drewN | apply below_drew1 | refine below_set ?_ GE167.out) | exact HB.out)) hb); clear HO171; clear HO174; clear HO177; clear BK167; clear HB; have HO171 := n0_; have HO174 := n1_; have HO177 := n2_; have BK167 := n3_; have HB := n4_; clear n0_ n1_ n2_ n3_ n4_; (try clear hb); (try clear hb2); (try clear hk); (try clear hi)) | ((with_reducible refine gate_dst (N := 8) rfl ?_); refine box_event ?hg (N := 8) ?hd (cs := #[.int .u64 0, .int .i64 0, .int .i64 0]) (t := 29) ?hr ?_; (case hd => rfl); (case hg => rfl); (case hr => first | (go_simp; done) | (go_simp; rfl)); intro gb181 hg w26 hbox hb; have n0_ := Aside0.mk (Kd.R_below (by (with_reducible repeat (first | apply Kd.R_alloc | apply Kd.R_drewN | apply Kd.R_drew)); exact HO171.out) hb); have n1_ := Aside0.mk (Kd.R_below (by (with_reducible repeat (first | apply Kd.R_alloc | apply Kd.R_drewN | apply Kd.R_drew)); exact HO174.out) hb); have n2_ := Aside0.mk (Kd.R_below (by (with_reducible repeat (first | apply Kd.R_alloc | apply Kd.R_drewN | apply Kd.R_drew)); exact HO177.out) hb); have n3_ := Aside0.mk (blk_below (g := gb167) (o := .cells #[.int .u64 a0_0, .int .i64 a0_1, .int .i64 a0_2, .int .i64 a0_3, .slice A0_4 l0_4.length c0_4, .int .u64 a0_5, .bool a0_6] 44 (0, 0)) (by (with_reducible repeat (first | refine blk_drewN ?_ _ | refine blk_drew ?_ | refine blk_alloc ?_ _)); exact BK167.out) hb); have n4_ := Aside0.mk (below_step (by repeat (first | (with_reducible first | exact HB.out | apply below_alloc | apply pw_below_drewN | apply below_drew1 | refine below_set ?_ GE167.out) | exact HB.out)) hb); have n5_ := Aside0.mk (hbox); have n6_ := Aside0.mk ((by rw [hg]; exact (below_size (by repeat (first | (with_reducible first | exact HB.out | apply below_alloc | apply pw_below_drewN | apply below_drew1 | refine below_set ?_ GE167.out) | exact HB.out))) : w.heap.size ≤ gb181)); have n7_ := Aside0.mk ((by rw [hg]; exact (below_size (by repeat (first | (with_reducible first | exact HB.out | apply below_alloc | apply pw_below_drewN | apply below_drew1 | refine below_set ?_ GE167.out) | exact HB.out))) : w.heap.size ≤ gb181)); have n8_ := Aside0.mk ((by rw [hg]; exact Nat.ne_of_lt (blk_lt (g := gb167) (o := .cells #[.int .u64 a0_0, .int .i64 a0_1, .int .i64 a0_2, .int .i64 a0_3, .slice A0_4 l0_4.length c0_4, .int .u64 a0_5, .bool a0_6] 44 (0, 0)) (by (with_reducible repeat (first | refine blk_drewN ?_ _ | refine blk_drew ?_ | refine blk_alloc ?_ _)); exact BK167.out)) : gb167 ≠ gb181)); have n9_ := Aside0.mk ((by rw [hg]; exact Nat.ne_of_gt (blk_lt (g := gb167) (o := .cells #[.int .u64 a0_0, .int .i64 a0_1, .int .i64 a0_2, .int .i64 a0_3, .slice A0_4 l0_4.length c0_4, .int .u64 a0_5, .bool a0_6] 44 (0, 0)) (by (with_reducible repeat (first | refine blk_drewN ?_ _ | refine blk_drew ?_ | refine blk_alloc ?_ _)); exact BK167.out)) : gb181 ≠ gb167)); clear HO171; clear HO174; clear HO177; clear BK167; clear HB; have HO171 := n0_; have HO174 := n1_; have HO177 := n2_; have BK167 := n3_; have HB := n4_; have BK181 := n5_; have GW181 := n6_; have GE181 := n7_; have NB167_181 := n8_; have NB181_167 := n9_; clear n0_ n1_ n2_ n3_ n4_ n5_ n6_ n7_ n8_ n9_; clear hb hbox hg; have hnb27 := NB181_167.out; have hnc27 := NB167_181.out; have hcz28_0 : w26.cell? ⟨gb181, 0, none⟩ = some (.int .u64 0) := (blk_cell BK181.out 0).trans rfl; have hcz28_1 : w26.cell? ⟨gb181, 1, none⟩ = some (.int .i64 0) := (blk_cell BK181.out 1).trans rfl; have hcz28_2 : w26.cell? ⟨gb181, 2, none⟩ = some (.int .i64 0) := (blk_cell BK181.out 2).trans rfl; have hfz28_0 := blk_frozen BK181.out 0; have hfz28_1 := blk_frozen BK181.out 1; have hfz28_2 := blk_frozen BK181.out 2))
            have n0_ : Aside0 (Kd.R k55 55 (((w26.setCell ⟨gb181, 0, none⟩ (.int .u64 t178)).setCell ⟨gb181, 1, none⟩ (.int .i64 t179)).setCell ⟨gb181, 2, none⟩ (.int .i64 t180)) w.heap.size (fun k_ => some k_ ≠ (v176 : Value).ownBlock) v170 t169) := ⟨by (with_reducible repeat (first | apply Kd.R_alloc | apply Kd.R_drewN | apply Kd.R_drew)); exact Kd.R_mono (Kd.R_far (p := ⟨gb181, 2, none⟩) (Kd.R_far (p := ⟨gb181, 1, none⟩) (Kd.R_far (p := ⟨gb181, 0, none⟩) (Kd.R_types HO171.out BK181.out (by decide)) (fun _ hk => hk.2) (.int .u64 t178)) (fun _ hk => hk.2) (.int .i64 t179)) (fun _ hk => hk.2) (.int .i64 t180)) (fun _ hk => hk.1.2)⟩
            have n1_ : Aside0 (Kd.R k49 49 (((w26.setCell ⟨gb181, 0, none⟩ (.int .u64 t178)).setCell ⟨gb181, 1, none⟩ (.int .i64 t179)).setCell ⟨gb181, 2, none⟩ (.int .i64 t180)) w.heap.size (fun _ => True) (.slice Ao22 t172.length co22) t172) := ⟨by (with_reducible repeat (first | apply Kd.R_alloc | apply Kd.R_drewN | apply Kd.R_drew)); exact Kd.R_mono (Kd.R_far (p := ⟨gb181, 2, none⟩) (Kd.R_far (p := ⟨gb181, 1, none⟩) (Kd.R_far (p := ⟨gb181, 0, none⟩) (Kd.R_types HO174.out BK181.out (by decide)) (fun _ hk => hk.2) (.int .u64 t178)) (fun _ hk => hk.2) (.int .i64 t179)) (fun _ hk => hk.2) (.int .i64 t180)) (fun _ hk => trivial)⟩
            have n2_ : Aside0 (Kd.R k55 55 (((w26.setCell ⟨gb181, 0, none⟩ (.int .u64 t178)).setCell ⟨gb181, 1, none⟩ (.int .i64 t179)).setCell ⟨gb181, 2, none⟩ (.int .i64 t180)) w.heap.size (fun k_ => some k_ ≠ (v170 : Value).ownBlock) v176 t175) := ⟨by (with_reducible repeat (first | apply Kd.R_alloc | apply Kd.R_drewN | apply Kd.R_drew)); exact Kd.R_mono (Kd.R_far (p := ⟨gb181, 2, none⟩) (Kd.R_far (p := ⟨gb181, 1, none⟩) (Kd.R_far (p := ⟨gb181, 0, none⟩) (Kd.R_types HO177.out BK181.out (by decide)) (fun _ hk => hk.2) (.int .u64 t178)) (fun _ hk => hk.2) (.int .i64 t179)) (fun _ hk => hk.2) (.int .i64 t180)) (fun _ hk => hk.1.2)⟩
            have n3_ : Aside0 ((((w26.setCell ⟨gb181, 0, none⟩ (.int .u64 t178)).setCell ⟨gb181, 1, none⟩ (.int .i64 t179)).setCell ⟨gb181, 2, none⟩ (.int .i64 t180)).heap[gb167]? = some (.cells #[.int .u64 a0_0, .int .i64 a0_1, .int .i64 a0_2, .int .i64 a0_3, .slice A0_4 l0_4.length c0_4, .int .u64 a0_5, .bool a0_6] 44 (0, 0))) := ⟨by (with_reducible repeat (first | refine blk_drewN ?_ _ | refine blk_drew ?_ | refine blk_alloc ?_ _)); refine blk_far ?_ NB167_181.out _; (with_reducible repeat (first | refine blk_drewN ?_ _ | refine blk_drew ?_ | refine blk_alloc ?_ _)); refine blk_far ?_ NB167_181.out _; (with_reducible repeat (first | refine blk_drewN ?_ _ | refine blk_drew ?_ | refine blk_alloc ?_ _)); refine blk_far ?_ NB167_181.out _; (with_reducible repeat (first | refine blk_drewN ?_ _ | refine blk_drew ?_ | refine blk_alloc ?_ _)); exact BK167.out⟩
            have n4_ : Aside0 ((((w26.setCell ⟨gb181, 0, none⟩ (.int .u64 t178)).setCell ⟨gb181, 1, none⟩ (.int .i64 t179)).setCell ⟨gb181, 2, none⟩ (.int .i64 t180)).heap[gb181]? = some (.cells #[.int .u64 t178, .int .i64 t179, .int .i64 t180] 29 (0, 0))) := ⟨by (with_reducible repeat (first | refine blk_drewN ?_ _ | refine blk_drew ?_ | refine blk_alloc ?_ _)); refine blk_put (cs := #[.int .u64 t178, .int .i64 t179, .int .i64 0]) ?_ 2 _ rfl; (with_reducible repeat (first | refine blk_drewN ?_ _ | refine blk_drew ?_ | refine blk_alloc ?_ _)); refine blk_put (cs := #[.int .u64 t178, .int .i64 0, .int .i64 0]) ?_ 1 _ rfl; (with_reducible repeat (first | refine blk_drewN ?_ _ | refine blk_drew ?_ | refine blk_alloc ?_ _)); refine blk_put (cs := #[.int .u64 0, .int .i64 0, .int .i64 0]) ?_ 0 _ rfl; (with_reducible repeat (first | refine blk_drewN ?_ _ | refine blk_drew ?_ | refine blk_alloc ?_ _)); exact BK181.out⟩
            have n5_ : Aside0 (Below w.heap.size w (((w26.setCell ⟨gb181, 0, none⟩ (.int .u64 t178)).setCell ⟨gb181, 1, none⟩ (.int .i64 t179)).setCell ⟨gb181, 2, none⟩ (.int .i64 t180))) := ⟨by repeat (first | (with_reducible first | exact HB.out | apply below_alloc | apply pw_below_drewN | apply below_drew1 | refine below_set ?_ GE167.out | refine below_set ?_ GE181.out) | exact HB.out)⟩
            (try clear HO171)
            (try clear HO174)
            (try clear HO177)
            (try clear BK167)
            (try clear BK181)
            (try clear HB)
            generalize (((w26.setCell ⟨gb181, 0, none⟩ (.int .u64 t178)).setCell ⟨gb181, 1, none⟩ (.int .i64 t179)).setCell ⟨gb181, 2, none⟩ (.int .i64 t180)) = w29 at n0_ n1_ n2_ n3_ n4_ n5_ ⊢
            have HO171 := n0_
            have HO174 := n1_
            have HO177 := n2_
            have BK167 := n3_
            have BK181 := n4_
            have HB := n5_
            clear n0_ n1_ n2_ n3_ n4_ n5_
            have n0_ := Aside0.mk (Kd.R_drew HO171.out)
            have n1_ := Aside0.mk (Kd.R_drew HO174.out)
            have n2_ := Aside0.mk (Kd.R_drew HO177.out)
            have n3_ := Aside0.mk (blk_drew BK167.out)
            have n4_ := Aside0.mk (blk_drew BK181.out)
            have n5_ := Aside0.mk (below_drew1 HB.out)
            clear HO171
            clear HO174
            clear HO177
            clear BK167
            clear BK181
            clear HB
            have HO171 := n0_
            have HO174 := n1_
            have HO177 := n2_
            have BK167 := n3_
            have BK181 := n4_
            have HB := n5_
            clear n0_ n1_ n2_ n3_ n4_ n5_
            obtain ⟨Ao32, co32, eo32⟩ := Kd.R_slice HO171.out
            (first | subst eo32 | (injection eo32 with f1_ f2_ f3_; have f4_ := f1_.symm; have f5_ := f3_.symm; clear f1_ f2_ f3_; subst f4_; subst f5_))
            have q31 : ((l0_4.length : Int) : Int) ≤ ((t169.length : Int) : Int) := of_decide_eq_true (by first | (with_reducible assumption) | assumption)
            obtain ⟨i031, hi031, _, hsz31, _⟩ := info_parts info55
            have hroom31 : t169.length ≤ co32 := (Kd.R_reads' HO171.out).2.1
            have hC31 : Kd.C k55 _ Ao32 t169.length t169 := (Kd.R_reads' HO171.out).2.2
            have hcut31 := cut_to (P := Try.prog) 26 55 .i64 Try.underlying26 hi031 Ao32 t169.length co32 (l0_4.length : Int) (of_decide_eq_true (by first | (with_reducible assumption) | assumption)) q31 hroom31
            have hr31 := Kd.C_take (m := ((l0_4.length : Int) : Int).toNat) hC31 (by omega)
            have hy31 : y182.length = ((l0_4.length : Int) : Int).toNat := (by rw [Ny182.out, List.length_take]; omega)
            rw [← Ny182.out] at hr31
            rw [← hy31] at hcut31
            have HR185 := Aside0.mk hr31
            have HC185 := Aside0.mk (show y182.length ≤ co32 from by omega)
            clear hr31 hC31 hroom31 hi031 hsz31
            have KY31 := Aside0.mk hy31
            clear hy31
            have KL31 := Aside0.mk (show ((l0_4.length : Int) : Int).toNat ≤ t169.length from by omega)
            replace q31 := eq_true q31
            obtain ⟨Ao34, co34, eo34⟩ := Kd.R_slice HO177.out
            (first | subst eo34 | (injection eo34 with f1_ f2_ f3_; have f4_ := f1_.symm; have f5_ := f3_.symm; clear f1_ f2_ f3_; subst f4_; subst f5_))
            have q33 : ((l0_4.length : Int) : Int) ≤ ((t175.length : Int) : Int) := of_decide_eq_true (by first | (with_reducible assumption) | assumption)
            obtain ⟨i033, hi033, _, hsz33, _⟩ := info_parts info55
            have hroom33 : t175.length ≤ co34 := (Kd.R_reads' HO177.out).2.1
            have hC33 : Kd.C k55 _ Ao34 t175.length t175 := (Kd.R_reads' HO177.out).2.2
            have hcut33 := cut_to (P := Try.prog) 26 55 .i64 Try.underlying26 hi033 Ao34 t175.length co34 (l0_4.length : Int) (of_decide_eq_true (by first | (with_reducible assumption) | assumption)) q33 hroom33
            have hr33 := Kd.C_take (m := ((l0_4.length : Int) : Int).toNat) hC33 (by omega)
            have hy33 : y187.length = ((l0_4.length : Int) : Int).toNat := (by rw [Ny187.out, List.length_take]; omega)
            rw [← Ny187.out] at hr33
            rw [← hy33] at hcut33
            have HR190 := Aside0.mk hr33
            have HC190 := Aside0.mk (show y187.length ≤ co34 from by omega)
            clear hr33 hC33 hroom33 hi033 hsz33
            have KY33 := Aside0.mk hy33
            clear hy33
            have KL33 := Aside0.mk (show ((l0_4.length : Int) : Int).toNat ≤ t175.length from by omega)
            replace q33 := eq_true q33
            refine start_ (n := 17) (S := fun w' => w'.cell? ⟨gb181, 0, none⟩ = some (.int .u64 t178) ∧ w'.cell? ⟨gb181, 1, none⟩ = some (.int .i64 t179) ∧ w'.cell? ⟨gb181, 2, none⟩ = some (.int .i64 t180) ∧ w'.cell? ⟨gb167, 0, none⟩ = some (.int .u64 a0_0) ∧ w'.cell? ⟨gb167, 1, none⟩ = some (.int .i64 a0_1) ∧ w'.cell? ⟨gb167, 2, none⟩ = some (.int .i64 a0_2) ∧ w'.cell? ⟨gb167, 3, none⟩ = some (.int .i64 a0_3) ∧ w'.cell? ⟨gb167, 4, none⟩ = some (.slice A0_4 l0_4.length c0_4) ∧ w'.cell? ⟨gb167, 5, none⟩ = some (.int .u64 a0_5) ∧ w'.cell? ⟨gb167, 6, none⟩ = some (.bool a0_6)) (ds := []) #[false, false, false, false, false, false, false, false, false, false, false, false, false, false, false, false, false] (by kernel_rfl) rfl rfl ⟨(blk_cell BK181.out 0).trans rfl, (blk_cell BK181.out 1).trans rfl, (blk_cell BK181.out 2).trans rfl, (blk_cell BK167.out 0).trans rfl, (blk_cell BK167.out 1).trans rfl, (blk_cell BK167.out 2).trans rfl, (blk_cell BK167.out 3).trans rfl, (blk_cell BK167.out 4).trans rfl, (blk_cell BK167.out 5).trans rfl, (blk_cell BK167.out 6).trans rfl⟩ (fun hHeld => ?_); refine with_tabW croftlaw11_OracleTurns.tab7 croftlaw11_OracleTurns.bits7 (fun HT_ HW_ => ?_)
            generalize w29.drew = w30 at HO171 HO174 HO177 BK167 BK181 HB HR185 HR190 hHeld ⊢
            refine pure_ (i := 1) (N := some 31) (v := ?_) (a' := ?_) #[false, true, false, false, false, false, false, false, false, false, false, false, false, false, false, false, false] rfl rfl (any_of HT_.out (by kernel_rfl)) (fun _ _ _ h => h) (Or.inl ⟨by rfl, ?_⟩) ?_ ?_
            rotate_left
            · intro w'
              go_simp
              with_reducible rfl
            rotate_left
            · simp only [Act.put, List.setIfInBounds_toArray, List.set_cons_zero, List.set_cons_succ, i64_w, i32_w]
              rfl
            refine pure_ (i := 3) (N := some 33) (v := ?_) (a' := ?_) #[false, true, false, true, false, false, false, false, false, false, false, false, false, false, false, false, false] rfl rfl (any_of HT_.out (by kernel_rfl)) (fun _ _ _ h => h) (Or.inl ⟨by rfl, ?_⟩) ?_ ?_
            rotate_left
            · intro w'
              go_simp
              with_reducible rfl
            rotate_left
            · simp only [Act.put, List.setIfInBounds_toArray, List.set_cons_zero, List.set_cons_succ, i64_w, i32_w]
              rfl
            refine pure_ (i := 4) (N := some 34) (v := ?_) (a' := ?_) #[false, true, false, true, true, false, false, false, false, false, false, false, false, false, false, false, false] rfl rfl (any_of HT_.out (by kernel_rfl)) (fun _ _ _ h => h) (Or.inl ⟨by rfl, ?_⟩) ?_ ?_
            rotate_left
            · intro w'
              go_simp
              with_reducible rfl
            rotate_left
            · simp only [Act.put, List.setIfInBounds_toArray, List.set_cons_zero, List.set_cons_succ, i64_w, i32_w]
              rfl
            refine pure_ (i := 5) (N := some 35) (v := ?_) (a' := ?_) #[false, true, false, true, true, true, false, false, false, false, false, false, false, false, false, false, false] rfl rfl (any_of HT_.out (by kernel_rfl)) (fun _ _ _ h => h) (Or.inl ⟨by rfl, ?_⟩) ?_ ?_
            rotate_left
            · intro w'
              go_simp
              with_reducible rfl
            rotate_left
            · simp only [Act.put, List.setIfInBounds_toArray, List.set_cons_zero, List.set_cons_succ, i64_w, i32_w]
              rfl
            refine pure_ (i := 9) (N := some 39) (v := ?_) (a' := ?_) #[false, true, false, true, true, true, false, false, false, true, false, false, false, false, false, false, false] rfl rfl (any_of HT_.out (by kernel_rfl)) (fun _ _ _ h => h) (Or.inl ⟨by rfl, ?_⟩) ?_ ?_
            rotate_left
            · intro w'
              go_simp
              with_reducible rfl
            rotate_left
            · simp only [Act.put, List.setIfInBounds_toArray, List.set_cons_zero, List.set_cons_succ, i64_w, i32_w]
              rfl
            refine pure_ (i := 11) (N := some 41) (v := ?_) (a' := ?_) #[false, true, false, true, true, true, false, false, false, true, false, true, false, false, false, false, false] rfl rfl (any_of HT_.out (by kernel_rfl)) (fun _ _ _ h => h) (Or.inl ⟨by rfl, ?_⟩) ?_ ?_
            rotate_left
            · intro w'
              go_simp
              with_reducible rfl
            rotate_left
            · simp only [Act.put, List.setIfInBounds_toArray, List.set_cons_zero, List.set_cons_succ, i64_w, i32_w]
              rfl
            refine pure_ (i := 12) (N := some 42) (v := ?_) (a' := ?_) #[false, true, false, true, true, true, false, false, false, true, false, true, true, false, false, false, false] rfl rfl (any_of HT_.out (by kernel_rfl)) (fun _ _ _ h => h) (Or.inl ⟨by rfl, ?_⟩) ?_ ?_
            rotate_left
            · intro w'
              go_simp
              with_reducible rfl
            rotate_left
            · simp only [Act.put, List.setIfInBounds_toArray, List.set_cons_zero, List.set_cons_succ, i64_w, i32_w]
              rfl
            refine pure_ (i := 13) (N := some 43) (v := ?_) (a' := ?_) #[false, true, false, true, true, true, false, false, false, true, false, true, true, true, false, false, false] rfl rfl (any_of HT_.out (by kernel_rfl)) (fun _ _ _ h => h) (Or.inl ⟨by rfl, ?_⟩) ?_ ?_
            rotate_left
            · intro w'
              go_simp
              with_reducible rfl
            rotate_left
            · simp only [Act.put, List.setIfInBounds_toArray, List.set_cons_zero, List.set_cons_succ, i64_w, i32_w]
              rfl
            refine take_ (i := 0) (N := some 30) (v := ?_) (a' := ?_) #[true, true, false, true, true, true, false, false, false, true, false, true, true, true, false, false, false] rfl rfl (take_ofW HT_.out HW_.out (by kernel_rfl)) (fun _ _ _ h => h) (Or.inl ⟨by rfl, ?_⟩) hHeld ?_ ?_
            rotate_left
            · rintro w' ⟨s0, s1, s2, s3, s4, s5, s6, s7, s8, s9⟩
              go_simp
              with_reducible rfl
            rotate_left
            · simp only [Act.put, List.setIfInBounds_toArray, List.set_cons_zero, List.set_cons_succ, i64_w, i32_w]
              rfl
            refine take_ (i := 2) (N := some 32) (v := ?_) (a' := ?_) #[true, true, true, true, true, true, false, false, false, true, false, true, true, true, false, false, false] rfl rfl (take_ofW HT_.out HW_.out (by kernel_rfl)) (fun _ _ _ h => h) (Or.inl ⟨by rfl, ?_⟩) hHeld ?_ ?_
            rotate_left
            · rintro w' ⟨s0, s1, s2, s3, s4, s5, s6, s7, s8, s9⟩
              go_simp
              with_reducible rfl
            rotate_left
            · simp only [Act.put, List.setIfInBounds_toArray, List.set_cons_zero, List.set_cons_succ, i64_w, i32_w]
              rfl
            refine take_ (i := 8) (N := some 38) (v := ?_) (a' := ?_) #[true, true, true, true, true, true, false, false, true, true, false, true, true, true, false, false, false] rfl rfl (take_ofW HT_.out HW_.out (by kernel_rfl)) (fun _ _ _ h => h) (Or.inl ⟨by rfl, ?_⟩) hHeld ?_ ?_
            rotate_left
            · rintro w' ⟨s0, s1, s2, s3, s4, s5, s6, s7, s8, s9⟩
              go_simp
              with_reducible rfl
            rotate_left
            · simp only [Act.put, List.setIfInBounds_toArray, List.set_cons_zero, List.set_cons_succ, i64_w, i32_w]
              rfl
            refine take_ (i := 10) (N := some 40) (v := ?_) (a' := ?_) #[true, true, true, true, true, true, false, false, true, true, true, true, true, true, false, false, false] rfl rfl (take_ofW HT_.out HW_.out (by kernel_rfl)) (fun _ _ _ h => h) (Or.inl ⟨by rfl, ?_⟩) hHeld ?_ ?_
            rotate_left
            · rintro w' ⟨s0, s1, s2, s3, s4, s5, s6, s7, s8, s9⟩
              go_simp
              with_reducible rfl
            rotate_left
            · simp only [Act.put, List.setIfInBounds_toArray, List.set_cons_zero, List.set_cons_succ, i64_w, i32_w]
              rfl
            refine one_ (i := 6) (N := some 36) #[true, true, true, true, true, true, true, false, true, true, true, true, true, true, false, false, false] rfl rfl (one_of HT_.out (by kernel_rfl)) (by decide) (fun K hK => ?_)
            refine goes_ Try.func14 (by kernel_rfl) rfl #[.agg #[.int .u64 t178, .int .i64 t179, .int .i64 t180], .int .i64 a0_3, .slice Ao32 y182.length co32] (by rfl) rfl rfl (by (try simp only [List.map_toArray, List.map_cons, List.map_nil]); first | done | rfl | (simp only [List.length_drop, List.length_take]; rfl)) ?_
            with_reducible refine (oracle_Sound.calls t178 t179 t180 a0_3 _ _ y182 t186 _ ?side1 ?side2 A11.out).mono ?_
            (case side1 => repeat (first | exact (by repeat (first | (with_reducible exact HR185.out) | (with_reducible refine Kd.C_alloc ?_ _) | (with_reducible refine Kd.C_drewN ?_ _) | (with_reducible refine Kd.C_drew ?_) | exact HR185.out)) | (with_reducible refine Kd.C_alloc ?_ _) | (with_reducible refine Kd.C_drewN ?_ _) | (with_reducible refine Kd.C_drew ?_)))
            (case side2 => exact HC185.out)
            rintro e w35 ⟨rfl, hb⟩
            refine ⟨_, rfl, ?_⟩
            have n0_ := Aside0.mk (Kd.R_below (by (with_reducible repeat (first | apply Kd.R_alloc | apply Kd.R_drewN | apply Kd.R_drew)); exact HO171.out) hb)
            have n1_ := Aside0.mk (Kd.R_below (by (with_reducible repeat (first | apply Kd.R_alloc | apply Kd.R_drewN | apply Kd.R_drew)); exact HO174.out) hb)
            have n2_ := Aside0.mk (Kd.R_below (by (with_reducible repeat (first | apply Kd.R_alloc | apply Kd.R_drewN | apply Kd.R_drew)); exact HO177.out) hb)
            have n3_ := Aside0.mk (blk_below (g := gb167) (o := .cells #[.int .u64 a0_0, .int .i64 a0_1, .int .i64 a0_2, .int .i64 a0_3, .slice A0_4 l0_4.length c0_4, .int .u64 a0_5, .bool a0_6] 44 (0, 0)) (by (with_reducible repeat (first | refine blk_drewN ?_ _ | refine blk_drew ?_ | refine blk_alloc ?_ _)); exact BK167.out) hb)
            have n4_ := Aside0.mk (blk_below (g := gb181) (o := .cells #[.int .u64 t178, .int .i64 t179, .int .i64 t180] 29 (0, 0)) (by (with_reducible repeat (first | refine blk_drewN ?_ _ | refine blk_drew ?_ | refine blk_alloc ?_ _)); exact BK181.out) hb)
            have n5_ := Aside0.mk (Kd.C_below (by repeat (first | (with_reducible exact HR185.out) | (with_reducible refine Kd.C_alloc ?_ _) | (with_reducible refine Kd.C_drewN ?_ _) | (with_reducible refine Kd.C_drew ?_) | exact HR185.out)) hb)
            have n6_ := Aside0.mk (Kd.C_below (by repeat (first | (with_reducible exact HR190.out) | (with_reducible refine Kd.C_alloc ?_ _) | (with_reducible refine Kd.C_drewN ?_ _) | (with_reducible refine Kd.C_drew ?_) | exact HR190.out)) hb)
            have n7_ := Aside0.mk (below_step (by repeat (first | (with_reducible first | exact HB.out | apply below_alloc | apply pw_below_drewN | apply below_drew1 | refine below_set ?_ GE167.out | refine below_set ?_ GE181.out) | exact HB.out)) hb)
            clear HO171
            clear HO174
            clear HO177
            clear BK167
            clear BK181
            clear HR185
            clear HR190
            clear HB
            have HO171 := n0_
            have HO174 := n1_
            have HO177 := n2_
            have BK167 := n3_
            have BK181 := n4_
            have HR185 := n5_
            have HR190 := n6_
            have HB := n7_
            clear n0_ n1_ n2_ n3_ n4_ n5_ n6_ n7_
            (try clear hb)
            (try clear hb2)
            (try clear hk)
            (try clear hi)
            refine hK.out _ _ ⟨(blk_cell BK181.out 0).trans rfl, (blk_cell BK181.out 1).trans rfl, (blk_cell BK181.out 2).trans rfl, (blk_cell BK167.out 0).trans rfl, (blk_cell BK167.out 1).trans rfl, (blk_cell BK167.out 2).trans rfl, (blk_cell BK167.out 3).trans rfl, (blk_cell BK167.out 4).trans rfl, (blk_cell BK167.out 5).trans rfl, (blk_cell BK167.out 6).trans rfl⟩ (fun hHeld => ?_)
            clear hK K
            refine norm_ (a' := ?_) ?_ ?_
            rotate_left
            · show Act.put _ (some 36) _ = _
              simp only [Act.put, List.setIfInBounds_toArray, List.set_cons_zero, List.set_cons_succ, i64_w, i32_w]
              rfl
            refine pure_ (i := 7) (N := some 37) (v := ?_) (a' := ?_) #[true, true, true, true, true, true, true, true, true, true, true, true, true, true, false, false, false] rfl rfl (any_of HT_.out (by kernel_rfl)) (fun _ _ _ h => h) (Or.inl ⟨by rfl, ?_⟩) ?_ ?_
            rotate_left
            · intro w'
              go_simp
              with_reducible rfl
            rotate_left
            · simp only [Act.put, List.setIfInBounds_toArray, List.set_cons_zero, List.set_cons_succ, i64_w, i32_w]
              rfl
            refine one_ (i := 14) (N := some 44) #[true, true, true, true, true, true, true, true, true, true, true, true, true, true, true, false, false] rfl rfl (one_of HT_.out (by kernel_rfl)) (by decide) (fun K hK => ?_)
            refine goes_ Try.func14 (by kernel_rfl) rfl #[.agg #[.int .u64 t178, .int .i64 t179, .int .i64 t180], .int .i64 a0_3, .slice Ao34 y187.length co34] (by rfl) rfl rfl (by (try simp only [List.map_toArray, List.map_cons, List.map_nil]); first | done | rfl | (simp only [List.length_drop, List.length_take]; rfl)) ?_
            with_reducible refine (oracle_Sound.calls t178 t179 t180 a0_3 _ _ y187 t191 _ ?side1 ?side2 A14.out).mono ?_
            (case side1 => repeat (first | exact (by repeat (first | (with_reducible exact HR190.out) | (with_reducible refine Kd.C_alloc ?_ _) | (with_reducible refine Kd.C_drewN ?_ _) | (with_reducible refine Kd.C_drew ?_) | exact HR190.out)) | (with_reducible refine Kd.C_alloc ?_ _) | (with_reducible refine Kd.C_drewN ?_ _) | (with_reducible refine Kd.C_drew ?_)))
            (case side2 => exact HC190.out)
            rintro e w36 ⟨rfl, hb⟩
            refine ⟨_, rfl, ?_⟩
            have n0_ := Aside0.mk (Kd.R_below (by (with_reducible repeat (first | apply Kd.R_alloc | apply Kd.R_drewN | apply Kd.R_drew)); exact HO171.out) hb)
            have n1_ := Aside0.mk (Kd.R_below (by (with_reducible repeat (first | apply Kd.R_alloc | apply Kd.R_drewN | apply Kd.R_drew)); exact HO174.out) hb)
            have n2_ := Aside0.mk (Kd.R_below (by (with_reducible repeat (first | apply Kd.R_alloc | apply Kd.R_drewN | apply Kd.R_drew)); exact HO177.out) hb)
            have n3_ := Aside0.mk (blk_below (g := gb167) (o := .cells #[.int .u64 a0_0, .int .i64 a0_1, .int .i64 a0_2, .int .i64 a0_3, .slice A0_4 l0_4.length c0_4, .int .u64 a0_5, .bool a0_6] 44 (0, 0)) (by (with_reducible repeat (first | refine blk_drewN ?_ _ | refine blk_drew ?_ | refine blk_alloc ?_ _)); exact BK167.out) hb)
            have n4_ := Aside0.mk (blk_below (g := gb181) (o := .cells #[.int .u64 t178, .int .i64 t179, .int .i64 t180] 29 (0, 0)) (by (with_reducible repeat (first | refine blk_drewN ?_ _ | refine blk_drew ?_ | refine blk_alloc ?_ _)); exact BK181.out) hb)
            have n5_ := Aside0.mk (Kd.C_below (by repeat (first | (with_reducible exact HR185.out) | (with_reducible refine Kd.C_alloc ?_ _) | (with_reducible refine Kd.C_drewN ?_ _) | (with_reducible refine Kd.C_drew ?_) | exact HR185.out)) hb)
            have n6_ := Aside0.mk (Kd.C_below (by repeat (first | (with_reducible exact HR190.out) | (with_reducible refine Kd.C_alloc ?_ _) | (with_reducible refine Kd.C_drewN ?_ _) | (with_reducible refine Kd.C_drew ?_) | exact HR190.out)) hb)
            have n7_ := Aside0.mk (below_step (by repeat (first | (with_reducible first | exact HB.out | apply below_alloc | apply pw_below_drewN | apply below_drew1 | refine below_set ?_ GE167.out | refine below_set ?_ GE181.out) | exact HB.out)) hb)
            clear HO171
            clear HO174
            clear HO177
            clear BK167
            clear BK181
            clear HR185
            clear HR190
            clear HB
            have HO171 := n0_
            have HO174 := n1_
            have HO177 := n2_
            have BK167 := n3_
            have BK181 := n4_
            have HR185 := n5_
            have HR190 := n6_
            have HB := n7_
            clear n0_ n1_ n2_ n3_ n4_ n5_ n6_ n7_
            (try clear hb)
            (try clear hb2)
            (try clear hk)
            (try clear hi)
            refine hK.out _ _ ⟨(blk_cell BK181.out 0).trans rfl, (blk_cell BK181.out 1).trans rfl, (blk_cell BK181.out 2).trans rfl, (blk_cell BK167.out 0).trans rfl, (blk_cell BK167.out 1).trans rfl, (blk_cell BK167.out 2).trans rfl, (blk_cell BK167.out 3).trans rfl, (blk_cell BK167.out 4).trans rfl, (blk_cell BK167.out 5).trans rfl, (blk_cell BK167.out 6).trans rfl⟩ (fun hHeld => ?_)
            clear hK K
            refine norm_ (a' := ?_) ?_ ?_
            rotate_left
            · show Act.put _ (some 44) _ = _
              simp only [Act.put, List.setIfInBounds_toArray, List.set_cons_zero, List.set_cons_succ, i64_w, i32_w]
              rfl
            refine pure_ (i := 15) (N := some 45) (v := ?_) (a' := ?_) #[true, true, true, true, true, true, true, true, true, true, true, true, true, true, true, true, false] rfl rfl (any_of HT_.out (by kernel_rfl)) (fun _ _ _ h => h) (Or.inl ⟨by rfl, ?_⟩) ?_ ?_
            rotate_left
            · intro w'
              go_simp
              with_reducible rfl
            rotate_left
            · simp only [Act.put, List.setIfInBounds_toArray, List.set_cons_zero, List.set_cons_succ, i64_w, i32_w]
              rfl
            refine pure_ (i := 16) (N := some 46) (v := ?_) (a' := ?_) #[true, true, true, true, true, true, true, true, true, true, true, true, true, true, true, true, true] rfl rfl (any_of HT_.out (by kernel_rfl)) (fun _ _ _ h => h) (Or.inl ⟨by rfl, ?_⟩) ?_ ?_
            rotate_left
            · intro w'
              go_simp
              with_reducible rfl
            rotate_left
            · simp only [Act.put, List.setIfInBounds_toArray, List.set_cons_zero, List.set_cons_succ, i64_w, i32_w]
              rfl
            refine done_ (done_of HT_.out (by kernel_rfl)) ?_
            try go_wp2
            go_ret
            exact ⟨by first | rfl | (simp [errW_none, errW_some] <;> rfl) | (simp [*, errW_none, errW_some] <;> rfl), by repeat (first | (with_reducible first | exact HB.out | apply below_alloc | apply pw_below_drewN | apply below_drew1 | refine below_set ?_ GE167.out | refine below_set ?_ GE181.out) | exact HB.out)⟩
          · rw [if_neg c15] at H
            have c15b0 : ((t186 == (-1)) != (t191 == (-1))) = false := by simpa using c15
            (try (have c15b1 : decide ((t186 == (-1)) = (t191 == (-1))) = true := by simpa using c15))
            (try (have c15b2 : ((t186 == (-1)) == (t191 == (-1))) = true := by simpa using c15))
            clear c15
            have c37b0 := eq_true (of_decide_eq_true (by first | (with_reducible assumption) | assumption) : 0 ≤ (l0_4.length : Int))
            have c38b0 := eq_true (of_decide_eq_true (by first | (with_reducible assumption) | assumption) : (l0_4.length : Int) ≤ (t169.length : Int))
            obtain ⟨y192, hy192⟩ : ∃ y_ : List (S55), y_ = (t169.take ((l0_4.length : Int) : Int).toNat) := ⟨_, rfl⟩
            replace H : ((oracle_NoFit.f t178 t179 t180 a0_3 y192 a0_5).bind fun t196 => ((oracle_NoFit.f t178 t179 t180 a0_3 (t175.take ((l0_4.length : Int) : Int).toNat) a0_5).bind fun t201 => (if (t196 != t201) = true then (some false) else ((oracle_Least.f t178 t179 t180 (t169.take ((l0_4.length : Int) : Int).toNat) l1).bind fun bt206 => (croftlaw11_OracleTurns.l0 k l1 t175 (l0_4.length : Int) bt206.1 bt206.2 ([] : List Int) (wrap64 ((l1.length : Int) - 1)) t178 t179 t180))))) = some r := by first | (rw [hy192]; with_reducible exact H) | (have H2_ := (Option.bind_some _ _).symm.trans H; rw [hy192]; with_reducible exact H2_) | (have H2_ := (Option.bind_some _ _).symm.trans H; with_reducible exact H2_) | with_reducible exact H | (rw [hy192]; exact H) | exact H
            have Ny192 := Aside0.mk hy192
            clear hy192
            replace H := Option.bind_eq_some_iff.mp H
            obtain ⟨t196, A390, H⟩ := H
            replace H : ((oracle_NoFit.f t178 t179 t180 a0_3 (t175.take ((l0_4.length : Int) : Int).toNat) a0_5).bind fun t201 => (if (t196 != t201) = true then (some false) else ((oracle_Least.f t178 t179 t180 (t169.take ((l0_4.length : Int) : Int).toNat) l1).bind fun bt206 => (croftlaw11_OracleTurns.l0 k l1 t175 (l0_4.length : Int) bt206.1 bt206.2 ([] : List Int) (wrap64 ((l1.length : Int) - 1)) t178 t179 t180)))) = some r := H
            have A39 := Aside0.mk A390
            clear A390
            have c40b0 := eq_true (of_decide_eq_true (by first | (with_reducible assumption) | assumption) : 0 ≤ (l0_4.length : Int))
            have c41b0 := eq_true (of_decide_eq_true (by first | (with_reducible assumption) | assumption) : (l0_4.length : Int) ≤ (t175.length : Int))
            obtain ⟨y197, hy197⟩ : ∃ y_ : List (S55), y_ = (t175.take ((l0_4.length : Int) : Int).toNat) := ⟨_, rfl⟩
            replace H : ((oracle_NoFit.f t178 t179 t180 a0_3 y197 a0_5).bind fun t201 => (if (t196 != t201) = true then (some false) else ((oracle_Least.f t178 t179 t180 (t169.take ((l0_4.length : Int) : Int).toNat) l1).bind fun bt206 => (croftlaw11_OracleTurns.l0 k l1 t175 (l0_4.length : Int) bt206.1 bt206.2 ([] : List Int) (wrap64 ((l1.length : Int) - 1)) t178 t179 t180)))) = some r := by first | (rw [hy197]; with_reducible exact H) | (have H2_ := (Option.bind_some _ _).symm.trans H; rw [hy197]; with_reducible exact H2_) | (have H2_ := (Option.bind_some _ _).symm.trans H; with_reducible exact H2_) | with_reducible exact H | (rw [hy197]; exact H) | exact H
            have Ny197 := Aside0.mk hy197
            clear hy197
            replace H := Option.bind_eq_some_iff.mp H
            obtain ⟨t201, A420, H⟩ := H
            replace H : (if (t196 != t201) = true then (some false) else ((oracle_Least.f t178 t179 t180 (t169.take ((l0_4.length : Int) : Int).toNat) l1).bind fun bt206 => (croftlaw11_OracleTurns.l0 k l1 t175 (l0_4.length : Int) bt206.1 bt206.2 ([] : List Int) (wrap64 ((l1.length : Int) - 1)) t178 t179 t180))) = some r := H
            have A42 := Aside0.mk A420
            clear A420
            by_cases c43 : (t196 != t201) = true
            · rw [if_pos c43] at H
              have c43b0 : (t196 != t201) = true := c43
              (try (have c43b1 : decide (t196 = t201) = false := by simpa using c43))
              (try (have c43b2 : (t196 == t201) = false := by simpa using c43))
              (try (have c43b3 : ¬ (t196 = t201) := by simpa using c43))
              clear c43
              obtain rfl := Option.some.inj H
              go_enter Try.func5, Try.ntmps5
              try go_wp2_with (first | ((with_reducible refine gate_dst (N := 2) rfl ?_); refine box_event ?hg (N := 2) ?hd (cs := #[.int .u64 a0_0, .int .i64 a0_1, .int .i64 a0_2, .int .i64 a0_3, .slice A0_4 l0_4.length c0_4, .int .u64 a0_5, .bool a0_6]) (t := 44) ?hr ?_; (case hd => rfl); (case hg => rfl); (case hr => first | (go_simp; done) | (go_simp; rfl)); intro gb167 hg w44 hbox hb; have n0_ := Aside0.mk (below_step (by repeat (first | (with_reducible first | exact HB.out | apply below_alloc | apply pw_below_drewN | apply below_drew1) | exact HB.out)) hb); have n1_ := Aside0.mk (hbox); have n2_ := Aside0.mk ((by rw [hg]; exact (below_size (by repeat (first | (with_reducible first | exact HB.out | apply below_alloc | apply pw_below_drewN | apply below_drew1) | exact HB.out))) : w.heap.size ≤ gb167)); have n3_ := Aside0.mk ((by rw [hg]; exact (below_size (by repeat (first | (with_reducible first | exact HB.out | apply below_alloc | apply pw_below_drewN | apply below_drew1) | exact HB.out))) : w.heap.size ≤ gb167)); clear HB; have HB := n0_; have BK167 := n1_; have GW167 := n2_; have GE167 := n3_; clear n0_ n1_ n2_ n3_; clear hb hbox hg) | ((with_reducible refine gate_callee (f := 18) rfl ?_); refine goesL_ (some 15) rfl rfl Try.func18 (by kernel_rfl) rfl #[] rfl (by (try simp only [List.map_toArray, List.map_cons, List.map_nil]); first | done | rfl | (simp only [List.length_drop, List.length_take]; rfl)) ?_; (with_reducible refine (croftlaw11_awake.calls k  true _ A3.out).mono ?_); rintro e w45 ⟨rfl, hb⟩; refine ⟨_, rfl, ?_⟩; have n0_ := Aside0.mk (blk_below (g := gb167) (o := .cells #[.int .u64 a0_0, .int .i64 a0_1, .int .i64 a0_2, .int .i64 a0_3, .slice A0_4 l0_4.length c0_4, .int .u64 a0_5, .bool a0_6] 44 (0, 0)) (by (with_reducible repeat (first | refine blk_drewN ?_ _ | refine blk_drew ?_ | refine blk_alloc ?_ _)); exact BK167.out) hb); have n1_ := Aside0.mk (below_step (by repeat (first | (with_reducible first | exact HB.out | apply below_alloc | apply pw_below_drewN | apply below_drew1 | refine below_set ?_ GE167.out) | exact HB.out)) hb); clear BK167; clear HB; have BK167 := n0_; have HB := n1_; clear n0_ n1_; (try clear hb); (try clear hb2); (try clear hk); (try clear hi); have hcz46_0 : w45.cell? ⟨gb167, 0, none⟩ = some (.int .u64 a0_0) := (blk_cell BK167.out 0).trans rfl; have hcz46_1 : w45.cell? ⟨gb167, 1, none⟩ = some (.int .i64 a0_1) := (blk_cell BK167.out 1).trans rfl; have hcz46_2 : w45.cell? ⟨gb167, 2, none⟩ = some (.int .i64 a0_2) := (blk_cell BK167.out 2).trans rfl; have hcz46_3 : w45.cell? ⟨gb167, 3, none⟩ = some (.int .i64 a0_3) := (blk_cell BK167.out 3).trans rfl; have hcz46_4 : w45.cell? ⟨gb167, 4, none⟩ = some (.slice A0_4 l0_4.length c0_4) := (blk_cell BK167.out 4).trans rfl; have hcz46_5 : w45.cell? ⟨gb167, 5, none⟩ = some (.int .u64 a0_5) := (blk_cell BK167.out 5).trans rfl; have hcz46_6 : w45.cell? ⟨gb167, 6, none⟩ = some (.bool a0_6) := (blk_cell BK167.out 6).trans rfl; have hfz46_0 := blk_frozen BK167.out 0; have hfz46_1 := blk_frozen BK167.out 1; have hfz46_2 := blk_frozen BK167.out 2; have hfz46_3 := blk_frozen BK167.out 3; have hfz46_4 := blk_frozen BK167.out 4; have hfz46_5 := blk_frozen BK167.out 5; have hfz46_6 := blk_frozen BK167.out 6) | ((with_reducible refine gate_callee (f := 13) rfl ?_); refine goesL_ (some 19) rfl rfl Try.func13 (by kernel_rfl) rfl #[.slice A0_4 l0_4.length c0_4] rfl (by (try simp only [List.map_toArray, List.map_cons, List.map_nil]); first | done | rfl | (simp only [List.length_drop, List.length_take]; rfl)) ?_; (with_reducible refine (croftlaw11_blocks.calls k _ _ l0_4 t169 _ ?side1 ?side2 A5.out).mono ?_); (case side1 => repeat (first | exact (Kd.C_below HR0_4.out HB.out) | (with_reducible refine Kd.C_alloc ?_ _) | (with_reducible refine Kd.C_drewN ?_ _) | (with_reducible refine Kd.C_drew ?_))); (case side2 => exact HC0_4.out); rintro e w47 ⟨v170, rfl, ho0, hb⟩; refine ⟨_, rfl, ?_⟩; have n0_ := Aside0.mk (Kd.R_lower ho0 (below_size (by repeat (first | (with_reducible first | exact HB.out | apply below_alloc | apply pw_below_drewN | apply below_drew1 | refine below_set ?_ GE167.out) | exact HB.out)))); have n1_ := Aside0.mk (blk_below (g := gb167) (o := .cells #[.int .u64 a0_0, .int .i64 a0_1, .int .i64 a0_2, .int .i64 a0_3, .slice A0_4 l0_4.length c0_4, .int .u64 a0_5, .bool a0_6] 44 (0, 0)) (by (with_reducible repeat (first | refine blk_drewN ?_ _ | refine blk_drew ?_ | refine blk_alloc ?_ _)); exact BK167.out) hb); have n2_ := Aside0.mk (below_step (by repeat (first | (with_reducible first | exact HB.out | apply below_alloc | apply pw_below_drewN | apply below_drew1 | refine below_set ?_ GE167.out) | exact HB.out)) hb); clear BK167; clear HB; have HO171 := n0_; have BK167 := n1_; have HB := n2_; clear n0_ n1_ n2_; (try clear hb); (try clear hb2); (try clear hk); (try clear hi); (try clear ho0); have hcz48_0 : w47.cell? ⟨gb167, 0, none⟩ = some (.int .u64 a0_0) := (blk_cell BK167.out 0).trans rfl; have hcz48_1 : w47.cell? ⟨gb167, 1, none⟩ = some (.int .i64 a0_1) := (blk_cell BK167.out 1).trans rfl; have hcz48_2 : w47.cell? ⟨gb167, 2, none⟩ = some (.int .i64 a0_2) := (blk_cell BK167.out 2).trans rfl; have hcz48_3 : w47.cell? ⟨gb167, 3, none⟩ = some (.int .i64 a0_3) := (blk_cell BK167.out 3).trans rfl; have hcz48_4 : w47.cell? ⟨gb167, 4, none⟩ = some (.slice A0_4 l0_4.length c0_4) := (blk_cell BK167.out 4).trans rfl; have hcz48_5 : w47.cell? ⟨gb167, 5, none⟩ = some (.int .u64 a0_5) := (blk_cell BK167.out 5).trans rfl; have hcz48_6 : w47.cell? ⟨gb167, 6, none⟩ = some (.bool a0_6) := (blk_cell BK167.out 6).trans rfl; have hfz48_0 := blk_frozen BK167.out 0; have hfz48_1 := blk_frozen BK167.out 1; have hfz48_2 := blk_frozen BK167.out 2; have hfz48_3 := blk_frozen BK167.out 3; have hfz48_4 := blk_frozen BK167.out 4; have hfz48_5 := blk_frozen BK167.out 5; have hfz48_6 := blk_frozen BK167.out 6) | ((with_reducible refine gate_callee (f := 22) rfl ?_); refine goesL_ (some 22) rfl rfl Try.func22 (by kernel_rfl) rfl #[.slice A0_4 l0_4.length c0_4] rfl (by (try simp only [List.map_toArray, List.map_cons, List.map_nil]); first | done | rfl | (simp only [List.length_drop, List.length_take]; rfl)) ?_; (with_reducible refine (croftlaw11_turned.calls k _ _ l0_4 t172 _ ?side1 ?side2 A6.out).mono ?_); (case side1 => repeat (first | exact (Kd.C_below HR0_4.out HB.out) | (with_reducible refine Kd.C_alloc ?_ _) | (with_reducible refine Kd.C_drewN ?_ _) | (with_reducible refine Kd.C_drew ?_))); (case side2 => exact HC0_4.out); rintro e w49 ⟨v173, rfl, ho0, hb⟩; refine ⟨_, rfl, ?_⟩; have n0_ := Aside0.mk (Kd.R_below (by (with_reducible repeat (first | apply Kd.R_alloc | apply Kd.R_drewN | apply Kd.R_drew)); exact HO171.out) hb); have n1_ := Aside0.mk (Kd.R_lower ho0 (below_size (by repeat (first | (with_reducible first | exact HB.out | apply below_alloc | apply pw_below_drewN | apply below_drew1 | refine below_set ?_ GE167.out) | exact HB.out)))); have n2_ := Aside0.mk (blk_below (g := gb167) (o := .cells #[.int .u64 a0_0, .int .i64 a0_1, .int .i64 a0_2, .int .i64 a0_3, .slice A0_4 l0_4.length c0_4, .int .u64 a0_5, .bool a0_6] 44 (0, 0)) (by (with_reducible repeat (first | refine blk_drewN ?_ _ | refine blk_drew ?_ | refine blk_alloc ?_ _)); exact BK167.out) hb); have n3_ := Aside0.mk (below_step (by repeat (first | (with_reducible first | exact HB.out | apply below_alloc | apply pw_below_drewN | apply below_drew1 | refine below_set ?_ GE167.out) | exact HB.out)) hb); clear HO171; clear BK167; clear HB; have HO171 := n0_; have HO174 := n1_; have BK167 := n2_; have HB := n3_; clear n0_ n1_ n2_ n3_; (try clear hb); (try clear hb2); (try clear hk); (try clear hi); (try clear ho0); obtain ⟨Ao50, co50, eo50⟩ := Kd.R_slice HO174.out; subst eo50) | ((with_reducible refine gate_callee (f := 13) rfl ?_); refine goesL_ (some 23) rfl rfl Try.func13 (by kernel_rfl) rfl #[.slice Ao50 t172.length co50] rfl (by (try simp only [List.map_toArray, List.map_cons, List.map_nil]); first | done | rfl | (simp only [List.length_drop, List.length_take]; rfl)) ?_; (with_reducible refine (croftlaw11_blocks.calls k _ _ t172 t175 _ ?side1 ?side2 A7.out).mono ?_); (case side1 => repeat (first | exact (Kd.R_reads' HO174.out).2.2 | (with_reducible refine Kd.C_alloc ?_ _) | (with_reducible refine Kd.C_drewN ?_ _) | (with_reducible refine Kd.C_drew ?_))); (case side2 => exact (Kd.R_reads' HO174.out).2.1); rintro e w51 ⟨v176, rfl, ho0, hb⟩; refine ⟨_, rfl, ?_⟩; have n0_ := Aside0.mk (Kd.R_elder' (by (with_reducible repeat (first | apply Kd.R_alloc | apply Kd.R_drewN | apply Kd.R_drew)); exact HO171.out) (Kd.R_base ho0) hb); have n1_ := Aside0.mk (Kd.R_below (by (with_reducible repeat (first | apply Kd.R_alloc | apply Kd.R_drewN | apply Kd.R_drew)); exact HO174.out) hb); have n2_ := Aside0.mk (Kd.R_lower (Kd.R_new' ho0 (Kd.R_lt (by (with_reducible repeat (first | apply Kd.R_alloc | apply Kd.R_drewN | apply Kd.R_drew)); exact HO171.out))) (below_size (by repeat (first | (with_reducible first | exact HB.out | apply below_alloc | apply pw_below_drewN | apply below_drew1 | refine below_set ?_ GE167.out) | exact HB.out)))); have n3_ := Aside0.mk (blk_below (g := gb167) (o := .cells #[.int .u64 a0_0, .int .i64 a0_1, .int .i64 a0_2, .int .i64 a0_3, .slice A0_4 l0_4.length c0_4, .int .u64 a0_5, .bool a0_6] 44 (0, 0)) (by (with_reducible repeat (first | refine blk_drewN ?_ _ | refine blk_drew ?_ | refine blk_alloc ?_ _)); exact BK167.out) hb); have n4_ := Aside0.mk (below_step (by repeat (first | (with_reducible first | exact HB.out | apply below_alloc | apply pw_below_drewN | apply below_drew1 | refine below_set ?_ GE167.out) | exact HB.out)) hb); clear HO171; clear HO174; clear BK167; clear HB; have HO171 := n0_; have HO174 := n1_; have HO177 := n2_; have BK167 := n3_; have HB := n4_; clear n0_ n1_ n2_ n3_ n4_; (try clear hb); (try clear hb2); (try clear hk); (try clear hi); (try clear ho0); have hcz52_0 : w51.cell? ⟨gb167, 0, none⟩ = some (.int .u64 a0_0) := (blk_cell BK167.out 0).trans rfl; have hcz52_1 : w51.cell? ⟨gb167, 1, none⟩ = some (.int .i64 a0_1) := (blk_cell BK167.out 1).trans rfl; have hcz52_2 : w51.cell? ⟨gb167, 2, none⟩ = some (.int .i64 a0_2) := (blk_cell BK167.out 2).trans rfl; have hcz52_3 : w51.cell? ⟨gb167, 3, none⟩ = some (.int .i64 a0_3) := (blk_cell BK167.out 3).trans rfl; have hcz52_4 : w51.cell? ⟨gb167, 4, none⟩ = some (.slice A0_4 l0_4.length c0_4) := (blk_cell BK167.out 4).trans rfl; have hcz52_5 : w51.cell? ⟨gb167, 5, none⟩ = some (.int .u64 a0_5) := (blk_cell BK167.out 5).trans rfl; have hcz52_6 : w51.cell? ⟨gb167, 6, none⟩ = some (.bool a0_6) := (blk_cell BK167.out 6).trans rfl; have hfz52_0 := blk_frozen BK167.out 0; have hfz52_1 := blk_frozen BK167.out 1; have hfz52_2 := blk_frozen BK167.out 2; have hfz52_3 := blk_frozen BK167.out 3; have hfz52_4 := blk_frozen BK167.out 4; have hfz52_5 := blk_frozen BK167.out 5; have hfz52_6 := blk_frozen BK167.out 6) | ((with_reducible refine gate_callee (f := 15) rfl ?_); refine goesL_ (some 29) rfl rfl Try.func15 (by kernel_rfl) rfl #[.agg #[.int .u64 a0_0, .int .i64 a0_1, .int .i64 a0_2]] rfl (by (try simp only [List.map_toArray, List.map_cons, List.map_nil]); first | done | rfl | (simp only [List.length_drop, List.length_take]; rfl)) ?_; (with_reducible refine (croftlaw11_config.calls a0_0 a0_1 a0_2 t178 t179 t180 _ A8.out).mono ?_); rintro e w53 ⟨rfl, hb⟩; refine ⟨_, rfl, ?_⟩; have n0_ := Aside0.mk (Kd.R_below (by (with_reducible repeat (first | apply Kd.R_alloc | apply Kd.R_drewN | apply Kd.R_drew)); exact HO171.out) hb); have n1_ := Aside0.mk (Kd.R_below (by (with_reducible repeat (first | apply Kd.R_alloc | apply Kd.R_drewN | apply Kd.R_drew)); exact HO174.out) hb); have n2_ := Aside0.mk (Kd.R_below (by (with_reducible repeat (first | apply Kd.R_alloc | apply Kd.R_drewN | apply Kd.R_drew)); exact HO177.out) hb); have n3_ := Aside0.mk (blk_below (g := gb167) (o := .cells #[.int .u64 a0_0, .int .i64 a0_1, .int .i64 a0_2, .int .i64 a0_3, .slice A0_4 l0_4.length c0_4, .int .u64 a0_5, .bool a0_6] 44 (0, 0)) (by (with_reducible repeat (first | refine blk_drewN ?_ _ | refine blk_drew ?_ | refine blk_alloc ?_ _)); exact BK167.out) hb); have n4_ := Aside0.mk (below_step (by repeat (first | (with_reducible first | exact HB.out | apply below_alloc | apply pw_below_drewN | apply below_drew1 | refine below_set ?_ GE167.out) | exact HB.out)) hb); clear HO171; clear HO174; clear HO177; clear BK167; clear HB; have HO171 := n0_; have HO174 := n1_; have HO177 := n2_; have BK167 := n3_; have HB := n4_; clear n0_ n1_ n2_ n3_ n4_; (try clear hb); (try clear hb2); (try clear hk); (try clear hi)) | ((with_reducible refine gate_dst (N := 8) rfl ?_); refine box_event ?hg (N := 8) ?hd (cs := #[.int .u64 0, .int .i64 0, .int .i64 0]) (t := 29) ?hr ?_; (case hd => rfl); (case hg => rfl); (case hr => first | (go_simp; done) | (go_simp; rfl)); intro gb181 hg w54 hbox hb; have n0_ := Aside0.mk (Kd.R_below (by (with_reducible repeat (first | apply Kd.R_alloc | apply Kd.R_drewN | apply Kd.R_drew)); exact HO171.out) hb); have n1_ := Aside0.mk (Kd.R_below (by (with_reducible repeat (first | apply Kd.R_alloc | apply Kd.R_drewN | apply Kd.R_drew)); exact HO174.out) hb); have n2_ := Aside0.mk (Kd.R_below (by (with_reducible repeat (first | apply Kd.R_alloc | apply Kd.R_drewN | apply Kd.R_drew)); exact HO177.out) hb); have n3_ := Aside0.mk (blk_below (g := gb167) (o := .cells #[.int .u64 a0_0, .int .i64 a0_1, .int .i64 a0_2, .int .i64 a0_3, .slice A0_4 l0_4.length c0_4, .int .u64 a0_5, .bool a0_6] 44 (0, 0)) (by (with_reducible repeat (first | refine blk_drewN ?_ _ | refine blk_drew ?_ | refine blk_alloc ?_ _)); exact BK167.out) hb); have n4_ := Aside0.mk (below_step (by repeat (first | (with_reducible first | exact HB.out | apply below_alloc | apply pw_below_drewN | apply below_drew1 | refine below_set ?_ GE167.out) | exact HB.out)) hb); have n5_ := Aside0.mk (hbox); have n6_ := Aside0.mk ((by rw [hg]; exact (below_size (by repeat (first | (with_reducible first | exact HB.out | apply below_alloc | apply pw_below_drewN | apply below_drew1 | refine below_set ?_ GE167.out) | exact HB.out))) : w.heap.size ≤ gb181)); have n7_ := Aside0.mk ((by rw [hg]; exact (below_size (by repeat (first | (with_reducible first | exact HB.out | apply below_alloc | apply pw_below_drewN | apply below_drew1 | refine below_set ?_ GE167.out) | exact HB.out))) : w.heap.size ≤ gb181)); have n8_ := Aside0.mk ((by rw [hg]; exact Nat.ne_of_lt (blk_lt (g := gb167) (o := .cells #[.int .u64 a0_0, .int .i64 a0_1, .int .i64 a0_2, .int .i64 a0_3, .slice A0_4 l0_4.length c0_4, .int .u64 a0_5, .bool a0_6] 44 (0, 0)) (by (with_reducible repeat (first | refine blk_drewN ?_ _ | refine blk_drew ?_ | refine blk_alloc ?_ _)); exact BK167.out)) : gb167 ≠ gb181)); have n9_ := Aside0.mk ((by rw [hg]; exact Nat.ne_of_gt (blk_lt (g := gb167) (o := .cells #[.int .u64 a0_0, .int .i64 a0_1, .int .i64 a0_2, .int .i64 a0_3, .slice A0_4 l0_4.length c0_4, .int .u64 a0_5, .bool a0_6] 44 (0, 0)) (by (with_reducible repeat (first | refine blk_drewN ?_ _ | refine blk_drew ?_ | refine blk_alloc ?_ _)); exact BK167.out)) : gb181 ≠ gb167)); clear HO171; clear HO174; clear HO177; clear BK167; clear HB; have HO171 := n0_; have HO174 := n1_; have HO177 := n2_; have BK167 := n3_; have HB := n4_; have BK181 := n5_; have GW181 := n6_; have GE181 := n7_; have NB167_181 := n8_; have NB181_167 := n9_; clear n0_ n1_ n2_ n3_ n4_ n5_ n6_ n7_ n8_ n9_; clear hb hbox hg; have hnb55 := NB181_167.out; have hnc55 := NB167_181.out; have hcz56_0 : w54.cell? ⟨gb181, 0, none⟩ = some (.int .u64 0) := (blk_cell BK181.out 0).trans rfl; have hcz56_1 : w54.cell? ⟨gb181, 1, none⟩ = some (.int .i64 0) := (blk_cell BK181.out 1).trans rfl; have hcz56_2 : w54.cell? ⟨gb181, 2, none⟩ = some (.int .i64 0) := (blk_cell BK181.out 2).trans rfl; have hfz56_0 := blk_frozen BK181.out 0; have hfz56_1 := blk_frozen BK181.out 1; have hfz56_2 := blk_frozen BK181.out 2))
              have n0_ : Aside0 (Kd.R k55 55 (((w54.setCell ⟨gb181, 0, none⟩ (.int .u64 t178)).setCell ⟨gb181, 1, none⟩ (.int .i64 t179)).setCell ⟨gb181, 2, none⟩ (.int .i64 t180)) w.heap.size (fun k_ => some k_ ≠ (v176 : Value).ownBlock) v170 t169) := ⟨by (with_reducible repeat (first | apply Kd.R_alloc | apply Kd.R_drewN | apply Kd.R_drew)); exact Kd.R_mono (Kd.R_far (p := ⟨gb181, 2, none⟩) (Kd.R_far (p := ⟨gb181, 1, none⟩) (Kd.R_far (p := ⟨gb181, 0, none⟩) (Kd.R_types HO171.out BK181.out (by decide)) (fun _ hk => hk.2) (.int .u64 t178)) (fun _ hk => hk.2) (.int .i64 t179)) (fun _ hk => hk.2) (.int .i64 t180)) (fun _ hk => hk.1.2)⟩
              have n1_ : Aside0 (Kd.R k49 49 (((w54.setCell ⟨gb181, 0, none⟩ (.int .u64 t178)).setCell ⟨gb181, 1, none⟩ (.int .i64 t179)).setCell ⟨gb181, 2, none⟩ (.int .i64 t180)) w.heap.size (fun _ => True) (.slice Ao50 t172.length co50) t172) := ⟨by (with_reducible repeat (first | apply Kd.R_alloc | apply Kd.R_drewN | apply Kd.R_drew)); exact Kd.R_mono (Kd.R_far (p := ⟨gb181, 2, none⟩) (Kd.R_far (p := ⟨gb181, 1, none⟩) (Kd.R_far (p := ⟨gb181, 0, none⟩) (Kd.R_types HO174.out BK181.out (by decide)) (fun _ hk => hk.2) (.int .u64 t178)) (fun _ hk => hk.2) (.int .i64 t179)) (fun _ hk => hk.2) (.int .i64 t180)) (fun _ hk => trivial)⟩
              have n2_ : Aside0 (Kd.R k55 55 (((w54.setCell ⟨gb181, 0, none⟩ (.int .u64 t178)).setCell ⟨gb181, 1, none⟩ (.int .i64 t179)).setCell ⟨gb181, 2, none⟩ (.int .i64 t180)) w.heap.size (fun k_ => some k_ ≠ (v170 : Value).ownBlock) v176 t175) := ⟨by (with_reducible repeat (first | apply Kd.R_alloc | apply Kd.R_drewN | apply Kd.R_drew)); exact Kd.R_mono (Kd.R_far (p := ⟨gb181, 2, none⟩) (Kd.R_far (p := ⟨gb181, 1, none⟩) (Kd.R_far (p := ⟨gb181, 0, none⟩) (Kd.R_types HO177.out BK181.out (by decide)) (fun _ hk => hk.2) (.int .u64 t178)) (fun _ hk => hk.2) (.int .i64 t179)) (fun _ hk => hk.2) (.int .i64 t180)) (fun _ hk => hk.1.2)⟩
              have n3_ : Aside0 ((((w54.setCell ⟨gb181, 0, none⟩ (.int .u64 t178)).setCell ⟨gb181, 1, none⟩ (.int .i64 t179)).setCell ⟨gb181, 2, none⟩ (.int .i64 t180)).heap[gb167]? = some (.cells #[.int .u64 a0_0, .int .i64 a0_1, .int .i64 a0_2, .int .i64 a0_3, .slice A0_4 l0_4.length c0_4, .int .u64 a0_5, .bool a0_6] 44 (0, 0))) := ⟨by (with_reducible repeat (first | refine blk_drewN ?_ _ | refine blk_drew ?_ | refine blk_alloc ?_ _)); refine blk_far ?_ NB167_181.out _; (with_reducible repeat (first | refine blk_drewN ?_ _ | refine blk_drew ?_ | refine blk_alloc ?_ _)); refine blk_far ?_ NB167_181.out _; (with_reducible repeat (first | refine blk_drewN ?_ _ | refine blk_drew ?_ | refine blk_alloc ?_ _)); refine blk_far ?_ NB167_181.out _; (with_reducible repeat (first | refine blk_drewN ?_ _ | refine blk_drew ?_ | refine blk_alloc ?_ _)); exact BK167.out⟩
              have n4_ : Aside0 ((((w54.setCell ⟨gb181, 0, none⟩ (.int .u64 t178)).setCell ⟨gb181, 1, none⟩ (.int .i64 t179)).setCell ⟨gb181, 2, none⟩ (.int .i64 t180)).heap[gb181]? = some (.cells #[.int .u64 t178, .int .i64 t179, .int .i64 t180] 29 (0, 0))) := ⟨by (with_reducible repeat (first | refine blk_drewN ?_ _ | refine blk_drew ?_ | refine blk_alloc ?_ _)); refine blk_put (cs := #[.int .u64 t178, .int .i64 t179, .int .i64 0]) ?_ 2 _ rfl; (with_reducible repeat (first | refine blk_drewN ?_ _ | refine blk_drew ?_ | refine blk_alloc ?_ _)); refine blk_put (cs := #[.int .u64 t178, .int .i64 0, .int .i64 0]) ?_ 1 _ rfl; (with_reducible repeat (first | refine blk_drewN ?_ _ | refine blk_drew ?_ | refine blk_alloc ?_ _)); refine blk_put (cs := #[.int .u64 0, .int .i64 0, .int .i64 0]) ?_ 0 _ rfl; (with_reducible repeat (first | refine blk_drewN ?_ _ | refine blk_drew ?_ | refine blk_alloc ?_ _)); exact BK181.out⟩
              have n5_ : Aside0 (Below w.heap.size w (((w54.setCell ⟨gb181, 0, none⟩ (.int .u64 t178)).setCell ⟨gb181, 1, none⟩ (.int .i64 t179)).setCell ⟨gb181, 2, none⟩ (.int .i64 t180))) := ⟨by repeat (first | (with_reducible first | exact HB.out | apply below_alloc | apply pw_below_drewN | apply below_drew1 | refine below_set ?_ GE167.out | refine below_set ?_ GE181.out) | exact HB.out)⟩
              (try clear HO171)
              (try clear HO174)
              (try clear HO177)
              (try clear BK167)
              (try clear BK181)
              (try clear HB)
              generalize (((w54.setCell ⟨gb181, 0, none⟩ (.int .u64 t178)).setCell ⟨gb181, 1, none⟩ (.int .i64 t179)).setCell ⟨gb181, 2, none⟩ (.int .i64 t180)) = w57 at n0_ n1_ n2_ n3_ n4_ n5_ ⊢
              have HO171 := n0_
              have HO174 := n1_
              have HO177 := n2_
              have BK167 := n3_
              have BK181 := n4_
              have HB := n5_
              clear n0_ n1_ n2_ n3_ n4_ n5_
              have n0_ := Aside0.mk (Kd.R_drew HO171.out)
              have n1_ := Aside0.mk (Kd.R_drew HO174.out)
              have n2_ := Aside0.mk (Kd.R_drew HO177.out)
              have n3_ := Aside0.mk (blk_drew BK167.out)
              have n4_ := Aside0.mk (blk_drew BK181.out)
              have n5_ := Aside0.mk (below_drew1 HB.out)
              clear HO171
              clear HO174
              clear HO177
              clear BK167
              clear BK181
              clear HB
              have HO171 := n0_
              have HO174 := n1_
              have HO177 := n2_
              have BK167 := n3_
              have BK181 := n4_
              have HB := n5_
              clear n0_ n1_ n2_ n3_ n4_ n5_
              obtain ⟨Ao60, co60, eo60⟩ := Kd.R_slice HO171.out
              (first | subst eo60 | (injection eo60 with f1_ f2_ f3_; have f4_ := f1_.symm; have f5_ := f3_.symm; clear f1_ f2_ f3_; subst f4_; subst f5_))
              have q59 : ((l0_4.length : Int) : Int) ≤ ((t169.length : Int) : Int) := of_decide_eq_true (by first | (with_reducible assumption) | assumption)
              obtain ⟨i059, hi059, _, hsz59, _⟩ := info_parts info55
              have hroom59 : t169.length ≤ co60 := (Kd.R_reads' HO171.out).2.1
              have hC59 : Kd.C k55 _ Ao60 t169.length t169 := (Kd.R_reads' HO171.out).2.2
              have hcut59 := cut_to (P := Try.prog) 26 55 .i64 Try.underlying26 hi059 Ao60 t169.length co60 (l0_4.length : Int) (of_decide_eq_true (by first | (with_reducible assumption) | assumption)) q59 hroom59
              have hr59 := Kd.C_take (m := ((l0_4.length : Int) : Int).toNat) hC59 (by omega)
              have hy59 : y182.length = ((l0_4.length : Int) : Int).toNat := (by rw [Ny182.out, List.length_take]; omega)
              rw [← Ny182.out] at hr59
              rw [← hy59] at hcut59
              have HR185 := Aside0.mk hr59
              have HC185 := Aside0.mk (show y182.length ≤ co60 from by omega)
              clear hr59 hC59 hroom59 hi059 hsz59
              have KY59 := Aside0.mk hy59
              clear hy59
              have KL59 := Aside0.mk (show ((l0_4.length : Int) : Int).toNat ≤ t169.length from by omega)
              replace q59 := eq_true q59
              obtain ⟨Ao62, co62, eo62⟩ := Kd.R_slice HO177.out
              (first | subst eo62 | (injection eo62 with f1_ f2_ f3_; have f4_ := f1_.symm; have f5_ := f3_.symm; clear f1_ f2_ f3_; subst f4_; subst f5_))
              have q61 : ((l0_4.length : Int) : Int) ≤ ((t175.length : Int) : Int) := of_decide_eq_true (by first | (with_reducible assumption) | assumption)
              obtain ⟨i061, hi061, _, hsz61, _⟩ := info_parts info55
              have hroom61 : t175.length ≤ co62 := (Kd.R_reads' HO177.out).2.1
              have hC61 : Kd.C k55 _ Ao62 t175.length t175 := (Kd.R_reads' HO177.out).2.2
              have hcut61 := cut_to (P := Try.prog) 26 55 .i64 Try.underlying26 hi061 Ao62 t175.length co62 (l0_4.length : Int) (of_decide_eq_true (by first | (with_reducible assumption) | assumption)) q61 hroom61
              have hr61 := Kd.C_take (m := ((l0_4.length : Int) : Int).toNat) hC61 (by omega)
              have hy61 : y187.length = ((l0_4.length : Int) : Int).toNat := (by rw [Ny187.out, List.length_take]; omega)
              rw [← Ny187.out] at hr61
              rw [← hy61] at hcut61
              have HR190 := Aside0.mk hr61
              have HC190 := Aside0.mk (show y187.length ≤ co62 from by omega)
              clear hr61 hC61 hroom61 hi061 hsz61
              have KY61 := Aside0.mk hy61
              clear hy61
              have KL61 := Aside0.mk (show ((l0_4.length : Int) : Int).toNat ≤ t175.length from by omega)
              replace q61 := eq_true q61
              refine start_ (n := 17) (S := fun w' => w'.cell? ⟨gb181, 0, none⟩ = some (.int .u64 t178) ∧ w'.cell? ⟨gb181, 1, none⟩ = some (.int .i64 t179) ∧ w'.cell? ⟨gb181, 2, none⟩ = some (.int .i64 t180) ∧ w'.cell? ⟨gb167, 0, none⟩ = some (.int .u64 a0_0) ∧ w'.cell? ⟨gb167, 1, none⟩ = some (.int .i64 a0_1) ∧ w'.cell? ⟨gb167, 2, none⟩ = some (.int .i64 a0_2) ∧ w'.cell? ⟨gb167, 3, none⟩ = some (.int .i64 a0_3) ∧ w'.cell? ⟨gb167, 4, none⟩ = some (.slice A0_4 l0_4.length c0_4) ∧ w'.cell? ⟨gb167, 5, none⟩ = some (.int .u64 a0_5) ∧ w'.cell? ⟨gb167, 6, none⟩ = some (.bool a0_6)) (ds := []) #[false, false, false, false, false, false, false, false, false, false, false, false, false, false, false, false, false] (by kernel_rfl) rfl rfl ⟨(blk_cell BK181.out 0).trans rfl, (blk_cell BK181.out 1).trans rfl, (blk_cell BK181.out 2).trans rfl, (blk_cell BK167.out 0).trans rfl, (blk_cell BK167.out 1).trans rfl, (blk_cell BK167.out 2).trans rfl, (blk_cell BK167.out 3).trans rfl, (blk_cell BK167.out 4).trans rfl, (blk_cell BK167.out 5).trans rfl, (blk_cell BK167.out 6).trans rfl⟩ (fun hHeld => ?_); refine with_tabW croftlaw11_OracleTurns.tab7 croftlaw11_OracleTurns.bits7 (fun HT_ HW_ => ?_)
              generalize w57.drew = w58 at HO171 HO174 HO177 BK167 BK181 HB HR185 HR190 hHeld ⊢
              refine pure_ (i := 1) (N := some 31) (v := ?_) (a' := ?_) #[false, true, false, false, false, false, false, false, false, false, false, false, false, false, false, false, false] rfl rfl (any_of HT_.out (by kernel_rfl)) (fun _ _ _ h => h) (Or.inl ⟨by rfl, ?_⟩) ?_ ?_
              rotate_left
              · intro w'
                go_simp
                with_reducible rfl
              rotate_left
              · simp only [Act.put, List.setIfInBounds_toArray, List.set_cons_zero, List.set_cons_succ, i64_w, i32_w]
                rfl
              refine pure_ (i := 3) (N := some 33) (v := ?_) (a' := ?_) #[false, true, false, true, false, false, false, false, false, false, false, false, false, false, false, false, false] rfl rfl (any_of HT_.out (by kernel_rfl)) (fun _ _ _ h => h) (Or.inl ⟨by rfl, ?_⟩) ?_ ?_
              rotate_left
              · intro w'
                go_simp
                with_reducible rfl
              rotate_left
              · simp only [Act.put, List.setIfInBounds_toArray, List.set_cons_zero, List.set_cons_succ, i64_w, i32_w]
                rfl
              refine pure_ (i := 4) (N := some 34) (v := ?_) (a' := ?_) #[false, true, false, true, true, false, false, false, false, false, false, false, false, false, false, false, false] rfl rfl (any_of HT_.out (by kernel_rfl)) (fun _ _ _ h => h) (Or.inl ⟨by rfl, ?_⟩) ?_ ?_
              rotate_left
              · intro w'
                go_simp
                with_reducible rfl
              rotate_left
              · simp only [Act.put, List.setIfInBounds_toArray, List.set_cons_zero, List.set_cons_succ, i64_w, i32_w]
                rfl
              refine pure_ (i := 5) (N := some 35) (v := ?_) (a' := ?_) #[false, true, false, true, true, true, false, false, false, false, false, false, false, false, false, false, false] rfl rfl (any_of HT_.out (by kernel_rfl)) (fun _ _ _ h => h) (Or.inl ⟨by rfl, ?_⟩) ?_ ?_
              rotate_left
              · intro w'
                go_simp
                with_reducible rfl
              rotate_left
              · simp only [Act.put, List.setIfInBounds_toArray, List.set_cons_zero, List.set_cons_succ, i64_w, i32_w]
                rfl
              refine pure_ (i := 9) (N := some 39) (v := ?_) (a' := ?_) #[false, true, false, true, true, true, false, false, false, true, false, false, false, false, false, false, false] rfl rfl (any_of HT_.out (by kernel_rfl)) (fun _ _ _ h => h) (Or.inl ⟨by rfl, ?_⟩) ?_ ?_
              rotate_left
              · intro w'
                go_simp
                with_reducible rfl
              rotate_left
              · simp only [Act.put, List.setIfInBounds_toArray, List.set_cons_zero, List.set_cons_succ, i64_w, i32_w]
                rfl
              refine pure_ (i := 11) (N := some 41) (v := ?_) (a' := ?_) #[false, true, false, true, true, true, false, false, false, true, false, true, false, false, false, false, false] rfl rfl (any_of HT_.out (by kernel_rfl)) (fun _ _ _ h => h) (Or.inl ⟨by rfl, ?_⟩) ?_ ?_
              rotate_left
              · intro w'
                go_simp
                with_reducible rfl
              rotate_left
              · simp only [Act.put, List.setIfInBounds_toArray, List.set_cons_zero, List.set_cons_succ, i64_w, i32_w]
                rfl
              refine pure_ (i := 12) (N := some 42) (v := ?_) (a' := ?_) #[false, true, false, true, true, true, false, false, false, true, false, true, true, false, false, false, false] rfl rfl (any_of HT_.out (by kernel_rfl)) (fun _ _ _ h => h) (Or.inl ⟨by rfl, ?_⟩) ?_ ?_
              rotate_left
              · intro w'
                go_simp
                with_reducible rfl
              rotate_left
              · simp only [Act.put, List.setIfInBounds_toArray, List.set_cons_zero, List.set_cons_succ, i64_w, i32_w]
                rfl
              refine pure_ (i := 13) (N := some 43) (v := ?_) (a' := ?_) #[false, true, false, true, true, true, false, false, false, true, false, true, true, true, false, false, false] rfl rfl (any_of HT_.out (by kernel_rfl)) (fun _ _ _ h => h) (Or.inl ⟨by rfl, ?_⟩) ?_ ?_
              rotate_left
              · intro w'
                go_simp
                with_reducible rfl
              rotate_left
              · simp only [Act.put, List.setIfInBounds_toArray, List.set_cons_zero, List.set_cons_succ, i64_w, i32_w]
                rfl
              refine take_ (i := 0) (N := some 30) (v := ?_) (a' := ?_) #[true, true, false, true, true, true, false, false, false, true, false, true, true, true, false, false, false] rfl rfl (take_ofW HT_.out HW_.out (by kernel_rfl)) (fun _ _ _ h => h) (Or.inl ⟨by rfl, ?_⟩) hHeld ?_ ?_
              rotate_left
              · rintro w' ⟨s0, s1, s2, s3, s4, s5, s6, s7, s8, s9⟩
                go_simp
                with_reducible rfl
              rotate_left
              · simp only [Act.put, List.setIfInBounds_toArray, List.set_cons_zero, List.set_cons_succ, i64_w, i32_w]
                rfl
              refine take_ (i := 2) (N := some 32) (v := ?_) (a' := ?_) #[true, true, true, true, true, true, false, false, false, true, false, true, true, true, false, false, false] rfl rfl (take_ofW HT_.out HW_.out (by kernel_rfl)) (fun _ _ _ h => h) (Or.inl ⟨by rfl, ?_⟩) hHeld ?_ ?_
              rotate_left
              · rintro w' ⟨s0, s1, s2, s3, s4, s5, s6, s7, s8, s9⟩
                go_simp
                with_reducible rfl
              rotate_left
              · simp only [Act.put, List.setIfInBounds_toArray, List.set_cons_zero, List.set_cons_succ, i64_w, i32_w]
                rfl
              refine take_ (i := 8) (N := some 38) (v := ?_) (a' := ?_) #[true, true, true, true, true, true, false, false, true, true, false, true, true, true, false, false, false] rfl rfl (take_ofW HT_.out HW_.out (by kernel_rfl)) (fun _ _ _ h => h) (Or.inl ⟨by rfl, ?_⟩) hHeld ?_ ?_
              rotate_left
              · rintro w' ⟨s0, s1, s2, s3, s4, s5, s6, s7, s8, s9⟩
                go_simp
                with_reducible rfl
              rotate_left
              · simp only [Act.put, List.setIfInBounds_toArray, List.set_cons_zero, List.set_cons_succ, i64_w, i32_w]
                rfl
              refine take_ (i := 10) (N := some 40) (v := ?_) (a' := ?_) #[true, true, true, true, true, true, false, false, true, true, true, true, true, true, false, false, false] rfl rfl (take_ofW HT_.out HW_.out (by kernel_rfl)) (fun _ _ _ h => h) (Or.inl ⟨by rfl, ?_⟩) hHeld ?_ ?_
              rotate_left
              · rintro w' ⟨s0, s1, s2, s3, s4, s5, s6, s7, s8, s9⟩
                go_simp
                with_reducible rfl
              rotate_left
              · simp only [Act.put, List.setIfInBounds_toArray, List.set_cons_zero, List.set_cons_succ, i64_w, i32_w]
                rfl
              refine one_ (i := 6) (N := some 36) #[true, true, true, true, true, true, true, false, true, true, true, true, true, true, false, false, false] rfl rfl (one_of HT_.out (by kernel_rfl)) (by decide) (fun K hK => ?_)
              refine goes_ Try.func14 (by kernel_rfl) rfl #[.agg #[.int .u64 t178, .int .i64 t179, .int .i64 t180], .int .i64 a0_3, .slice Ao60 y182.length co60] (by rfl) rfl rfl (by (try simp only [List.map_toArray, List.map_cons, List.map_nil]); first | done | rfl | (rw [show y182.length = y192.length from by rw [Ny182.out, Ny192.out]]; rfl) | (simp only [List.length_drop, List.length_take]; rfl)) ?_
              with_reducible refine (oracle_Sound.calls t178 t179 t180 a0_3 _ _ y182 t186 _ ?side1 ?side2 A11.out).mono ?_
              (case side1 => repeat (first | exact (by repeat (first | (with_reducible exact HR185.out) | (with_reducible refine Kd.C_alloc ?_ _) | (with_reducible refine Kd.C_drewN ?_ _) | (with_reducible refine Kd.C_drew ?_) | exact HR185.out)) | (with_reducible refine Kd.C_alloc ?_ _) | (with_reducible refine Kd.C_drewN ?_ _) | (with_reducible refine Kd.C_drew ?_)))
              (case side2 => exact HC185.out)
              rintro e w63 ⟨rfl, hb⟩
              refine ⟨_, rfl, ?_⟩
              have n0_ := Aside0.mk (Kd.R_below (by (with_reducible repeat (first | apply Kd.R_alloc | apply Kd.R_drewN | apply Kd.R_drew)); exact HO171.out) hb)
              have n1_ := Aside0.mk (Kd.R_below (by (with_reducible repeat (first | apply Kd.R_alloc | apply Kd.R_drewN | apply Kd.R_drew)); exact HO174.out) hb)
              have n2_ := Aside0.mk (Kd.R_below (by (with_reducible repeat (first | apply Kd.R_alloc | apply Kd.R_drewN | apply Kd.R_drew)); exact HO177.out) hb)
              have n3_ := Aside0.mk (blk_below (g := gb167) (o := .cells #[.int .u64 a0_0, .int .i64 a0_1, .int .i64 a0_2, .int .i64 a0_3, .slice A0_4 l0_4.length c0_4, .int .u64 a0_5, .bool a0_6] 44 (0, 0)) (by (with_reducible repeat (first | refine blk_drewN ?_ _ | refine blk_drew ?_ | refine blk_alloc ?_ _)); exact BK167.out) hb)
              have n4_ := Aside0.mk (blk_below (g := gb181) (o := .cells #[.int .u64 t178, .int .i64 t179, .int .i64 t180] 29 (0, 0)) (by (with_reducible repeat (first | refine blk_drewN ?_ _ | refine blk_drew ?_ | refine blk_alloc ?_ _)); exact BK181.out) hb)
              have n5_ := Aside0.mk (Kd.C_below (by repeat (first | (with_reducible exact HR185.out) | (with_reducible refine Kd.C_alloc ?_ _) | (with_reducible refine Kd.C_drewN ?_ _) | (with_reducible refine Kd.C_drew ?_) | exact HR185.out)) hb)
              have n6_ := Aside0.mk (Kd.C_below (by repeat (first | (with_reducible exact HR190.out) | (with_reducible refine Kd.C_alloc ?_ _) | (with_reducible refine Kd.C_drewN ?_ _) | (with_reducible refine Kd.C_drew ?_) | exact HR190.out)) hb)
              have n7_ := Aside0.mk (below_step (by repeat (first | (with_reducible first | exact HB.out | apply below_alloc | apply pw_below_drewN | apply below_drew1 | refine below_set ?_ GE167.out | refine below_set ?_ GE181.out) | exact HB.out)) hb)
              clear HO171
              clear HO174
              clear HO177
              clear BK167
              clear BK181
              clear HR185
              clear HR190
              clear HB
              have HO171 := n0_
              have HO174 := n1_
              have HO177 := n2_
              have BK167 := n3_
              have BK181 := n4_
              have HR185 := n5_
              have HR190 := n6_
              have HB := n7_
              clear n0_ n1_ n2_ n3_ n4_ n5_ n6_ n7_
              (try clear hb)
              (try clear hb2)
              (try clear hk)
              (try clear hi)
              refine hK.out _ _ ⟨(blk_cell BK181.out 0).trans rfl, (blk_cell BK181.out 1).trans rfl, (blk_cell BK181.out 2).trans rfl, (blk_cell BK167.out 0).trans rfl, (blk_cell BK167.out 1).trans rfl, (blk_cell BK167.out 2).trans rfl, (blk_cell BK167.out 3).trans rfl, (blk_cell BK167.out 4).trans rfl, (blk_cell BK167.out 5).trans rfl, (blk_cell BK167.out 6).trans rfl⟩ (fun hHeld => ?_)
              clear hK K
              refine norm_ (a' := ?_) ?_ ?_
              rotate_left
              · show Act.put _ (some 36) _ = _
                simp only [Act.put, List.setIfInBounds_toArray, List.set_cons_zero, List.set_cons_succ, i64_w, i32_w]
                rfl
              refine pure_ (i := 7) (N := some 37) (v := ?_) (a' := ?_) #[true, true, true, true, true, true, true, true, true, true, true, true, true, true, false, false, false] rfl rfl (any_of HT_.out (by kernel_rfl)) (fun _ _ _ h => h) (Or.inl ⟨by rfl, ?_⟩) ?_ ?_
              rotate_left
              · intro w'
                go_simp
                with_reducible rfl
              rotate_left
              · simp only [Act.put, List.setIfInBounds_toArray, List.set_cons_zero, List.set_cons_succ, i64_w, i32_w]
                rfl
              refine one_ (i := 14) (N := some 44) #[true, true, true, true, true, true, true, true, true, true, true, true, true, true, true, false, false] rfl rfl (one_of HT_.out (by kernel_rfl)) (by decide) (fun K hK => ?_)
              refine goes_ Try.func14 (by kernel_rfl) rfl #[.agg #[.int .u64 t178, .int .i64 t179, .int .i64 t180], .int .i64 a0_3, .slice Ao62 y187.length co62] (by rfl) rfl rfl (by (try simp only [List.map_toArray, List.map_cons, List.map_nil]); first | done | rfl | (rw [show y187.length = y197.length from by rw [Ny187.out, Ny197.out]]; rfl) | (simp only [List.length_drop, List.length_take]; rfl)) ?_
              with_reducible refine (oracle_Sound.calls t178 t179 t180 a0_3 _ _ y187 t191 _ ?side1 ?side2 A14.out).mono ?_
              (case side1 => repeat (first | exact (by repeat (first | (with_reducible exact HR190.out) | (with_reducible refine Kd.C_alloc ?_ _) | (with_reducible refine Kd.C_drewN ?_ _) | (with_reducible refine Kd.C_drew ?_) | exact HR190.out)) | (with_reducible refine Kd.C_alloc ?_ _) | (with_reducible refine Kd.C_drewN ?_ _) | (with_reducible refine Kd.C_drew ?_)))
              (case side2 => exact HC190.out)
              rintro e w64 ⟨rfl, hb⟩
              refine ⟨_, rfl, ?_⟩
              have n0_ := Aside0.mk (Kd.R_below (by (with_reducible repeat (first | apply Kd.R_alloc | apply Kd.R_drewN | apply Kd.R_drew)); exact HO171.out) hb)
              have n1_ := Aside0.mk (Kd.R_below (by (with_reducible repeat (first | apply Kd.R_alloc | apply Kd.R_drewN | apply Kd.R_drew)); exact HO174.out) hb)
              have n2_ := Aside0.mk (Kd.R_below (by (with_reducible repeat (first | apply Kd.R_alloc | apply Kd.R_drewN | apply Kd.R_drew)); exact HO177.out) hb)
              have n3_ := Aside0.mk (blk_below (g := gb167) (o := .cells #[.int .u64 a0_0, .int .i64 a0_1, .int .i64 a0_2, .int .i64 a0_3, .slice A0_4 l0_4.length c0_4, .int .u64 a0_5, .bool a0_6] 44 (0, 0)) (by (with_reducible repeat (first | refine blk_drewN ?_ _ | refine blk_drew ?_ | refine blk_alloc ?_ _)); exact BK167.out) hb)
              have n4_ := Aside0.mk (blk_below (g := gb181) (o := .cells #[.int .u64 t178, .int .i64 t179, .int .i64 t180] 29 (0, 0)) (by (with_reducible repeat (first | refine blk_drewN ?_ _ | refine blk_drew ?_ | refine blk_alloc ?_ _)); exact BK181.out) hb)
              have n5_ := Aside0.mk (Kd.C_below (by repeat (first | (with_reducible exact HR185.out) | (with_reducible refine Kd.C_alloc ?_ _) | (with_reducible refine Kd.C_drewN ?_ _) | (with_reducible refine Kd.C_drew ?_) | exact HR185.out)) hb)
              have n6_ := Aside0.mk (Kd.C_below (by repeat (first | (with_reducible exact HR190.out) | (with_reducible refine Kd.C_alloc ?_ _) | (with_reducible refine Kd.C_drewN ?_ _) | (with_reducible refine Kd.C_drew ?_) | exact HR190.out)) hb)
              have n7_ := Aside0.mk (below_step (by repeat (first | (with_reducible first | exact HB.out | apply below_alloc | apply pw_below_drewN | apply below_drew1 | refine below_set ?_ GE167.out | refine below_set ?_ GE181.out) | exact HB.out)) hb)
              clear HO171
              clear HO174
              clear HO177
              clear BK167
              clear BK181
              clear HR185
              clear HR190
              clear HB
              have HO171 := n0_
              have HO174 := n1_
              have HO177 := n2_
              have BK167 := n3_
              have BK181 := n4_
              have HR185 := n5_
              have HR190 := n6_
              have HB := n7_
              clear n0_ n1_ n2_ n3_ n4_ n5_ n6_ n7_
              (try clear hb)
              (try clear hb2)
              (try clear hk)
              (try clear hi)
              refine hK.out _ _ ⟨(blk_cell BK181.out 0).trans rfl, (blk_cell BK181.out 1).trans rfl, (blk_cell BK181.out 2).trans rfl, (blk_cell BK167.out 0).trans rfl, (blk_cell BK167.out 1).trans rfl, (blk_cell BK167.out 2).trans rfl, (blk_cell BK167.out 3).trans rfl, (blk_cell BK167.out 4).trans rfl, (blk_cell BK167.out 5).trans rfl, (blk_cell BK167.out 6).trans rfl⟩ (fun hHeld => ?_)
              clear hK K
              refine norm_ (a' := ?_) ?_ ?_
              rotate_left
              · show Act.put _ (some 44) _ = _
                simp only [Act.put, List.setIfInBounds_toArray, List.set_cons_zero, List.set_cons_succ, i64_w, i32_w]
                rfl
              refine pure_ (i := 15) (N := some 45) (v := ?_) (a' := ?_) #[true, true, true, true, true, true, true, true, true, true, true, true, true, true, true, true, false] rfl rfl (any_of HT_.out (by kernel_rfl)) (fun _ _ _ h => h) (Or.inl ⟨by rfl, ?_⟩) ?_ ?_
              rotate_left
              · intro w'
                go_simp
                with_reducible rfl
              rotate_left
              · simp only [Act.put, List.setIfInBounds_toArray, List.set_cons_zero, List.set_cons_succ, i64_w, i32_w]
                rfl
              refine pure_ (i := 16) (N := some 46) (v := ?_) (a' := ?_) #[true, true, true, true, true, true, true, true, true, true, true, true, true, true, true, true, true] rfl rfl (any_of HT_.out (by kernel_rfl)) (fun _ _ _ h => h) (Or.inl ⟨by rfl, ?_⟩) ?_ ?_
              rotate_left
              · intro w'
                go_simp
                with_reducible rfl
              rotate_left
              · simp only [Act.put, List.setIfInBounds_toArray, List.set_cons_zero, List.set_cons_succ, i64_w, i32_w]
                rfl
              refine done_ (done_of HT_.out (by kernel_rfl)) ?_
              try go_wp2
              have n0_ := Aside0.mk (Kd.R_drew HO171.out)
              have n1_ := Aside0.mk (Kd.R_drew HO174.out)
              have n2_ := Aside0.mk (Kd.R_drew HO177.out)
              have n3_ := Aside0.mk (blk_drew BK167.out)
              have n4_ := Aside0.mk (blk_drew BK181.out)
              have n5_ := Aside0.mk (Kd.C_drew HR185.out)
              have n6_ := Aside0.mk (Kd.C_drew HR190.out)
              have n7_ := Aside0.mk (below_drew1 HB.out)
              clear HO171
              clear HO174
              clear HO177
              clear BK167
              clear BK181
              clear HR185
              clear HR190
              clear HB
              have HO171 := n0_
              have HO174 := n1_
              have HO177 := n2_
              have BK167 := n3_
              have BK181 := n4_
              have HR185 := n5_
              have HR190 := n6_
              have HB := n7_
              clear n0_ n1_ n2_ n3_ n4_ n5_ n6_ n7_
              have q66 : ((l0_4.length : Int) : Int) ≤ ((t169.length : Int) : Int) := of_decide_eq_true (by first | (with_reducible assumption) | assumption)
              obtain ⟨i066, hi066, _, hsz66, _⟩ := info_parts info55
              have hroom66 : t169.length ≤ co60 := (Kd.R_reads' HO171.out).2.1
              have hC66 : Kd.C k55 _ Ao60 t169.length t169 := (Kd.R_reads' HO171.out).2.2
              have hcut66 := cut_to (P := Try.prog) 26 55 .i64 Try.underlying26 hi066 Ao60 t169.length co60 (l0_4.length : Int) (of_decide_eq_true (by first | (with_reducible assumption) | assumption)) q66 hroom66
              have hr66 := Kd.C_take (m := ((l0_4.length : Int) : Int).toNat) hC66 (by omega)
              have hy66 : y192.length = ((l0_4.length : Int) : Int).toNat := (by rw [Ny192.out, List.length_take]; omega)
              rw [← Ny192.out] at hr66
              rw [← hy66] at hcut66
              have HR195 := Aside0.mk hr66
              have HC195 := Aside0.mk (show y192.length ≤ co60 from by omega)
              clear hr66 hC66 hroom66 hi066 hsz66
              have KY66 := Aside0.mk hy66
              clear hy66
              have KL66 := Aside0.mk (show ((l0_4.length : Int) : Int).toNat ≤ t169.length from by omega)
              replace q66 := eq_true q66
              have q67 : ((l0_4.length : Int) : Int) ≤ ((t175.length : Int) : Int) := of_decide_eq_true (by first | (with_reducible assumption) | assumption)
              obtain ⟨i067, hi067, _, hsz67, _⟩ := info_parts info55
              have hroom67 : t175.length ≤ co62 := (Kd.R_reads' HO177.out).2.1
              have hC67 : Kd.C k55 _ Ao62 t175.length t175 := (Kd.R_reads' HO177.out).2.2
              have hcut67 := cut_to (P := Try.prog) 26 55 .i64 Try.underlying26 hi067 Ao62 t175.length co62 (l0_4.length : Int) (of_decide_eq_true (by first | (with_reducible assumption) | assumption)) q67 hroom67
              have hr67 := Kd.C_take (m := ((l0_4.length : Int) : Int).toNat) hC67 (by omega)
              have hy67 : y197.length = ((l0_4.length : Int) : Int).toNat := (by rw [Ny197.out, List.length_take]; omega)
              rw [← Ny197.out] at hr67
              rw [← hy67] at hcut67
              have HR200 := Aside0.mk hr67
              have HC200 := Aside0.mk (show y197.length ≤ co62 from by omega)
              clear hr67 hC67 hroom67 hi067 hsz67
              have KY67 := Aside0.mk hy67
              clear hy67
              have KL67 := Aside0.mk (show ((l0_4.length : Int) : Int).toNat ≤ t175.length from by omega)
              replace q67 := eq_true q67
              refine start_ (n := 19) (S := fun w' => w'.cell? ⟨gb181, 0, none⟩ = some (.int .u64 t178) ∧ w'.cell? ⟨gb181, 1, none⟩ = some (.int .i64 t179) ∧ w'.cell? ⟨gb181, 2, none⟩ = some (.int .i64 t180) ∧ w'.cell? ⟨gb167, 0, none⟩ = some (.int .u64 a0_0) ∧ w'.cell? ⟨gb167, 1, none⟩ = some (.int .i64 a0_1) ∧ w'.cell? ⟨gb167, 2, none⟩ = some (.int .i64 a0_2) ∧ w'.cell? ⟨gb167, 3, none⟩ = some (.int .i64 a0_3) ∧ w'.cell? ⟨gb167, 4, none⟩ = some (.slice A0_4 l0_4.length c0_4) ∧ w'.cell? ⟨gb167, 5, none⟩ = some (.int .u64 a0_5) ∧ w'.cell? ⟨gb167, 6, none⟩ = some (.bool a0_6)) (ds := []) #[false, false, false, false, false, false, false, false, false, false, false, false, false, false, false, false, false, false, false] (by kernel_rfl) rfl rfl ⟨(blk_cell BK181.out 0).trans rfl, (blk_cell BK181.out 1).trans rfl, (blk_cell BK181.out 2).trans rfl, (blk_cell BK167.out 0).trans rfl, (blk_cell BK167.out 1).trans rfl, (blk_cell BK167.out 2).trans rfl, (blk_cell BK167.out 3).trans rfl, (blk_cell BK167.out 4).trans rfl, (blk_cell BK167.out 5).trans rfl, (blk_cell BK167.out 6).trans rfl⟩ (fun hHeld => ?_); refine with_tabW croftlaw11_OracleTurns.tab9 croftlaw11_OracleTurns.bits9 (fun HT_ HW_ => ?_)
              generalize w64.drew = w65 at HO171 HO174 HO177 BK167 BK181 HR185 HR190 HB HR195 HR200 hHeld ⊢
              refine pure_ (i := 1) (N := some 48) (v := ?_) (a' := ?_) #[false, true, false, false, false, false, false, false, false, false, false, false, false, false, false, false, false, false, false] rfl rfl (any_of HT_.out (by kernel_rfl)) (fun _ _ _ h => h) (Or.inl ⟨by rfl, ?_⟩) ?_ ?_
              rotate_left
              · intro w'
                go_simp
                with_reducible rfl
              rotate_left
              · simp only [Act.put, List.setIfInBounds_toArray, List.set_cons_zero, List.set_cons_succ, i64_w, i32_w]
                rfl
              refine pure_ (i := 3) (N := some 50) (v := ?_) (a' := ?_) #[false, true, false, true, false, false, false, false, false, false, false, false, false, false, false, false, false, false, false] rfl rfl (any_of HT_.out (by kernel_rfl)) (fun _ _ _ h => h) (Or.inl ⟨by rfl, ?_⟩) ?_ ?_
              rotate_left
              · intro w'
                go_simp
                with_reducible rfl
              rotate_left
              · simp only [Act.put, List.setIfInBounds_toArray, List.set_cons_zero, List.set_cons_succ, i64_w, i32_w]
                rfl
              refine pure_ (i := 4) (N := some 51) (v := ?_) (a' := ?_) #[false, true, false, true, true, false, false, false, false, false, false, false, false, false, false, false, false, false, false] rfl rfl (any_of HT_.out (by kernel_rfl)) (fun _ _ _ h => h) (Or.inl ⟨by rfl, ?_⟩) ?_ ?_
              rotate_left
              · intro w'
                go_simp
                with_reducible rfl
              rotate_left
              · simp only [Act.put, List.setIfInBounds_toArray, List.set_cons_zero, List.set_cons_succ, i64_w, i32_w]
                rfl
              refine pure_ (i := 5) (N := some 52) (v := ?_) (a' := ?_) #[false, true, false, true, true, true, false, false, false, false, false, false, false, false, false, false, false, false, false] rfl rfl (any_of HT_.out (by kernel_rfl)) (fun _ _ _ h => h) (Or.inl ⟨by rfl, ?_⟩) ?_ ?_
              rotate_left
              · intro w'
                go_simp
                with_reducible rfl
              rotate_left
              · simp only [Act.put, List.setIfInBounds_toArray, List.set_cons_zero, List.set_cons_succ, i64_w, i32_w]
                rfl
              refine pure_ (i := 6) (N := some 53) (v := ?_) (a' := ?_) #[false, true, false, true, true, true, true, false, false, false, false, false, false, false, false, false, false, false, false] rfl rfl (any_of HT_.out (by kernel_rfl)) (fun _ _ _ h => h) (Or.inl ⟨by rfl, ?_⟩) ?_ ?_
              rotate_left
              · intro w'
                go_simp
                with_reducible rfl
              rotate_left
              · simp only [Act.put, List.setIfInBounds_toArray, List.set_cons_zero, List.set_cons_succ, i64_w, i32_w]
                rfl
              refine pure_ (i := 10) (N := some 57) (v := ?_) (a' := ?_) #[false, true, false, true, true, true, true, false, false, false, true, false, false, false, false, false, false, false, false] rfl rfl (any_of HT_.out (by kernel_rfl)) (fun _ _ _ h => h) (Or.inl ⟨by rfl, ?_⟩) ?_ ?_
              rotate_left
              · intro w'
                go_simp
                with_reducible rfl
              rotate_left
              · simp only [Act.put, List.setIfInBounds_toArray, List.set_cons_zero, List.set_cons_succ, i64_w, i32_w]
                rfl
              refine pure_ (i := 12) (N := some 59) (v := ?_) (a' := ?_) #[false, true, false, true, true, true, true, false, false, false, true, false, true, false, false, false, false, false, false] rfl rfl (any_of HT_.out (by kernel_rfl)) (fun _ _ _ h => h) (Or.inl ⟨by rfl, ?_⟩) ?_ ?_
              rotate_left
              · intro w'
                go_simp
                with_reducible rfl
              rotate_left
              · simp only [Act.put, List.setIfInBounds_toArray, List.set_cons_zero, List.set_cons_succ, i64_w, i32_w]
                rfl
              refine pure_ (i := 13) (N := some 60) (v := ?_) (a' := ?_) #[false, true, false, true, true, true, true, false, false, false, true, false, true, true, false, false, false, false, false] rfl rfl (any_of HT_.out (by kernel_rfl)) (fun _ _ _ h => h) (Or.inl ⟨by rfl, ?_⟩) ?_ ?_
              rotate_left
              · intro w'
                go_simp
                with_reducible rfl
              rotate_left
              · simp only [Act.put, List.setIfInBounds_toArray, List.set_cons_zero, List.set_cons_succ, i64_w, i32_w]
                rfl
              refine pure_ (i := 14) (N := some 61) (v := ?_) (a' := ?_) #[false, true, false, true, true, true, true, false, false, false, true, false, true, true, true, false, false, false, false] rfl rfl (any_of HT_.out (by kernel_rfl)) (fun _ _ _ h => h) (Or.inl ⟨by rfl, ?_⟩) ?_ ?_
              rotate_left
              · intro w'
                go_simp
                with_reducible rfl
              rotate_left
              · simp only [Act.put, List.setIfInBounds_toArray, List.set_cons_zero, List.set_cons_succ, i64_w, i32_w]
                rfl
              refine pure_ (i := 15) (N := some 62) (v := ?_) (a' := ?_) #[false, true, false, true, true, true, true, false, false, false, true, false, true, true, true, true, false, false, false] rfl rfl (any_of HT_.out (by kernel_rfl)) (fun _ _ _ h => h) (Or.inl ⟨by rfl, ?_⟩) ?_ ?_
              rotate_left
              · intro w'
                go_simp
                with_reducible rfl
              rotate_left
              · simp only [Act.put, List.setIfInBounds_toArray, List.set_cons_zero, List.set_cons_succ, i64_w, i32_w]
                rfl
              refine take_ (i := 0) (N := some 47) (v := ?_) (a' := ?_) #[true, true, false, true, true, true, true, false, false, false, true, false, true, true, true, true, false, false, false] rfl rfl (take_ofW HT_.out HW_.out (by kernel_rfl)) (fun _ _ _ h => h) (Or.inl ⟨by rfl, ?_⟩) hHeld ?_ ?_
              rotate_left
              · rintro w' ⟨s0, s1, s2, s3, s4, s5, s6, s7, s8, s9⟩
                go_simp
                with_reducible rfl
              rotate_left
              · simp only [Act.put, List.setIfInBounds_toArray, List.set_cons_zero, List.set_cons_succ, i64_w, i32_w]
                rfl
              refine take_ (i := 2) (N := some 49) (v := ?_) (a' := ?_) #[true, true, true, true, true, true, true, false, false, false, true, false, true, true, true, true, false, false, false] rfl rfl (take_ofW HT_.out HW_.out (by kernel_rfl)) (fun _ _ _ h => h) (Or.inl ⟨by rfl, ?_⟩) hHeld ?_ ?_
              rotate_left
              · rintro w' ⟨s0, s1, s2, s3, s4, s5, s6, s7, s8, s9⟩
                go_simp
                with_reducible rfl
              rotate_left
              · simp only [Act.put, List.setIfInBounds_toArray, List.set_cons_zero, List.set_cons_succ, i64_w, i32_w]
                rfl
              refine take_ (i := 7) (N := some 54) (v := ?_) (a' := ?_) #[true, true, true, true, true, true, true, true, false, false, true, false, true, true, true, true, false, false, false] rfl rfl (take_ofW HT_.out HW_.out (by kernel_rfl)) (fun _ _ _ h => h) (Or.inl ⟨by rfl, ?_⟩) hHeld ?_ ?_
              rotate_left
              · rintro w' ⟨s0, s1, s2, s3, s4, s5, s6, s7, s8, s9⟩
                go_simp
                with_reducible rfl
              rotate_left
              · simp only [Act.put, List.setIfInBounds_toArray, List.set_cons_zero, List.set_cons_succ, i64_w, i32_w]
                rfl
              refine take_ (i := 9) (N := some 56) (v := ?_) (a' := ?_) #[true, true, true, true, true, true, true, true, false, true, true, false, true, true, true, true, false, false, false] rfl rfl (take_ofW HT_.out HW_.out (by kernel_rfl)) (fun _ _ _ h => h) (Or.inl ⟨by rfl, ?_⟩) hHeld ?_ ?_
              rotate_left
              · rintro w' ⟨s0, s1, s2, s3, s4, s5, s6, s7, s8, s9⟩
                go_simp
                with_reducible rfl
              rotate_left
              · simp only [Act.put, List.setIfInBounds_toArray, List.set_cons_zero, List.set_cons_succ, i64_w, i32_w]
                rfl
              refine take_ (i := 11) (N := some 58) (v := ?_) (a' := ?_) #[true, true, true, true, true, true, true, true, false, true, true, true, true, true, true, true, false, false, false] rfl rfl (take_ofW HT_.out HW_.out (by kernel_rfl)) (fun _ _ _ h => h) (Or.inl ⟨by rfl, ?_⟩) hHeld ?_ ?_
              rotate_left
              · rintro w' ⟨s0, s1, s2, s3, s4, s5, s6, s7, s8, s9⟩
                go_simp
                with_reducible rfl
              rotate_left
              · simp only [Act.put, List.setIfInBounds_toArray, List.set_cons_zero, List.set_cons_succ, i64_w, i32_w]
                rfl
              refine take_ (i := 16) (N := some 63) (v := ?_) (a' := ?_) #[true, true, true, true, true, true, true, true, false, true, true, true, true, true, true, true, true, false, false] rfl rfl (take_ofW HT_.out HW_.out (by kernel_rfl)) (fun _ _ _ h => h) (Or.inl ⟨by rfl, ?_⟩) hHeld ?_ ?_
              rotate_left
              · rintro w' ⟨s0, s1, s2, s3, s4, s5, s6, s7, s8, s9⟩
                go_simp
                with_reducible rfl
              rotate_left
              · simp only [Act.put, List.setIfInBounds_toArray, List.set_cons_zero, List.set_cons_succ, i64_w, i32_w]
                rfl
              refine one_ (i := 8) (N := some 55) #[true, true, true, true, true, true, true, true, true, true, true, true, true, true, true, true, true, false, false] rfl rfl (one_of HT_.out (by kernel_rfl)) (by decide) (fun K hK => ?_)
              refine goes_ Try.func23 (by kernel_rfl) rfl #[.agg #[.int .u64 t178, .int .i64 t179, .int .i64 t180], .int .i64 a0_3, .slice Ao60 y192.length co60, .int .u64 a0_5] (by rfl) rfl rfl (by (try simp only [List.map_toArray, List.map_cons, List.map_nil]); first | done | rfl | (rw [show y192.length = y182.length from by rw [Ny192.out, Ny182.out]]; rfl) | (simp only [List.length_drop, List.length_take]; rfl)) ?_
              with_reducible refine (oracle_NoFit.calls t178 t179 t180 a0_3 _ _ y192 a0_5 t196 _ ?side1 ?side2 A39.out).mono ?_
              (case side1 => repeat (first | exact (by repeat (first | (with_reducible exact HR195.out) | (with_reducible refine Kd.C_alloc ?_ _) | (with_reducible refine Kd.C_drewN ?_ _) | (with_reducible refine Kd.C_drew ?_) | exact HR195.out)) | (with_reducible refine Kd.C_alloc ?_ _) | (with_reducible refine Kd.C_drewN ?_ _) | (with_reducible refine Kd.C_drew ?_)))
              (case side2 => exact HC195.out)
              rintro e w68 ⟨rfl, hb⟩
              refine ⟨_, rfl, ?_⟩
              have n0_ := Aside0.mk (Kd.R_below (by (with_reducible repeat (first | apply Kd.R_alloc | apply Kd.R_drewN | apply Kd.R_drew)); exact HO171.out) hb)
              have n1_ := Aside0.mk (Kd.R_below (by (with_reducible repeat (first | apply Kd.R_alloc | apply Kd.R_drewN | apply Kd.R_drew)); exact HO174.out) hb)
              have n2_ := Aside0.mk (Kd.R_below (by (with_reducible repeat (first | apply Kd.R_alloc | apply Kd.R_drewN | apply Kd.R_drew)); exact HO177.out) hb)
              have n3_ := Aside0.mk (blk_below (g := gb167) (o := .cells #[.int .u64 a0_0, .int .i64 a0_1, .int .i64 a0_2, .int .i64 a0_3, .slice A0_4 l0_4.length c0_4, .int .u64 a0_5, .bool a0_6] 44 (0, 0)) (by (with_reducible repeat (first | refine blk_drewN ?_ _ | refine blk_drew ?_ | refine blk_alloc ?_ _)); exact BK167.out) hb)
              have n4_ := Aside0.mk (blk_below (g := gb181) (o := .cells #[.int .u64 t178, .int .i64 t179, .int .i64 t180] 29 (0, 0)) (by (with_reducible repeat (first | refine blk_drewN ?_ _ | refine blk_drew ?_ | refine blk_alloc ?_ _)); exact BK181.out) hb)
              have n5_ := Aside0.mk (Kd.C_below (by repeat (first | (with_reducible exact HR185.out) | (with_reducible refine Kd.C_alloc ?_ _) | (with_reducible refine Kd.C_drewN ?_ _) | (with_reducible refine Kd.C_drew ?_) | exact HR185.out)) hb)
              have n6_ := Aside0.mk (Kd.C_below (by repeat (first | (with_reducible exact HR190.out) | (with_reducible refine Kd.C_alloc ?_ _) | (with_reducible refine Kd.C_drewN ?_ _) | (with_reducible refine Kd.C_drew ?_) | exact HR190.out)) hb)
              have n7_ := Aside0.mk (Kd.C_below (by repeat (first | (with_reducible exact HR195.out) | (with_reducible refine Kd.C_alloc ?_ _) | (with_reducible refine Kd.C_drewN ?_ _) | (with_reducible refine Kd.C_drew ?_) | exact HR195.out)) hb)
              have n8_ := Aside0.mk (Kd.C_below (by repeat (first | (with_reducible exact HR200.out) | (with_reducible refine Kd.C_alloc ?_ _) | (with_reducible refine Kd.C_drewN ?_ _) | (with_reducible refine Kd.C_drew ?_) | exact HR200.out)) hb)
              have n9_ := Aside0.mk (below_step (by repeat (first | (with_reducible first | exact HB.out | apply below_alloc | apply pw_below_drewN | apply below_drew1 | refine below_set ?_ GE167.out | refine below_set ?_ GE181.out) | exact HB.out)) hb)
              clear HO171
              clear HO174
              clear HO177
              clear BK167
              clear BK181
              clear HR185
              clear HR190
              clear HR195
              clear HR200
              clear HB
              have HO171 := n0_
              have HO174 := n1_
              have HO177 := n2_
              have BK167 := n3_
              have BK181 := n4_
              have HR185 := n5_
              have HR190 := n6_
              have HR195 := n7_
              have HR200 := n8_
              have HB := n9_
              clear n0_ n1_ n2_ n3_ n4_ n5_ n6_ n7_ n8_ n9_
              (try clear hb)
              (try clear hb2)
              (try clear hk)
              (try clear hi)
              refine hK.out _ _ ⟨(blk_cell BK181.out 0).trans rfl, (blk_cell BK181.out 1).trans rfl, (blk_cell BK181.out 2).trans rfl, (blk_cell BK167.out 0).trans rfl, (blk_cell BK167.out 1).trans rfl, (blk_cell BK167.out 2).trans rfl, (blk_cell BK167.out 3).trans rfl, (blk_cell BK167.out 4).trans rfl, (blk_cell BK167.out 5).trans rfl, (blk_cell BK167.out 6).trans rfl⟩ (fun hHeld => ?_)
              clear hK K
              refine norm_ (a' := ?_) ?_ ?_
              rotate_left
              · show Act.put _ (some 55) _ = _
                simp only [Act.put, List.setIfInBounds_toArray, List.set_cons_zero, List.set_cons_succ, i64_w, i32_w]
                rfl
              refine one_ (i := 17) (N := some 64) #[true, true, true, true, true, true, true, true, true, true, true, true, true, true, true, true, true, true, false] rfl rfl (one_of HT_.out (by kernel_rfl)) (by decide) (fun K hK => ?_)
              refine goes_ Try.func23 (by kernel_rfl) rfl #[.agg #[.int .u64 t178, .int .i64 t179, .int .i64 t180], .int .i64 a0_3, .slice Ao62 y197.length co62, .int .u64 a0_5] (by rfl) rfl rfl (by (try simp only [List.map_toArray, List.map_cons, List.map_nil]); first | done | rfl | (rw [show y197.length = y187.length from by rw [Ny197.out, Ny187.out]]; rfl) | (simp only [List.length_drop, List.length_take]; rfl)) ?_
              with_reducible refine (oracle_NoFit.calls t178 t179 t180 a0_3 _ _ y197 a0_5 t201 _ ?side1 ?side2 A42.out).mono ?_
              (case side1 => repeat (first | exact (by repeat (first | (with_reducible exact HR200.out) | (with_reducible refine Kd.C_alloc ?_ _) | (with_reducible refine Kd.C_drewN ?_ _) | (with_reducible refine Kd.C_drew ?_) | exact HR200.out)) | (with_reducible refine Kd.C_alloc ?_ _) | (with_reducible refine Kd.C_drewN ?_ _) | (with_reducible refine Kd.C_drew ?_)))
              (case side2 => exact HC200.out)
              rintro e w69 ⟨rfl, hb⟩
              refine ⟨_, rfl, ?_⟩
              have n0_ := Aside0.mk (Kd.R_below (by (with_reducible repeat (first | apply Kd.R_alloc | apply Kd.R_drewN | apply Kd.R_drew)); exact HO171.out) hb)
              have n1_ := Aside0.mk (Kd.R_below (by (with_reducible repeat (first | apply Kd.R_alloc | apply Kd.R_drewN | apply Kd.R_drew)); exact HO174.out) hb)
              have n2_ := Aside0.mk (Kd.R_below (by (with_reducible repeat (first | apply Kd.R_alloc | apply Kd.R_drewN | apply Kd.R_drew)); exact HO177.out) hb)
              have n3_ := Aside0.mk (blk_below (g := gb167) (o := .cells #[.int .u64 a0_0, .int .i64 a0_1, .int .i64 a0_2, .int .i64 a0_3, .slice A0_4 l0_4.length c0_4, .int .u64 a0_5, .bool a0_6] 44 (0, 0)) (by (with_reducible repeat (first | refine blk_drewN ?_ _ | refine blk_drew ?_ | refine blk_alloc ?_ _)); exact BK167.out) hb)
              have n4_ := Aside0.mk (blk_below (g := gb181) (o := .cells #[.int .u64 t178, .int .i64 t179, .int .i64 t180] 29 (0, 0)) (by (with_reducible repeat (first | refine blk_drewN ?_ _ | refine blk_drew ?_ | refine blk_alloc ?_ _)); exact BK181.out) hb)
              have n5_ := Aside0.mk (Kd.C_below (by repeat (first | (with_reducible exact HR185.out) | (with_reducible refine Kd.C_alloc ?_ _) | (with_reducible refine Kd.C_drewN ?_ _) | (with_reducible refine Kd.C_drew ?_) | exact HR185.out)) hb)
              have n6_ := Aside0.mk (Kd.C_below (by repeat (first | (with_reducible exact HR190.out) | (with_reducible refine Kd.C_alloc ?_ _) | (with_reducible refine Kd.C_drewN ?_ _) | (with_reducible refine Kd.C_drew ?_) | exact HR190.out)) hb)
              have n7_ := Aside0.mk (Kd.C_below (by repeat (first | (with_reducible exact HR195.out) | (with_reducible refine Kd.C_alloc ?_ _) | (with_reducible refine Kd.C_drewN ?_ _) | (with_reducible refine Kd.C_drew ?_) | exact HR195.out)) hb)
              have n8_ := Aside0.mk (Kd.C_below (by repeat (first | (with_reducible exact HR200.out) | (with_reducible refine Kd.C_alloc ?_ _) | (with_reducible refine Kd.C_drewN ?_ _) | (with_reducible refine Kd.C_drew ?_) | exact HR200.out)) hb)
              have n9_ := Aside0.mk (below_step (by repeat (first | (with_reducible first | exact HB.out | apply below_alloc | apply pw_below_drewN | apply below_drew1 | refine below_set ?_ GE167.out | refine below_set ?_ GE181.out) | exact HB.out)) hb)
              clear HO171
              clear HO174
              clear HO177
              clear BK167
              clear BK181
              clear HR185
              clear HR190
              clear HR195
              clear HR200
              clear HB
              have HO171 := n0_
              have HO174 := n1_
              have HO177 := n2_
              have BK167 := n3_
              have BK181 := n4_
              have HR185 := n5_
              have HR190 := n6_
              have HR195 := n7_
              have HR200 := n8_
              have HB := n9_
              clear n0_ n1_ n2_ n3_ n4_ n5_ n6_ n7_ n8_ n9_
              (try clear hb)
              (try clear hb2)
              (try clear hk)
              (try clear hi)
              refine hK.out _ _ ⟨(blk_cell BK181.out 0).trans rfl, (blk_cell BK181.out 1).trans rfl, (blk_cell BK181.out 2).trans rfl, (blk_cell BK167.out 0).trans rfl, (blk_cell BK167.out 1).trans rfl, (blk_cell BK167.out 2).trans rfl, (blk_cell BK167.out 3).trans rfl, (blk_cell BK167.out 4).trans rfl, (blk_cell BK167.out 5).trans rfl, (blk_cell BK167.out 6).trans rfl⟩ (fun hHeld => ?_)
              clear hK K
              refine norm_ (a' := ?_) ?_ ?_
              rotate_left
              · show Act.put _ (some 64) _ = _
                simp only [Act.put, List.setIfInBounds_toArray, List.set_cons_zero, List.set_cons_succ, i64_w, i32_w]
                rfl
              refine pure_ (i := 18) (N := some 65) (v := ?_) (a' := ?_) #[true, true, true, true, true, true, true, true, true, true, true, true, true, true, true, true, true, true, true] rfl rfl (any_of HT_.out (by kernel_rfl)) (fun _ _ _ h => h) (Or.inl ⟨by rfl, ?_⟩) ?_ ?_
              rotate_left
              · intro w'
                go_simp
                with_reducible rfl
              rotate_left
              · simp only [Act.put, List.setIfInBounds_toArray, List.set_cons_zero, List.set_cons_succ, i64_w, i32_w]
                rfl
              refine done_ (done_of HT_.out (by kernel_rfl)) ?_
              try go_wp2
              go_ret
              exact ⟨by first | rfl | (simp [errW_none, errW_some] <;> rfl) | (simp [*, errW_none, errW_some] <;> rfl), by repeat (first | (with_reducible first | exact HB.out | apply below_alloc | apply pw_below_drewN | apply below_drew1 | refine below_set ?_ GE167.out | refine below_set ?_ GE181.out) | exact HB.out)⟩
            · rw [if_neg c43] at H
              have c43b0 : (t196 != t201) = false := by simpa using c43
              (try (have c43b1 : decide (t196 = t201) = true := by simpa using c43))
              (try (have c43b2 : (t196 == t201) = true := by simpa using c43))
              clear c43
              have c70b0 := eq_true (of_decide_eq_true (by first | (with_reducible assumption) | assumption) : 0 ≤ (l0_4.length : Int))
              have c71b0 := eq_true (of_decide_eq_true (by first | (with_reducible assumption) | assumption) : (l0_4.length : Int) ≤ (t169.length : Int))
              obtain ⟨y202, hy202⟩ : ∃ y_ : List (S55), y_ = (t169.take ((l0_4.length : Int) : Int).toNat) := ⟨_, rfl⟩
              replace H : ((oracle_Least.f t178 t179 t180 y202 l1).bind fun bt206 => (croftlaw11_OracleTurns.l0 k l1 t175 (l0_4.length : Int) bt206.1 bt206.2 ([] : List Int) (wrap64 ((l1.length : Int) - 1)) t178 t179 t180)) = some r := by first | (rw [hy202]; with_reducible exact H) | (have H2_ := (Option.bind_some _ _).symm.trans H; rw [hy202]; with_reducible exact H2_) | (have H2_ := (Option.bind_some _ _).symm.trans H; with_reducible exact H2_) | with_reducible exact H | (rw [hy202]; exact H) | exact H
              have Ny202 := Aside0.mk hy202
              clear hy202
              replace H := Option.bind_eq_some_iff.mp H
              obtain ⟨⟨t206, t207⟩, A720, H⟩ := H
              replace H : (croftlaw11_OracleTurns.l0 k l1 t175 (l0_4.length : Int) t206 t207 ([] : List Int) (wrap64 ((l1.length : Int) - 1)) t178 t179 t180) = some r := H
              have A72 := Aside0.mk A720
              clear A720
              have H' := Aside0.mk H
              clear H
              go_enter Try.func5, Try.ntmps5
              try go_wp2_with (first | ((with_reducible refine gate_dst (N := 2) rfl ?_); refine box_event ?hg (N := 2) ?hd (cs := #[.int .u64 a0_0, .int .i64 a0_1, .int .i64 a0_2, .int .i64 a0_3, .slice A0_4 l0_4.length c0_4, .int .u64 a0_5, .bool a0_6]) (t := 44) ?hr ?_; (case hd => rfl); (case hg => rfl); (case hr => first | (go_simp; done) | (go_simp; rfl)); intro gb167 hg w73 hbox hb; have n0_ := Aside0.mk (below_step (by repeat (first | (with_reducible first | exact HB.out | apply below_alloc | apply pw_below_drewN | apply below_drew1) | exact HB.out)) hb); have n1_ := Aside0.mk (hbox); have n2_ := Aside0.mk ((by rw [hg]; exact (below_size (by repeat (first | (with_reducible first | exact HB.out | apply below_alloc | apply pw_below_drewN | apply below_drew1) | exact HB.out))) : w.heap.size ≤ gb167)); have n3_ := Aside0.mk ((by rw [hg]; exact (below_size (by repeat (first | (with_reducible first | exact HB.out | apply below_alloc | apply pw_below_drewN | apply below_drew1) | exact HB.out))) : w.heap.size ≤ gb167)); clear HB; have HB := n0_; have BK167 := n1_; have GW167 := n2_; have GE167 := n3_; clear n0_ n1_ n2_ n3_; clear hb hbox hg) | ((with_reducible refine gate_callee (f := 18) rfl ?_); refine goesL_ (some 15) rfl rfl Try.func18 (by kernel_rfl) rfl #[] rfl (by (try simp only [List.map_toArray, List.map_cons, List.map_nil]); first | done | rfl | (simp only [List.length_drop, List.length_take]; rfl)) ?_; (with_reducible refine (croftlaw11_awake.calls k  true _ A3.out).mono ?_); rintro e w74 ⟨rfl, hb⟩; refine ⟨_, rfl, ?_⟩; have n0_ := Aside0.mk (blk_below (g := gb167) (o := .cells #[.int .u64 a0_0, .int .i64 a0_1, .int .i64 a0_2, .int .i64 a0_3, .slice A0_4 l0_4.length c0_4, .int .u64 a0_5, .bool a0_6] 44 (0, 0)) (by (with_reducible repeat (first | refine blk_drewN ?_ _ | refine blk_drew ?_ | refine blk_alloc ?_ _)); exact BK167.out) hb); have n1_ := Aside0.mk (below_step (by repeat (first | (with_reducible first | exact HB.out | apply below_alloc | apply pw_below_drewN | apply below_drew1 | refine below_set ?_ GE167.out) | exact HB.out)) hb); clear BK167; clear HB; have BK167 := n0_; have HB := n1_; clear n0_ n1_; (try clear hb); (try clear hb2); (try clear hk); (try clear hi); have hcz75_0 : w74.cell? ⟨gb167, 0, none⟩ = some (.int .u64 a0_0) := (blk_cell BK167.out 0).trans rfl; have hcz75_1 : w74.cell? ⟨gb167, 1, none⟩ = some (.int .i64 a0_1) := (blk_cell BK167.out 1).trans rfl; have hcz75_2 : w74.cell? ⟨gb167, 2, none⟩ = some (.int .i64 a0_2) := (blk_cell BK167.out 2).trans rfl; have hcz75_3 : w74.cell? ⟨gb167, 3, none⟩ = some (.int .i64 a0_3) := (blk_cell BK167.out 3).trans rfl; have hcz75_4 : w74.cell? ⟨gb167, 4, none⟩ = some (.slice A0_4 l0_4.length c0_4) := (blk_cell BK167.out 4).trans rfl; have hcz75_5 : w74.cell? ⟨gb167, 5, none⟩ = some (.int .u64 a0_5) := (blk_cell BK167.out 5).trans rfl; have hcz75_6 : w74.cell? ⟨gb167, 6, none⟩ = some (.bool a0_6) := (blk_cell BK167.out 6).trans rfl; have hfz75_0 := blk_frozen BK167.out 0; have hfz75_1 := blk_frozen BK167.out 1; have hfz75_2 := blk_frozen BK167.out 2; have hfz75_3 := blk_frozen BK167.out 3; have hfz75_4 := blk_frozen BK167.out 4; have hfz75_5 := blk_frozen BK167.out 5; have hfz75_6 := blk_frozen BK167.out 6) | ((with_reducible refine gate_callee (f := 13) rfl ?_); refine goesL_ (some 19) rfl rfl Try.func13 (by kernel_rfl) rfl #[.slice A0_4 l0_4.length c0_4] rfl (by (try simp only [List.map_toArray, List.map_cons, List.map_nil]); first | done | rfl | (simp only [List.length_drop, List.length_take]; rfl)) ?_; (with_reducible refine (croftlaw11_blocks.calls k _ _ l0_4 t169 _ ?side1 ?side2 A5.out).mono ?_); (case side1 => repeat (first | exact (Kd.C_below HR0_4.out HB.out) | (with_reducible refine Kd.C_alloc ?_ _) | (with_reducible refine Kd.C_drewN ?_ _) | (with_reducible refine Kd.C_drew ?_))); (case side2 => exact HC0_4.out); rintro e w76 ⟨v170, rfl, ho0, hb⟩; refine ⟨_, rfl, ?_⟩; have n0_ := Aside0.mk (Kd.R_lower ho0 (below_size (by repeat (first | (with_reducible first | exact HB.out | apply below_alloc | apply pw_below_drewN | apply below_drew1 | refine below_set ?_ GE167.out) | exact HB.out)))); have n1_ := Aside0.mk (blk_below (g := gb167) (o := .cells #[.int .u64 a0_0, .int .i64 a0_1, .int .i64 a0_2, .int .i64 a0_3, .slice A0_4 l0_4.length c0_4, .int .u64 a0_5, .bool a0_6] 44 (0, 0)) (by (with_reducible repeat (first | refine blk_drewN ?_ _ | refine blk_drew ?_ | refine blk_alloc ?_ _)); exact BK167.out) hb); have n2_ := Aside0.mk (below_step (by repeat (first | (with_reducible first | exact HB.out | apply below_alloc | apply pw_below_drewN | apply below_drew1 | refine below_set ?_ GE167.out) | exact HB.out)) hb); clear BK167; clear HB; have HO171 := n0_; have BK167 := n1_; have HB := n2_; clear n0_ n1_ n2_; (try clear hb); (try clear hb2); (try clear hk); (try clear hi); (try clear ho0); have hcz77_0 : w76.cell? ⟨gb167, 0, none⟩ = some (.int .u64 a0_0) := (blk_cell BK167.out 0).trans rfl; have hcz77_1 : w76.cell? ⟨gb167, 1, none⟩ = some (.int .i64 a0_1) := (blk_cell BK167.out 1).trans rfl; have hcz77_2 : w76.cell? ⟨gb167, 2, none⟩ = some (.int .i64 a0_2) := (blk_cell BK167.out 2).trans rfl; have hcz77_3 : w76.cell? ⟨gb167, 3, none⟩ = some (.int .i64 a0_3) := (blk_cell BK167.out 3).trans rfl; have hcz77_4 : w76.cell? ⟨gb167, 4, none⟩ = some (.slice A0_4 l0_4.length c0_4) := (blk_cell BK167.out 4).trans rfl; have hcz77_5 : w76.cell? ⟨gb167, 5, none⟩ = some (.int .u64 a0_5) := (blk_cell BK167.out 5).trans rfl; have hcz77_6 : w76.cell? ⟨gb167, 6, none⟩ = some (.bool a0_6) := (blk_cell BK167.out 6).trans rfl; have hfz77_0 := blk_frozen BK167.out 0; have hfz77_1 := blk_frozen BK167.out 1; have hfz77_2 := blk_frozen BK167.out 2; have hfz77_3 := blk_frozen BK167.out 3; have hfz77_4 := blk_frozen BK167.out 4; have hfz77_5 := blk_frozen BK167.out 5; have hfz77_6 := blk_frozen BK167.out 6) | ((with_reducible refine gate_callee (f := 22) rfl ?_); refine goesL_ (some 22) rfl rfl Try.func22 (by kernel_rfl) rfl #[.slice A0_4 l0_4.length c0_4] rfl (by (try simp only [List.map_toArray, List.map_cons, List.map_nil]); first | done | rfl | (simp only [List.length_drop, List.length_take]; rfl)) ?_; (with_reducible refine (croftlaw11_turned.calls k _ _ l0_4 t172 _ ?side1 ?side2 A6.out).mono ?_); (case side1 => repeat (first | exact (Kd.C_below HR0_4.out HB.out) | (with_reducible refine Kd.C_alloc ?_ _) | (with_reducible refine Kd.C_drewN ?_ _) | (with_reducible refine Kd.C_drew ?_))); (case side2 => exact HC0_4.out); rintro e w78 ⟨v173, rfl, ho0, hb⟩; refine ⟨_, rfl, ?_⟩; have n0_ := Aside0.mk (Kd.R_below (by (with_reducible repeat (first | apply Kd.R_alloc | apply Kd.R_drewN | apply Kd.R_drew)); exact HO171.out) hb); have n1_ := Aside0.mk (Kd.R_lower ho0 (below_size (by repeat (first | (with_reducible first | exact HB.out | apply below_alloc | apply pw_below_drewN | apply below_drew1 | refine below_set ?_ GE167.out) | exact HB.out)))); have n2_ := Aside0.mk (blk_below (g := gb167) (o := .cells #[.int .u64 a0_0, .int .i64 a0_1, .int .i64 a0_2, .int .i64 a0_3, .slice A0_4 l0_4.length c0_4, .int .u64 a0_5, .bool a0_6] 44 (0, 0)) (by (with_reducible repeat (first | refine blk_drewN ?_ _ | refine blk_drew ?_ | refine blk_alloc ?_ _)); exact BK167.out) hb); have n3_ := Aside0.mk (below_step (by repeat (first | (with_reducible first | exact HB.out | apply below_alloc | apply pw_below_drewN | apply below_drew1 | refine below_set ?_ GE167.out) | exact HB.out)) hb); clear HO171; clear BK167; clear HB; have HO171 := n0_; have HO174 := n1_; have BK167 := n2_; have HB := n3_; clear n0_ n1_ n2_ n3_; (try clear hb); (try clear hb2); (try clear hk); (try clear hi); (try clear ho0); obtain ⟨Ao79, co79, eo79⟩ := Kd.R_slice HO174.out; subst eo79) | ((with_reducible refine gate_callee (f := 13) rfl ?_); refine goesL_ (some 23) rfl rfl Try.func13 (by kernel_rfl) rfl #[.slice Ao79 t172.length co79] rfl (by (try simp only [List.map_toArray, List.map_cons, List.map_nil]); first | done | rfl | (simp only [List.length_drop, List.length_take]; rfl)) ?_; (with_reducible refine (croftlaw11_blocks.calls k _ _ t172 t175 _ ?side1 ?side2 A7.out).mono ?_); (case side1 => repeat (first | exact (Kd.R_reads' HO174.out).2.2 | (with_reducible refine Kd.C_alloc ?_ _) | (with_reducible refine Kd.C_drewN ?_ _) | (with_reducible refine Kd.C_drew ?_))); (case side2 => exact (Kd.R_reads' HO174.out).2.1); rintro e w80 ⟨v176, rfl, ho0, hb⟩; refine ⟨_, rfl, ?_⟩; have n0_ := Aside0.mk (Kd.R_elder' (by (with_reducible repeat (first | apply Kd.R_alloc | apply Kd.R_drewN | apply Kd.R_drew)); exact HO171.out) (Kd.R_base ho0) hb); have n1_ := Aside0.mk (Kd.R_below (by (with_reducible repeat (first | apply Kd.R_alloc | apply Kd.R_drewN | apply Kd.R_drew)); exact HO174.out) hb); have n2_ := Aside0.mk (Kd.R_lower (Kd.R_new' ho0 (Kd.R_lt (by (with_reducible repeat (first | apply Kd.R_alloc | apply Kd.R_drewN | apply Kd.R_drew)); exact HO171.out))) (below_size (by repeat (first | (with_reducible first | exact HB.out | apply below_alloc | apply pw_below_drewN | apply below_drew1 | refine below_set ?_ GE167.out) | exact HB.out)))); have n3_ := Aside0.mk (blk_below (g := gb167) (o := .cells #[.int .u64 a0_0, .int .i64 a0_1, .int .i64 a0_2, .int .i64 a0_3, .slice A0_4 l0_4.length c0_4, .int .u64 a0_5, .bool a0_6] 44 (0, 0)) (by (with_reducible repeat (first | refine blk_drewN ?_ _ | refine blk_drew ?_ | refine blk_alloc ?_ _)); exact BK167.out) hb); have n4_ := Aside0.mk (below_step (by repeat (first | (with_reducible first | exact HB.out | apply below_alloc | apply pw_below_drewN | apply below_drew1 | refine below_set ?_ GE167.out) | exact HB.out)) hb); clear HO171; clear HO174; clear BK167; clear HB; have HO171 := n0_; have HO174 := n1_; have HO177 := n2_; have BK167 := n3_; have HB := n4_; clear n0_ n1_ n2_ n3_ n4_; (try clear hb); (try clear hb2); (try clear hk); (try clear hi); (try clear ho0); have hcz81_0 : w80.cell? ⟨gb167, 0, none⟩ = some (.int .u64 a0_0) := (blk_cell BK167.out 0).trans rfl; have hcz81_1 : w80.cell? ⟨gb167, 1, none⟩ = some (.int .i64 a0_1) := (blk_cell BK167.out 1).trans rfl; have hcz81_2 : w80.cell? ⟨gb167, 2, none⟩ = some (.int .i64 a0_2) := (blk_cell BK167.out 2).trans rfl; have hcz81_3 : w80.cell? ⟨gb167, 3, none⟩ = some (.int .i64 a0_3) := (blk_cell BK167.out 3).trans rfl; have hcz81_4 : w80.cell? ⟨gb167, 4, none⟩ = some (.slice A0_4 l0_4.length c0_4) := (blk_cell BK167.out 4).trans rfl; have hcz81_5 : w80.cell? ⟨gb167, 5, none⟩ = some (.int .u64 a0_5) := (blk_cell BK167.out 5).trans rfl; have hcz81_6 : w80.cell? ⟨gb167, 6, none⟩ = some (.bool a0_6) := (blk_cell BK167.out 6).trans rfl; have hfz81_0 := blk_frozen BK167.out 0; have hfz81_1 := blk_frozen BK167.out 1; have hfz81_2 := blk_frozen BK167.out 2; have hfz81_3 := blk_frozen BK167.out 3; have hfz81_4 := blk_frozen BK167.out 4; have hfz81_5 := blk_frozen BK167.out 5; have hfz81_6 := blk_frozen BK167.out 6) | ((with_reducible refine gate_callee (f := 15) rfl ?_); refine goesL_ (some 29) rfl rfl Try.func15 (by kernel_rfl) rfl #[.agg #[.int .u64 a0_0, .int .i64 a0_1, .int .i64 a0_2]] rfl (by (try simp only [List.map_toArray, List.map_cons, List.map_nil]); first | done | rfl | (simp only [List.length_drop, List.length_take]; rfl)) ?_; (with_reducible refine (croftlaw11_config.calls a0_0 a0_1 a0_2 t178 t179 t180 _ A8.out).mono ?_); rintro e w82 ⟨rfl, hb⟩; refine ⟨_, rfl, ?_⟩; have n0_ := Aside0.mk (Kd.R_below (by (with_reducible repeat (first | apply Kd.R_alloc | apply Kd.R_drewN | apply Kd.R_drew)); exact HO171.out) hb); have n1_ := Aside0.mk (Kd.R_below (by (with_reducible repeat (first | apply Kd.R_alloc | apply Kd.R_drewN | apply Kd.R_drew)); exact HO174.out) hb); have n2_ := Aside0.mk (Kd.R_below (by (with_reducible repeat (first | apply Kd.R_alloc | apply Kd.R_drewN | apply Kd.R_drew)); exact HO177.out) hb); have n3_ := Aside0.mk (blk_below (g := gb167) (o := .cells #[.int .u64 a0_0, .int .i64 a0_1, .int .i64 a0_2, .int .i64 a0_3, .slice A0_4 l0_4.length c0_4, .int .u64 a0_5, .bool a0_6] 44 (0, 0)) (by (with_reducible repeat (first | refine blk_drewN ?_ _ | refine blk_drew ?_ | refine blk_alloc ?_ _)); exact BK167.out) hb); have n4_ := Aside0.mk (below_step (by repeat (first | (with_reducible first | exact HB.out | apply below_alloc | apply pw_below_drewN | apply below_drew1 | refine below_set ?_ GE167.out) | exact HB.out)) hb); clear HO171; clear HO174; clear HO177; clear BK167; clear HB; have HO171 := n0_; have HO174 := n1_; have HO177 := n2_; have BK167 := n3_; have HB := n4_; clear n0_ n1_ n2_ n3_ n4_; (try clear hb); (try clear hb2); (try clear hk); (try clear hi)) | ((with_reducible refine gate_dst (N := 8) rfl ?_); refine box_event ?hg (N := 8) ?hd (cs := #[.int .u64 0, .int .i64 0, .int .i64 0]) (t := 29) ?hr ?_; (case hd => rfl); (case hg => rfl); (case hr => first | (go_simp; done) | (go_simp; rfl)); intro gb181 hg w83 hbox hb; have n0_ := Aside0.mk (Kd.R_below (by (with_reducible repeat (first | apply Kd.R_alloc | apply Kd.R_drewN | apply Kd.R_drew)); exact HO171.out) hb); have n1_ := Aside0.mk (Kd.R_below (by (with_reducible repeat (first | apply Kd.R_alloc | apply Kd.R_drewN | apply Kd.R_drew)); exact HO174.out) hb); have n2_ := Aside0.mk (Kd.R_below (by (with_reducible repeat (first | apply Kd.R_alloc | apply Kd.R_drewN | apply Kd.R_drew)); exact HO177.out) hb); have n3_ := Aside0.mk (blk_below (g := gb167) (o := .cells #[.int .u64 a0_0, .int .i64 a0_1, .int .i64 a0_2, .int .i64 a0_3, .slice A0_4 l0_4.length c0_4, .int .u64 a0_5, .bool a0_6] 44 (0, 0)) (by (with_reducible repeat (first | refine blk_drewN ?_ _ | refine blk_drew ?_ | refine blk_alloc ?_ _)); exact BK167.out) hb); have n4_ := Aside0.mk (below_step (by repeat (first | (with_reducible first | exact HB.out | apply below_alloc | apply pw_below_drewN | apply below_drew1 | refine below_set ?_ GE167.out) | exact HB.out)) hb); have n5_ := Aside0.mk (hbox); have n6_ := Aside0.mk ((by rw [hg]; exact (below_size (by repeat (first | (with_reducible first | exact HB.out | apply below_alloc | apply pw_below_drewN | apply below_drew1 | refine below_set ?_ GE167.out) | exact HB.out))) : w.heap.size ≤ gb181)); have n7_ := Aside0.mk ((by rw [hg]; exact (below_size (by repeat (first | (with_reducible first | exact HB.out | apply below_alloc | apply pw_below_drewN | apply below_drew1 | refine below_set ?_ GE167.out) | exact HB.out))) : w.heap.size ≤ gb181)); have n8_ := Aside0.mk ((by rw [hg]; exact Nat.ne_of_lt (blk_lt (g := gb167) (o := .cells #[.int .u64 a0_0, .int .i64 a0_1, .int .i64 a0_2, .int .i64 a0_3, .slice A0_4 l0_4.length c0_4, .int .u64 a0_5, .bool a0_6] 44 (0, 0)) (by (with_reducible repeat (first | refine blk_drewN ?_ _ | refine blk_drew ?_ | refine blk_alloc ?_ _)); exact BK167.out)) : gb167 ≠ gb181)); have n9_ := Aside0.mk ((by rw [hg]; exact Nat.ne_of_gt (blk_lt (g := gb167) (o := .cells #[.int .u64 a0_0, .int .i64 a0_1, .int .i64 a0_2, .int .i64 a0_3, .slice A0_4 l0_4.length c0_4, .int .u64 a0_5, .bool a0_6] 44 (0, 0)) (by (with_reducible repeat (first | refine blk_drewN ?_ _ | refine blk_drew ?_ | refine blk_alloc ?_ _)); exact BK167.out)) : gb181 ≠ gb167)); clear HO171; clear HO174; clear HO177; clear BK167; clear HB; have HO171 := n0_; have HO174 := n1_; have HO177 := n2_; have BK167 := n3_; have HB := n4_; have BK181 := n5_; have GW181 := n6_; have GE181 := n7_; have NB167_181 := n8_; have NB181_167 := n9_; clear n0_ n1_ n2_ n3_ n4_ n5_ n6_ n7_ n8_ n9_; clear hb hbox hg; have hnb84 := NB181_167.out; have hnc84 := NB167_181.out; have hcz85_0 : w83.cell? ⟨gb181, 0, none⟩ = some (.int .u64 0) := (blk_cell BK181.out 0).trans rfl; have hcz85_1 : w83.cell? ⟨gb181, 1, none⟩ = some (.int .i64 0) := (blk_cell BK181.out 1).trans rfl; have hcz85_2 : w83.cell? ⟨gb181, 2, none⟩ = some (.int .i64 0) := (blk_cell BK181.out 2).trans rfl; have hfz85_0 := blk_frozen BK181.out 0; have hfz85_1 := blk_frozen BK181.out 1; have hfz85_2 := blk_frozen BK181.out 2))
              have n0_ : Aside0 (Kd.R k55 55 (((w83.setCell ⟨gb181, 0, none⟩ (.int .u64 t178)).setCell ⟨gb181, 1, none⟩ (.int .i64 t179)).setCell ⟨gb181, 2, none⟩ (.int .i64 t180)) w.heap.size (fun k_ => some k_ ≠ (v176 : Value).ownBlock) v170 t169) := ⟨by (with_reducible repeat (first | apply Kd.R_alloc | apply Kd.R_drewN | apply Kd.R_drew)); exact Kd.R_mono (Kd.R_far (p := ⟨gb181, 2, none⟩) (Kd.R_far (p := ⟨gb181, 1, none⟩) (Kd.R_far (p := ⟨gb181, 0, none⟩) (Kd.R_types HO171.out BK181.out (by decide)) (fun _ hk => hk.2) (.int .u64 t178)) (fun _ hk => hk.2) (.int .i64 t179)) (fun _ hk => hk.2) (.int .i64 t180)) (fun _ hk => hk.1.2)⟩
              have n1_ : Aside0 (Kd.R k49 49 (((w83.setCell ⟨gb181, 0, none⟩ (.int .u64 t178)).setCell ⟨gb181, 1, none⟩ (.int .i64 t179)).setCell ⟨gb181, 2, none⟩ (.int .i64 t180)) w.heap.size (fun _ => True) (.slice Ao79 t172.length co79) t172) := ⟨by (with_reducible repeat (first | apply Kd.R_alloc | apply Kd.R_drewN | apply Kd.R_drew)); exact Kd.R_mono (Kd.R_far (p := ⟨gb181, 2, none⟩) (Kd.R_far (p := ⟨gb181, 1, none⟩) (Kd.R_far (p := ⟨gb181, 0, none⟩) (Kd.R_types HO174.out BK181.out (by decide)) (fun _ hk => hk.2) (.int .u64 t178)) (fun _ hk => hk.2) (.int .i64 t179)) (fun _ hk => hk.2) (.int .i64 t180)) (fun _ hk => trivial)⟩
              have n2_ : Aside0 (Kd.R k55 55 (((w83.setCell ⟨gb181, 0, none⟩ (.int .u64 t178)).setCell ⟨gb181, 1, none⟩ (.int .i64 t179)).setCell ⟨gb181, 2, none⟩ (.int .i64 t180)) w.heap.size (fun k_ => some k_ ≠ (v170 : Value).ownBlock) v176 t175) := ⟨by (with_reducible repeat (first | apply Kd.R_alloc | apply Kd.R_drewN | apply Kd.R_drew)); exact Kd.R_mono (Kd.R_far (p := ⟨gb181, 2, none⟩) (Kd.R_far (p := ⟨gb181, 1, none⟩) (Kd.R_far (p := ⟨gb181, 0, none⟩) (Kd.R_types HO177.out BK181.out (by decide)) (fun _ hk => hk.2) (.int .u64 t178)) (fun _ hk => hk.2) (.int .i64 t179)) (fun _ hk => hk.2) (.int .i64 t180)) (fun _ hk => hk.1.2)⟩
              have n3_ : Aside0 ((((w83.setCell ⟨gb181, 0, none⟩ (.int .u64 t178)).setCell ⟨gb181, 1, none⟩ (.int .i64 t179)).setCell ⟨gb181, 2, none⟩ (.int .i64 t180)).heap[gb167]? = some (.cells #[.int .u64 a0_0, .int .i64 a0_1, .int .i64 a0_2, .int .i64 a0_3, .slice A0_4 l0_4.length c0_4, .int .u64 a0_5, .bool a0_6] 44 (0, 0))) := ⟨by (with_reducible repeat (first | refine blk_drewN ?_ _ | refine blk_drew ?_ | refine blk_alloc ?_ _)); refine blk_far ?_ NB167_181.out _; (with_reducible repeat (first | refine blk_drewN ?_ _ | refine blk_drew ?_ | refine blk_alloc ?_ _)); refine blk_far ?_ NB167_181.out _; (with_reducible repeat (first | refine blk_drewN ?_ _ | refine blk_drew ?_ | refine blk_alloc ?_ _)); refine blk_far ?_ NB167_181.out _; (with_reducible repeat (first | refine blk_drewN ?_ _ | refine blk_drew ?_ | refine blk_alloc ?_ _)); exact BK167.out⟩
              have n4_ : Aside0 ((((w83.setCell ⟨gb181, 0, none⟩ (.int .u64 t178)).setCell ⟨gb181, 1, none⟩ (.int .i64 t179)).setCell ⟨gb181, 2, none⟩ (.int .i64 t180)).heap[gb181]? = some (.cells #[.int .u64 t178, .int .i64 t179, .int .i64 t180] 29 (0, 0))) := ⟨by (with_reducible repeat (first | refine blk_drewN ?_ _ | refine blk_drew ?_ | refine blk_alloc ?_ _)); refine blk_put (cs := #[.int .u64 t178, .int .i64 t179, .int .i64 0]) ?_ 2 _ rfl; (with_reducible repeat (first | refine blk_drewN ?_ _ | refine blk_drew ?_ | refine blk_alloc ?_ _)); refine blk_put (cs := #[.int .u64 t178, .int .i64 0, .int .i64 0]) ?_ 1 _ rfl; (with_reducible repeat (first | refine blk_drewN ?_ _ | refine blk_drew ?_ | refine blk_alloc ?_ _)); refine blk_put (cs := #[.int .u64 0, .int .i64 0, .int .i64 0]) ?_ 0 _ rfl; (with_reducible repeat (first | refine blk_drewN ?_ _ | refine blk_drew ?_ | refine blk_alloc ?_ _)); exact BK181.out⟩
              have n5_ : Aside0 (Below w.heap.size w (((w83.setCell ⟨gb181, 0, none⟩ (.int .u64 t178)).setCell ⟨gb181, 1, none⟩ (.int .i64 t179)).setCell ⟨gb181, 2, none⟩ (.int .i64 t180))) := ⟨by repeat (first | (with_reducible first | exact HB.out | apply below_alloc | apply pw_below_drewN | apply below_drew1 | refine below_set ?_ GE167.out | refine below_set ?_ GE181.out) | exact HB.out)⟩
              (try clear HO171)
              (try clear HO174)
              (try clear HO177)
              (try clear BK167)
              (try clear BK181)
              (try clear HB)
              generalize (((w83.setCell ⟨gb181, 0, none⟩ (.int .u64 t178)).setCell ⟨gb181, 1, none⟩ (.int .i64 t179)).setCell ⟨gb181, 2, none⟩ (.int .i64 t180)) = w86 at n0_ n1_ n2_ n3_ n4_ n5_ ⊢
              have HO171 := n0_
              have HO174 := n1_
              have HO177 := n2_
              have BK167 := n3_
              have BK181 := n4_
              have HB := n5_
              clear n0_ n1_ n2_ n3_ n4_ n5_
              have n0_ := Aside0.mk (Kd.R_drew HO171.out)
              have n1_ := Aside0.mk (Kd.R_drew HO174.out)
              have n2_ := Aside0.mk (Kd.R_drew HO177.out)
              have n3_ := Aside0.mk (blk_drew BK167.out)
              have n4_ := Aside0.mk (blk_drew BK181.out)
              have n5_ := Aside0.mk (below_drew1 HB.out)
              clear HO171
              clear HO174
              clear HO177
              clear BK167
              clear BK181
              clear HB
              have HO171 := n0_
              have HO174 := n1_
              have HO177 := n2_
              have BK167 := n3_
              have BK181 := n4_
              have HB := n5_
              clear n0_ n1_ n2_ n3_ n4_ n5_
              obtain ⟨Ao89, co89, eo89⟩ := Kd.R_slice HO171.out
              (first | subst eo89 | (injection eo89 with f1_ f2_ f3_; have f4_ := f1_.symm; have f5_ := f3_.symm; clear f1_ f2_ f3_; subst f4_; subst f5_))
              have q88 : ((l0_4.length : Int) : Int) ≤ ((t169.length : Int) : Int) := of_decide_eq_true (by first | (with_reducible assumption) | assumption)
              obtain ⟨i088, hi088, _, hsz88, _⟩ := info_parts info55
              have hroom88 : t169.length ≤ co89 := (Kd.R_reads' HO171.out).2.1
              have hC88 : Kd.C k55 _ Ao89 t169.length t169 := (Kd.R_reads' HO171.out).2.2
              have hcut88 := cut_to (P := Try.prog) 26 55 .i64 Try.underlying26 hi088 Ao89 t169.length co89 (l0_4.length : Int) (of_decide_eq_true (by first | (with_reducible assumption) | assumption)) q88 hroom88
              have hr88 := Kd.C_take (m := ((l0_4.length : Int) : Int).toNat) hC88 (by omega)
              have hy88 : y182.length = ((l0_4.length : Int) : Int).toNat := (by rw [Ny182.out, List.length_take]; omega)
              rw [← Ny182.out] at hr88
              rw [← hy88] at hcut88
              have HR185 := Aside0.mk hr88
              have HC185 := Aside0.mk (show y182.length ≤ co89 from by omega)
              clear hr88 hC88 hroom88 hi088 hsz88
              have KY88 := Aside0.mk hy88
              clear hy88
              have KL88 := Aside0.mk (show ((l0_4.length : Int) : Int).toNat ≤ t169.length from by omega)
              replace q88 := eq_true q88
              obtain ⟨Ao91, co91, eo91⟩ := Kd.R_slice HO177.out
              (first | subst eo91 | (injection eo91 with f1_ f2_ f3_; have f4_ := f1_.symm; have f5_ := f3_.symm; clear f1_ f2_ f3_; subst f4_; subst f5_))
              have q90 : ((l0_4.length : Int) : Int) ≤ ((t175.length : Int) : Int) := of_decide_eq_true (by first | (with_reducible assumption) | assumption)
              obtain ⟨i090, hi090, _, hsz90, _⟩ := info_parts info55
              have hroom90 : t175.length ≤ co91 := (Kd.R_reads' HO177.out).2.1
              have hC90 : Kd.C k55 _ Ao91 t175.length t175 := (Kd.R_reads' HO177.out).2.2
              have hcut90 := cut_to (P := Try.prog) 26 55 .i64 Try.underlying26 hi090 Ao91 t175.length co91 (l0_4.length : Int) (of_decide_eq_true (by first | (with_reducible assumption) | assumption)) q90 hroom90
              have hr90 := Kd.C_take (m := ((l0_4.length : Int) : Int).toNat) hC90 (by omega)
              have hy90 : y187.length = ((l0_4.length : Int) : Int).toNat := (by rw [Ny187.out, List.length_take]; omega)
              rw [← Ny187.out] at hr90
              rw [← hy90] at hcut90
              have HR190 := Aside0.mk hr90
              have HC190 := Aside0.mk (show y187.length ≤ co91 from by omega)
              clear hr90 hC90 hroom90 hi090 hsz90
              have KY90 := Aside0.mk hy90
              clear hy90
              have KL90 := Aside0.mk (show ((l0_4.length : Int) : Int).toNat ≤ t175.length from by omega)
              replace q90 := eq_true q90
              refine start_ (n := 17) (S := fun w' => w'.cell? ⟨gb181, 0, none⟩ = some (.int .u64 t178) ∧ w'.cell? ⟨gb181, 1, none⟩ = some (.int .i64 t179) ∧ w'.cell? ⟨gb181, 2, none⟩ = some (.int .i64 t180) ∧ w'.cell? ⟨gb167, 0, none⟩ = some (.int .u64 a0_0) ∧ w'.cell? ⟨gb167, 1, none⟩ = some (.int .i64 a0_1) ∧ w'.cell? ⟨gb167, 2, none⟩ = some (.int .i64 a0_2) ∧ w'.cell? ⟨gb167, 3, none⟩ = some (.int .i64 a0_3) ∧ w'.cell? ⟨gb167, 4, none⟩ = some (.slice A0_4 l0_4.length c0_4) ∧ w'.cell? ⟨gb167, 5, none⟩ = some (.int .u64 a0_5) ∧ w'.cell? ⟨gb167, 6, none⟩ = some (.bool a0_6)) (ds := []) #[false, false, false, false, false, false, false, false, false, false, false, false, false, false, false, false, false] (by kernel_rfl) rfl rfl ⟨(blk_cell BK181.out 0).trans rfl, (blk_cell BK181.out 1).trans rfl, (blk_cell BK181.out 2).trans rfl, (blk_cell BK167.out 0).trans rfl, (blk_cell BK167.out 1).trans rfl, (blk_cell BK167.out 2).trans rfl, (blk_cell BK167.out 3).trans rfl, (blk_cell BK167.out 4).trans rfl, (blk_cell BK167.out 5).trans rfl, (blk_cell BK167.out 6).trans rfl⟩ (fun hHeld => ?_); refine with_tabW croftlaw11_OracleTurns.tab7 croftlaw11_OracleTurns.bits7 (fun HT_ HW_ => ?_)
              generalize w86.drew = w87 at HO171 HO174 HO177 BK167 BK181 HB HR185 HR190 hHeld ⊢
              refine pure_ (i := 1) (N := some 31) (v := ?_) (a' := ?_) #[false, true, false, false, false, false, false, false, false, false, false, false, false, false, false, false, false] rfl rfl (any_of HT_.out (by kernel_rfl)) (fun _ _ _ h => h) (Or.inl ⟨by rfl, ?_⟩) ?_ ?_
              rotate_left
              · intro w'
                go_simp
                with_reducible rfl
              rotate_left
              · simp only [Act.put, List.setIfInBounds_toArray, List.set_cons_zero, List.set_cons_succ, i64_w, i32_w]
                rfl
              refine pure_ (i := 3) (N := some 33) (v := ?_) (a' := ?_) #[false, true, false, true, false, false, false, false, false, false, false, false, false, false, false, false, false] rfl rfl (any_of HT_.out (by kernel_rfl)) (fun _ _ _ h => h) (Or.inl ⟨by rfl, ?_⟩) ?_ ?_
              rotate_left
              · intro w'
                go_simp
                with_reducible rfl
              rotate_left
              · simp only [Act.put, List.setIfInBounds_toArray, List.set_cons_zero, List.set_cons_succ, i64_w, i32_w]
                rfl
              refine pure_ (i := 4) (N := some 34) (v := ?_) (a' := ?_) #[false, true, false, true, true, false, false, false, false, false, false, false, false, false, false, false, false] rfl rfl (any_of HT_.out (by kernel_rfl)) (fun _ _ _ h => h) (Or.inl ⟨by rfl, ?_⟩) ?_ ?_
              rotate_left
              · intro w'
                go_simp
                with_reducible rfl
              rotate_left
              · simp only [Act.put, List.setIfInBounds_toArray, List.set_cons_zero, List.set_cons_succ, i64_w, i32_w]
                rfl
              refine pure_ (i := 5) (N := some 35) (v := ?_) (a' := ?_) #[false, true, false, true, true, true, false, false, false, false, false, false, false, false, false, false, false] rfl rfl (any_of HT_.out (by kernel_rfl)) (fun _ _ _ h => h) (Or.inl ⟨by rfl, ?_⟩) ?_ ?_
              rotate_left
              · intro w'
                go_simp
                with_reducible rfl
              rotate_left
              · simp only [Act.put, List.setIfInBounds_toArray, List.set_cons_zero, List.set_cons_succ, i64_w, i32_w]
                rfl
              refine pure_ (i := 9) (N := some 39) (v := ?_) (a' := ?_) #[false, true, false, true, true, true, false, false, false, true, false, false, false, false, false, false, false] rfl rfl (any_of HT_.out (by kernel_rfl)) (fun _ _ _ h => h) (Or.inl ⟨by rfl, ?_⟩) ?_ ?_
              rotate_left
              · intro w'
                go_simp
                with_reducible rfl
              rotate_left
              · simp only [Act.put, List.setIfInBounds_toArray, List.set_cons_zero, List.set_cons_succ, i64_w, i32_w]
                rfl
              refine pure_ (i := 11) (N := some 41) (v := ?_) (a' := ?_) #[false, true, false, true, true, true, false, false, false, true, false, true, false, false, false, false, false] rfl rfl (any_of HT_.out (by kernel_rfl)) (fun _ _ _ h => h) (Or.inl ⟨by rfl, ?_⟩) ?_ ?_
              rotate_left
              · intro w'
                go_simp
                with_reducible rfl
              rotate_left
              · simp only [Act.put, List.setIfInBounds_toArray, List.set_cons_zero, List.set_cons_succ, i64_w, i32_w]
                rfl
              refine pure_ (i := 12) (N := some 42) (v := ?_) (a' := ?_) #[false, true, false, true, true, true, false, false, false, true, false, true, true, false, false, false, false] rfl rfl (any_of HT_.out (by kernel_rfl)) (fun _ _ _ h => h) (Or.inl ⟨by rfl, ?_⟩) ?_ ?_
              rotate_left
              · intro w'
                go_simp
                with_reducible rfl
              rotate_left
              · simp only [Act.put, List.setIfInBounds_toArray, List.set_cons_zero, List.set_cons_succ, i64_w, i32_w]
                rfl
              refine pure_ (i := 13) (N := some 43) (v := ?_) (a' := ?_) #[false, true, false, true, true, true, false, false, false, true, false, true, true, true, false, false, false] rfl rfl (any_of HT_.out (by kernel_rfl)) (fun _ _ _ h => h) (Or.inl ⟨by rfl, ?_⟩) ?_ ?_
              rotate_left
              · intro w'
                go_simp
                with_reducible rfl
              rotate_left
              · simp only [Act.put, List.setIfInBounds_toArray, List.set_cons_zero, List.set_cons_succ, i64_w, i32_w]
                rfl
              refine take_ (i := 0) (N := some 30) (v := ?_) (a' := ?_) #[true, true, false, true, true, true, false, false, false, true, false, true, true, true, false, false, false] rfl rfl (take_ofW HT_.out HW_.out (by kernel_rfl)) (fun _ _ _ h => h) (Or.inl ⟨by rfl, ?_⟩) hHeld ?_ ?_
              rotate_left
              · rintro w' ⟨s0, s1, s2, s3, s4, s5, s6, s7, s8, s9⟩
                go_simp
                with_reducible rfl
              rotate_left
              · simp only [Act.put, List.setIfInBounds_toArray, List.set_cons_zero, List.set_cons_succ, i64_w, i32_w]
                rfl
              refine take_ (i := 2) (N := some 32) (v := ?_) (a' := ?_) #[true, true, true, true, true, true, false, false, false, true, false, true, true, true, false, false, false] rfl rfl (take_ofW HT_.out HW_.out (by kernel_rfl)) (fun _ _ _ h => h) (Or.inl ⟨by rfl, ?_⟩) hHeld ?_ ?_
              rotate_left
              · rintro w' ⟨s0, s1, s2, s3, s4, s5, s6, s7, s8, s9⟩
                go_simp
                with_reducible rfl
              rotate_left
              · simp only [Act.put, List.setIfInBounds_toArray, List.set_cons_zero, List.set_cons_succ, i64_w, i32_w]
                rfl
              refine take_ (i := 8) (N := some 38) (v := ?_) (a' := ?_) #[true, true, true, true, true, true, false, false, true, true, false, true, true, true, false, false, false] rfl rfl (take_ofW HT_.out HW_.out (by kernel_rfl)) (fun _ _ _ h => h) (Or.inl ⟨by rfl, ?_⟩) hHeld ?_ ?_
              rotate_left
              · rintro w' ⟨s0, s1, s2, s3, s4, s5, s6, s7, s8, s9⟩
                go_simp
                with_reducible rfl
              rotate_left
              · simp only [Act.put, List.setIfInBounds_toArray, List.set_cons_zero, List.set_cons_succ, i64_w, i32_w]
                rfl
              refine take_ (i := 10) (N := some 40) (v := ?_) (a' := ?_) #[true, true, true, true, true, true, false, false, true, true, true, true, true, true, false, false, false] rfl rfl (take_ofW HT_.out HW_.out (by kernel_rfl)) (fun _ _ _ h => h) (Or.inl ⟨by rfl, ?_⟩) hHeld ?_ ?_
              rotate_left
              · rintro w' ⟨s0, s1, s2, s3, s4, s5, s6, s7, s8, s9⟩
                go_simp
                with_reducible rfl
              rotate_left
              · simp only [Act.put, List.setIfInBounds_toArray, List.set_cons_zero, List.set_cons_succ, i64_w, i32_w]
                rfl
              refine one_ (i := 6) (N := some 36) #[true, true, true, true, true, true, true, false, true, true, true, true, true, true, false, false, false] rfl rfl (one_of HT_.out (by kernel_rfl)) (by decide) (fun K hK => ?_)
              refine goes_ Try.func14 (by kernel_rfl) rfl #[.agg #[.int .u64 t178, .int .i64 t179, .int .i64 t180], .int .i64 a0_3, .slice Ao89 y182.length co89] (by rfl) rfl rfl (by (try simp only [List.map_toArray, List.map_cons, List.map_nil]); first | done | rfl | (rw [show y182.length = y192.length from by rw [Ny182.out, Ny192.out]]; rfl) | (rw [show y182.length = y202.length from by rw [Ny182.out, Ny202.out]]; rfl) | (simp only [List.length_drop, List.length_take]; rfl)) ?_
              with_reducible refine (oracle_Sound.calls t178 t179 t180 a0_3 _ _ y182 t186 _ ?side1 ?side2 A11.out).mono ?_
              (case side1 => repeat (first | exact (by repeat (first | (with_reducible exact HR185.out) | (with_reducible refine Kd.C_alloc ?_ _) | (with_reducible refine Kd.C_drewN ?_ _) | (with_reducible refine Kd.C_drew ?_) | exact HR185.out)) | (with_reducible refine Kd.C_alloc ?_ _) | (with_reducible refine Kd.C_drewN ?_ _) | (with_reducible refine Kd.C_drew ?_)))
              (case side2 => exact HC185.out)
              rintro e w92 ⟨rfl, hb⟩
              refine ⟨_, rfl, ?_⟩
              have n0_ := Aside0.mk (Kd.R_below (by (with_reducible repeat (first | apply Kd.R_alloc | apply Kd.R_drewN | apply Kd.R_drew)); exact HO171.out) hb)
              have n1_ := Aside0.mk (Kd.R_below (by (with_reducible repeat (first | apply Kd.R_alloc | apply Kd.R_drewN | apply Kd.R_drew)); exact HO174.out) hb)
              have n2_ := Aside0.mk (Kd.R_below (by (with_reducible repeat (first | apply Kd.R_alloc | apply Kd.R_drewN | apply Kd.R_drew)); exact HO177.out) hb)
              have n3_ := Aside0.mk (blk_below (g := gb167) (o := .cells #[.int .u64 a0_0, .int .i64 a0_1, .int .i64 a0_2, .int .i64 a0_3, .slice A0_4 l0_4.length c0_4, .int .u64 a0_5, .bool a0_6] 44 (0, 0)) (by (with_reducible repeat (first | refine blk_drewN ?_ _ | refine blk_drew ?_ | refine blk_alloc ?_ _)); exact BK167.out) hb)
              have n4_ := Aside0.mk (blk_below (g := gb181) (o := .cells #[.int .u64 t178, .int .i64 t179, .int .i64 t180] 29 (0, 0)) (by (with_reducible repeat (first | refine blk_drewN ?_ _ | refine blk_drew ?_ | refine blk_alloc ?_ _)); exact BK181.out) hb)
              have n5_ := Aside0.mk (Kd.C_below (by repeat (first | (with_reducible exact HR185.out) | (with_reducible refine Kd.C_alloc ?_ _) | (with_reducible refine Kd.C_drewN ?_ _) | (with_reducible refine Kd.C_drew ?_) | exact HR185.out)) hb)
              have n6_ := Aside0.mk (Kd.C_below (by repeat (first | (with_reducible exact HR190.out) | (with_reducible refine Kd.C_alloc ?_ _) | (with_reducible refine Kd.C_drewN ?_ _) | (with_reducible refine Kd.C_drew ?_) | exact HR190.out)) hb)
              have n7_ := Aside0.mk (below_step (by repeat (first | (with_reducible first | exact HB.out | apply below_alloc | apply pw_below_drewN | apply below_drew1 | refine below_set ?_ GE167.out | refine below_set ?_ GE181.out) | exact HB.out)) hb)
              clear HO171
              clear HO174
              clear HO177
              clear BK167
              clear BK181
              clear HR185
              clear HR190
              clear HB
              have HO171 := n0_
              have HO174 := n1_
              have HO177 := n2_
              have BK167 := n3_
              have BK181 := n4_
              have HR185 := n5_
              have HR190 := n6_
              have HB := n7_
              clear n0_ n1_ n2_ n3_ n4_ n5_ n6_ n7_
              (try clear hb)
              (try clear hb2)
              (try clear hk)
              (try clear hi)
              refine hK.out _ _ ⟨(blk_cell BK181.out 0).trans rfl, (blk_cell BK181.out 1).trans rfl, (blk_cell BK181.out 2).trans rfl, (blk_cell BK167.out 0).trans rfl, (blk_cell BK167.out 1).trans rfl, (blk_cell BK167.out 2).trans rfl, (blk_cell BK167.out 3).trans rfl, (blk_cell BK167.out 4).trans rfl, (blk_cell BK167.out 5).trans rfl, (blk_cell BK167.out 6).trans rfl⟩ (fun hHeld => ?_)
              clear hK K
              refine norm_ (a' := ?_) ?_ ?_
              rotate_left
              · show Act.put _ (some 36) _ = _
                simp only [Act.put, List.setIfInBounds_toArray, List.set_cons_zero, List.set_cons_succ, i64_w, i32_w]
                rfl
              refine pure_ (i := 7) (N := some 37) (v := ?_) (a' := ?_) #[true, true, true, true, true, true, true, true, true, true, true, true, true, true, false, false, false] rfl rfl (any_of HT_.out (by kernel_rfl)) (fun _ _ _ h => h) (Or.inl ⟨by rfl, ?_⟩) ?_ ?_
              rotate_left
              · intro w'
                go_simp
                with_reducible rfl
              rotate_left
              · simp only [Act.put, List.setIfInBounds_toArray, List.set_cons_zero, List.set_cons_succ, i64_w, i32_w]
                rfl
              refine one_ (i := 14) (N := some 44) #[true, true, true, true, true, true, true, true, true, true, true, true, true, true, true, false, false] rfl rfl (one_of HT_.out (by kernel_rfl)) (by decide) (fun K hK => ?_)
              refine goes_ Try.func14 (by kernel_rfl) rfl #[.agg #[.int .u64 t178, .int .i64 t179, .int .i64 t180], .int .i64 a0_3, .slice Ao91 y187.length co91] (by rfl) rfl rfl (by (try simp only [List.map_toArray, List.map_cons, List.map_nil]); first | done | rfl | (rw [show y187.length = y197.length from by rw [Ny187.out, Ny197.out]]; rfl) | (simp only [List.length_drop, List.length_take]; rfl)) ?_
              with_reducible refine (oracle_Sound.calls t178 t179 t180 a0_3 _ _ y187 t191 _ ?side1 ?side2 A14.out).mono ?_
              (case side1 => repeat (first | exact (by repeat (first | (with_reducible exact HR190.out) | (with_reducible refine Kd.C_alloc ?_ _) | (with_reducible refine Kd.C_drewN ?_ _) | (with_reducible refine Kd.C_drew ?_) | exact HR190.out)) | (with_reducible refine Kd.C_alloc ?_ _) | (with_reducible refine Kd.C_drewN ?_ _) | (with_reducible refine Kd.C_drew ?_)))
              (case side2 => exact HC190.out)
              rintro e w93 ⟨rfl, hb⟩
              refine ⟨_, rfl, ?_⟩
              have n0_ := Aside0.mk (Kd.R_below (by (with_reducible repeat (first | apply Kd.R_alloc | apply Kd.R_drewN | apply Kd.R_drew)); exact HO171.out) hb)
              have n1_ := Aside0.mk (Kd.R_below (by (with_reducible repeat (first | apply Kd.R_alloc | apply Kd.R_drewN | apply Kd.R_drew)); exact HO174.out) hb)
              have n2_ := Aside0.mk (Kd.R_below (by (with_reducible repeat (first | apply Kd.R_alloc | apply Kd.R_drewN | apply Kd.R_drew)); exact HO177.out) hb)
              have n3_ := Aside0.mk (blk_below (g := gb167) (o := .cells #[.int .u64 a0_0, .int .i64 a0_1, .int .i64 a0_2, .int .i64 a0_3, .slice A0_4 l0_4.length c0_4, .int .u64 a0_5, .bool a0_6] 44 (0, 0)) (by (with_reducible repeat (first | refine blk_drewN ?_ _ | refine blk_drew ?_ | refine blk_alloc ?_ _)); exact BK167.out) hb)
              have n4_ := Aside0.mk (blk_below (g := gb181) (o := .cells #[.int .u64 t178, .int .i64 t179, .int .i64 t180] 29 (0, 0)) (by (with_reducible repeat (first | refine blk_drewN ?_ _ | refine blk_drew ?_ | refine blk_alloc ?_ _)); exact BK181.out) hb)
              have n5_ := Aside0.mk (Kd.C_below (by repeat (first | (with_reducible exact HR185.out) | (with_reducible refine Kd.C_alloc ?_ _) | (with_reducible refine Kd.C_drewN ?_ _) | (with_reducible refine Kd.C_drew ?_) | exact HR185.out)) hb)
              have n6_ := Aside0.mk (Kd.C_below (by repeat (first | (with_reducible exact HR190.out) | (with_reducible refine Kd.C_alloc ?_ _) | (with_reducible refine Kd.C_drewN ?_ _) | (with_reducible refine Kd.C_drew ?_) | exact HR190.out)) hb)
              have n7_ := Aside0.mk (below_step (by repeat (first | (with_reducible first | exact HB.out | apply below_alloc | apply pw_below_drewN | apply below_drew1 | refine below_set ?_ GE167.out | refine below_set ?_ GE181.out) | exact HB.out)) hb)
              clear HO171
              clear HO174
              clear HO177
              clear BK167
              clear BK181
              clear HR185
              clear HR190
              clear HB
              have HO171 := n0_
              have HO174 := n1_
              have HO177 := n2_
              have BK167 := n3_
              have BK181 := n4_
              have HR185 := n5_
              have HR190 := n6_
              have HB := n7_
              clear n0_ n1_ n2_ n3_ n4_ n5_ n6_ n7_
              (try clear hb)
              (try clear hb2)
              (try clear hk)
              (try clear hi)
              refine hK.out _ _ ⟨(blk_cell BK181.out 0).trans rfl, (blk_cell BK181.out 1).trans rfl, (blk_cell BK181.out 2).trans rfl, (blk_cell BK167.out 0).trans rfl, (blk_cell BK167.out 1).trans rfl, (blk_cell BK167.out 2).trans rfl, (blk_cell BK167.out 3).trans rfl, (blk_cell BK167.out 4).trans rfl, (blk_cell BK167.out 5).trans rfl, (blk_cell BK167.out 6).trans rfl⟩ (fun hHeld => ?_)
              clear hK K
              refine norm_ (a' := ?_) ?_ ?_
              rotate_left
              · show Act.put _ (some 44) _ = _
                simp only [Act.put, List.setIfInBounds_toArray, List.set_cons_zero, List.set_cons_succ, i64_w, i32_w]
                rfl
              refine pure_ (i := 15) (N := some 45) (v := ?_) (a' := ?_) #[true, true, true, true, true, true, true, true, true, true, true, true, true, true, true, true, false] rfl rfl (any_of HT_.out (by kernel_rfl)) (fun _ _ _ h => h) (Or.inl ⟨by rfl, ?_⟩) ?_ ?_
              rotate_left
              · intro w'
                go_simp
                with_reducible rfl
              rotate_left
              · simp only [Act.put, List.setIfInBounds_toArray, List.set_cons_zero, List.set_cons_succ, i64_w, i32_w]
                rfl
              refine pure_ (i := 16) (N := some 46) (v := ?_) (a' := ?_) #[true, true, true, true, true, true, true, true, true, true, true, true, true, true, true, true, true] rfl rfl (any_of HT_.out (by kernel_rfl)) (fun _ _ _ h => h) (Or.inl ⟨by rfl, ?_⟩) ?_ ?_
              rotate_left
              · intro w'
                go_simp
                with_reducible rfl
              rotate_left
              · simp only [Act.put, List.setIfInBounds_toArray, List.set_cons_zero, List.set_cons_succ, i64_w, i32_w]
                rfl
              refine done_ (done_of HT_.out (by kernel_rfl)) ?_
              try go_wp2
              have n0_ := Aside0.mk (Kd.R_drew HO171.out)
              have n1_ := Aside0.mk (Kd.R_drew HO174.out)
              have n2_ := Aside0.mk (Kd.R_drew HO177.out)
              have n3_ := Aside0.mk (blk_drew BK167.out)
              have n4_ := Aside0.mk (blk_drew BK181.out)
              have n5_ := Aside0.mk (Kd.C_drew HR185.out)
              have n6_ := Aside0.mk (Kd.C_drew HR190.out)
              have n7_ := Aside0.mk (below_drew1 HB.out)
              clear HO171
              clear HO174
              clear HO177
              clear BK167
              clear BK181
              clear HR185
              clear HR190
              clear HB
              have HO171 := n0_
              have HO174 := n1_
              have HO177 := n2_
              have BK167 := n3_
              have BK181 := n4_
              have HR185 := n5_
              have HR190 := n6_
              have HB := n7_
              clear n0_ n1_ n2_ n3_ n4_ n5_ n6_ n7_
              have q95 : ((l0_4.length : Int) : Int) ≤ ((t169.length : Int) : Int) := of_decide_eq_true (by first | (with_reducible assumption) | assumption)
              obtain ⟨i095, hi095, _, hsz95, _⟩ := info_parts info55
              have hroom95 : t169.length ≤ co89 := (Kd.R_reads' HO171.out).2.1
              have hC95 : Kd.C k55 _ Ao89 t169.length t169 := (Kd.R_reads' HO171.out).2.2
              have hcut95 := cut_to (P := Try.prog) 26 55 .i64 Try.underlying26 hi095 Ao89 t169.length co89 (l0_4.length : Int) (of_decide_eq_true (by first | (with_reducible assumption) | assumption)) q95 hroom95
              have hr95 := Kd.C_take (m := ((l0_4.length : Int) : Int).toNat) hC95 (by omega)
              have hy95 : y192.length = ((l0_4.length : Int) : Int).toNat := (by rw [Ny192.out, List.length_take]; omega)
              rw [← Ny192.out] at hr95
              rw [← hy95] at hcut95
              have HR195 := Aside0.mk hr95
              have HC195 := Aside0.mk (show y192.length ≤ co89 from by omega)
              clear hr95 hC95 hroom95 hi095 hsz95
              have KY95 := Aside0.mk hy95
              clear hy95
              have KL95 := Aside0.mk (show ((l0_4.length : Int) : Int).toNat ≤ t169.length from by omega)
              replace q95 := eq_true q95
              have q96 : ((l0_4.length : Int) : Int) ≤ ((t175.length : Int) : Int) := of_decide_eq_true (by first | (with_reducible assumption) | assumption)
              obtain ⟨i096, hi096, _, hsz96, _⟩ := info_parts info55
              have hroom96 : t175.length ≤ co91 := (Kd.R_reads' HO177.out).2.1
              have hC96 : Kd.C k55 _ Ao91 t175.length t175 := (Kd.R_reads' HO177.out).2.2
              have hcut96 := cut_to (P := Try.prog) 26 55 .i64 Try.underlying26 hi096 Ao91 t175.length co91 (l0_4.length : Int) (of_decide_eq_true (by first | (with_reducible assumption) | assumption)) q96 hroom96
              have hr96 := Kd.C_take (m := ((l0_4.length : Int) : Int).toNat) hC96 (by omega)
              have hy96 : y197.length = ((l0_4.length : Int) : Int).toNat := (by rw [Ny197.out, List.length_take]; omega)
              rw [← Ny197.out] at hr96
              rw [← hy96] at hcut96
              have HR200 := Aside0.mk hr96
              have HC200 := Aside0.mk (show y197.length ≤ co91 from by omega)
              clear hr96 hC96 hroom96 hi096 hsz96
              have KY96 := Aside0.mk hy96
              clear hy96
              have KL96 := Aside0.mk (show ((l0_4.length : Int) : Int).toNat ≤ t175.length from by omega)
              replace q96 := eq_true q96
              refine start_ (n := 19) (S := fun w' => w'.cell? ⟨gb181, 0, none⟩ = some (.int .u64 t178) ∧ w'.cell? ⟨gb181, 1, none⟩ = some (.int .i64 t179) ∧ w'.cell? ⟨gb181, 2, none⟩ = some (.int .i64 t180) ∧ w'.cell? ⟨gb167, 0, none⟩ = some (.int .u64 a0_0) ∧ w'.cell? ⟨gb167, 1, none⟩ = some (.int .i64 a0_1) ∧ w'.cell? ⟨gb167, 2, none⟩ = some (.int .i64 a0_2) ∧ w'.cell? ⟨gb167, 3, none⟩ = some (.int .i64 a0_3) ∧ w'.cell? ⟨gb167, 4, none⟩ = some (.slice A0_4 l0_4.length c0_4) ∧ w'.cell? ⟨gb167, 5, none⟩ = some (.int .u64 a0_5) ∧ w'.cell? ⟨gb167, 6, none⟩ = some (.bool a0_6)) (ds := []) #[false, false, false, false, false, false, false, false, false, false, false, false, false, false, false, false, false, false, false] (by kernel_rfl) rfl rfl ⟨(blk_cell BK181.out 0).trans rfl, (blk_cell BK181.out 1).trans rfl, (blk_cell BK181.out 2).trans rfl, (blk_cell BK167.out 0).trans rfl, (blk_cell BK167.out 1).trans rfl, (blk_cell BK167.out 2).trans rfl, (blk_cell BK167.out 3).trans rfl, (blk_cell BK167.out 4).trans rfl, (blk_cell BK167.out 5).trans rfl, (blk_cell BK167.out 6).trans rfl⟩ (fun hHeld => ?_); refine with_tabW croftlaw11_OracleTurns.tab9 croftlaw11_OracleTurns.bits9 (fun HT_ HW_ => ?_)
              generalize w93.drew = w94 at HO171 HO174 HO177 BK167 BK181 HR185 HR190 HB HR195 HR200 hHeld ⊢
              refine pure_ (i := 1) (N := some 48) (v := ?_) (a' := ?_) #[false, true, false, false, false, false, false, false, false, false, false, false, false, false, false, false, false, false, false] rfl rfl (any_of HT_.out (by kernel_rfl)) (fun _ _ _ h => h) (Or.inl ⟨by rfl, ?_⟩) ?_ ?_
              rotate_left
              · intro w'
                go_simp
                with_reducible rfl
              rotate_left
              · simp only [Act.put, List.setIfInBounds_toArray, List.set_cons_zero, List.set_cons_succ, i64_w, i32_w]
                rfl
              refine pure_ (i := 3) (N := some 50) (v := ?_) (a' := ?_) #[false, true, false, true, false, false, false, false, false, false, false, false, false, false, false, false, false, false, false] rfl rfl (any_of HT_.out (by kernel_rfl)) (fun _ _ _ h => h) (Or.inl ⟨by rfl, ?_⟩) ?_ ?_
              rotate_left
              · intro w'
                go_simp
                with_reducible rfl
              rotate_left
              · simp only [Act.put, List.setIfInBounds_toArray, List.set_cons_zero, List.set_cons_succ, i64_w, i32_w]
                rfl
              refine pure_ (i := 4) (N := some 51) (v := ?_) (a' := ?_) #[false, true, false, true, true, false, false, false, false, false, false, false, false, false, false, false, false, false, false] rfl rfl (any_of HT_.out (by kernel_rfl)) (fun _ _ _ h => h) (Or.inl ⟨by rfl, ?_⟩) ?_ ?_
              rotate_left
              · intro w'
                go_simp
                with_reducible rfl
              rotate_left
              · simp only [Act.put, List.setIfInBounds_toArray, List.set_cons_zero, List.set_cons_succ, i64_w, i32_w]
                rfl
              refine pure_ (i := 5) (N := some 52) (v := ?_) (a' := ?_) #[false, true, false, true, true, true, false, false, false, false, false, false, false, false, false, false, false, false, false] rfl rfl (any_of HT_.out (by kernel_rfl)) (fun _ _ _ h => h) (Or.inl ⟨by rfl, ?_⟩) ?_ ?_
              rotate_left
              · intro w'
                go_simp
                with_reducible rfl
              rotate_left
              · simp only [Act.put, List.setIfInBounds_toArray, List.set_cons_zero, List.set_cons_succ, i64_w, i32_w]
                rfl
              refine pure_ (i := 6) (N := some 53) (v := ?_) (a' := ?_) #[false, true, false, true, true, true, true, false, false, false, false, false, false, false, false, false, false, false, false] rfl rfl (any_of HT_.out (by kernel_rfl)) (fun _ _ _ h => h) (Or.inl ⟨by rfl, ?_⟩) ?_ ?_
              rotate_left
              · intro w'
                go_simp
                with_reducible rfl
              rotate_left
              · simp only [Act.put, List.setIfInBounds_toArray, List.set_cons_zero, List.set_cons_succ, i64_w, i32_w]
                rfl
              refine pure_ (i := 10) (N := some 57) (v := ?_) (a' := ?_) #[false, true, false, true, true, true, true, false, false, false, true, false, false, false, false, false, false, false, false] rfl rfl (any_of HT_.out (by kernel_rfl)) (fun _ _ _ h => h) (Or.inl ⟨by rfl, ?_⟩) ?_ ?_
              rotate_left
              · intro w'
                go_simp
                with_reducible rfl
              rotate_left
              · simp only [Act.put, List.setIfInBounds_toArray, List.set_cons_zero, List.set_cons_succ, i64_w, i32_w]
                rfl
              refine pure_ (i := 12) (N := some 59) (v := ?_) (a' := ?_) #[false, true, false, true, true, true, true, false, false, false, true, false, true, false, false, false, false, false, false] rfl rfl (any_of HT_.out (by kernel_rfl)) (fun _ _ _ h => h) (Or.inl ⟨by rfl, ?_⟩) ?_ ?_
              rotate_left
              · intro w'
                go_simp
                with_reducible rfl
              rotate_left
              · simp only [Act.put, List.setIfInBounds_toArray, List.set_cons_zero, List.set_cons_succ, i64_w, i32_w]
                rfl
              refine pure_ (i := 13) (N := some 60) (v := ?_) (a' := ?_) #[false, true, false, true, true, true, true, false, false, false, true, false, true, true, false, false, false, false, false] rfl rfl (any_of HT_.out (by kernel_rfl)) (fun _ _ _ h => h) (Or.inl ⟨by rfl, ?_⟩) ?_ ?_
              rotate_left
              · intro w'
                go_simp
                with_reducible rfl
              rotate_left
              · simp only [Act.put, List.setIfInBounds_toArray, List.set_cons_zero, List.set_cons_succ, i64_w, i32_w]
                rfl
              refine pure_ (i := 14) (N := some 61) (v := ?_) (a' := ?_) #[false, true, false, true, true, true, true, false, false, false, true, false, true, true, true, false, false, false, false] rfl rfl (any_of HT_.out (by kernel_rfl)) (fun _ _ _ h => h) (Or.inl ⟨by rfl, ?_⟩) ?_ ?_
              rotate_left
              · intro w'
                go_simp
                with_reducible rfl
              rotate_left
              · simp only [Act.put, List.setIfInBounds_toArray, List.set_cons_zero, List.set_cons_succ, i64_w, i32_w]
                rfl
              refine pure_ (i := 15) (N := some 62) (v := ?_) (a' := ?_) #[false, true, false, true, true, true, true, false, false, false, true, false, true, true, true, true, false, false, false] rfl rfl (any_of HT_.out (by kernel_rfl)) (fun _ _ _ h => h) (Or.inl ⟨by rfl, ?_⟩) ?_ ?_
              rotate_left
              · intro w'
                go_simp
                with_reducible rfl
              rotate_left
              · simp only [Act.put, List.setIfInBounds_toArray, List.set_cons_zero, List.set_cons_succ, i64_w, i32_w]
                rfl
              refine take_ (i := 0) (N := some 47) (v := ?_) (a' := ?_) #[true, true, false, true, true, true, true, false, false, false, true, false, true, true, true, true, false, false, false] rfl rfl (take_ofW HT_.out HW_.out (by kernel_rfl)) (fun _ _ _ h => h) (Or.inl ⟨by rfl, ?_⟩) hHeld ?_ ?_
              rotate_left
              · rintro w' ⟨s0, s1, s2, s3, s4, s5, s6, s7, s8, s9⟩
                go_simp
                with_reducible rfl
              rotate_left
              · simp only [Act.put, List.setIfInBounds_toArray, List.set_cons_zero, List.set_cons_succ, i64_w, i32_w]
                rfl
              refine take_ (i := 2) (N := some 49) (v := ?_) (a' := ?_) #[true, true, true, true, true, true, true, false, false, false, true, false, true, true, true, true, false, false, false] rfl rfl (take_ofW HT_.out HW_.out (by kernel_rfl)) (fun _ _ _ h => h) (Or.inl ⟨by rfl, ?_⟩) hHeld ?_ ?_
              rotate_left
              · rintro w' ⟨s0, s1, s2, s3, s4, s5, s6, s7, s8, s9⟩
                go_simp
                with_reducible rfl
              rotate_left
              · simp only [Act.put, List.setIfInBounds_toArray, List.set_cons_zero, List.set_cons_succ, i64_w, i32_w]
                rfl
              refine take_ (i := 7) (N := some 54) (v := ?_) (a' := ?_) #[true, true, true, true, true, true, true, true, false, false, true, false, true, true, true, true, false, false, false] rfl rfl (take_ofW HT_.out HW_.out (by kernel_rfl)) (fun _ _ _ h => h) (Or.inl ⟨by rfl, ?_⟩) hHeld ?_ ?_
              rotate_left
              · rintro w' ⟨s0, s1, s2, s3, s4, s5, s6, s7, s8, s9⟩
                go_simp
                with_reducible rfl
              rotate_left
              · simp only [Act.put, List.setIfInBounds_toArray, List.set_cons_zero, List.set_cons_succ, i64_w, i32_w]
                rfl
              refine take_ (i := 9) (N := some 56) (v := ?_) (a' := ?_) #[true, true, true, true, true, true, true, true, false, true, true, false, true, true, true, true, false, false, false] rfl rfl (take_ofW HT_.out HW_.out (by kernel_rfl)) (fun _ _ _ h => h) (Or.inl ⟨by rfl, ?_⟩) hHeld ?_ ?_
              rotate_left
              · rintro w' ⟨s0, s1, s2, s3, s4, s5, s6, s7, s8, s9⟩
                go_simp
                with_reducible rfl
              rotate_left
              · simp only [Act.put, List.setIfInBounds_toArray, List.set_cons_zero, List.set_cons_succ, i64_w, i32_w]
                rfl
              refine take_ (i := 11) (N := some 58) (v := ?_) (a' := ?_) #[true, true, true, true, true, true, true, true, false, true, true, true, true, true, true, true, false, false, false] rfl rfl (take_ofW HT_.out HW_.out (by kernel_rfl)) (fun _ _ _ h => h) (Or.inl ⟨by rfl, ?_⟩) hHeld ?_ ?_
              rotate_left
              · rintro w' ⟨s0, s1, s2, s3, s4, s5, s6, s7, s8, s9⟩
                go_simp
                with_reducible rfl
              rotate_left
              · simp only [Act.put, List.setIfInBounds_toArray, List.set_cons_zero, List.set_cons_succ, i64_w, i32_w]
                rfl
              refine take_ (i := 16) (N := some 63) (v := ?_) (a' := ?_) #[true, true, true, true, true, true, true, true, false, true, true, true, true, true, true, true, true, false, false] rfl rfl (take_ofW HT_.out HW_.out (by kernel_rfl)) (fun _ _ _ h => h) (Or.inl ⟨by rfl, ?_⟩) hHeld ?_ ?_
              rotate_left
              · rintro w' ⟨s0, s1, s2, s3, s4, s5, s6, s7, s8, s9⟩
                go_simp
                with_reducible rfl
              rotate_left
              · simp only [Act.put, List.setIfInBounds_toArray, List.set_cons_zero, List.set_cons_succ, i64_w, i32_w]
                rfl
              refine one_ (i := 8) (N := some 55) #[true, true, true, true, true, true, true, true, true, true, true, true, true, true, true, true, true, false, false] rfl rfl (one_of HT_.out (by kernel_rfl)) (by decide) (fun K hK => ?_)
              refine goes_ Try.func23 (by kernel_rfl) rfl #[.agg #[.int .u64 t178, .int .i64 t179, .int .i64 t180], .int .i64 a0_3, .slice Ao89 y192.length co89, .int .u64 a0_5] (by rfl) rfl rfl (by (try simp only [List.map_toArray, List.map_cons, List.map_nil]); first | done | rfl | (rw [show y192.length = y182.length from by rw [Ny192.out, Ny182.out]]; rfl) | (rw [show y192.length = y202.length from by rw [Ny192.out, Ny202.out]]; rfl) | (simp only [List.length_drop, List.length_take]; rfl)) ?_
              with_reducible refine (oracle_NoFit.calls t178 t179 t180 a0_3 _ _ y192 a0_5 t196 _ ?side1 ?side2 A39.out).mono ?_
              (case side1 => repeat (first | exact (by repeat (first | (with_reducible exact HR195.out) | (with_reducible refine Kd.C_alloc ?_ _) | (with_reducible refine Kd.C_drewN ?_ _) | (with_reducible refine Kd.C_drew ?_) | exact HR195.out)) | (with_reducible refine Kd.C_alloc ?_ _) | (with_reducible refine Kd.C_drewN ?_ _) | (with_reducible refine Kd.C_drew ?_)))
              (case side2 => exact HC195.out)
              rintro e w97 ⟨rfl, hb⟩
              refine ⟨_, rfl, ?_⟩
              have n0_ := Aside0.mk (Kd.R_below (by (with_reducible repeat (first | apply Kd.R_alloc | apply Kd.R_drewN | apply Kd.R_drew)); exact HO171.out) hb)
              have n1_ := Aside0.mk (Kd.R_below (by (with_reducible repeat (first | apply Kd.R_alloc | apply Kd.R_drewN | apply Kd.R_drew)); exact HO174.out) hb)
              have n2_ := Aside0.mk (Kd.R_below (by (with_reducible repeat (first | apply Kd.R_alloc | apply Kd.R_drewN | apply Kd.R_drew)); exact HO177.out) hb)
              have n3_ := Aside0.mk (blk_below (g := gb167) (o := .cells #[.int .u64 a0_0, .int .i64 a0_1, .int .i64 a0_2, .int .i64 a0_3, .slice A0_4 l0_4.length c0_4, .int .u64 a0_5, .bool a0_6] 44 (0, 0)) (by (with_reducible repeat (first | refine blk_drewN ?_ _ | refine blk_drew ?_ | refine blk_alloc ?_ _)); exact BK167.out) hb)
              have n4_ := Aside0.mk (blk_below (g := gb181) (o := .cells #[.int .u64 t178, .int .i64 t179, .int .i64 t180] 29 (0, 0)) (by (with_reducible repeat (first | refine blk_drewN ?_ _ | refine blk_drew ?_ | refine blk_alloc ?_ _)); exact BK181.out) hb)
              have n5_ := Aside0.mk (Kd.C_below (by repeat (first | (with_reducible exact HR185.out) | (with_reducible refine Kd.C_alloc ?_ _) | (with_reducible refine Kd.C_drewN ?_ _) | (with_reducible refine Kd.C_drew ?_) | exact HR185.out)) hb)
              have n6_ := Aside0.mk (Kd.C_below (by repeat (first | (with_reducible exact HR190.out) | (with_reducible refine Kd.C_alloc ?_ _) | (with_reducible refine Kd.C_drewN ?_ _) | (with_reducible refine Kd.C_drew ?_) | exact HR190.out)) hb)
              have n7_ := Aside0.mk (Kd.C_below (by repeat (first | (with_reducible exact HR195.out) | (with_reducible refine Kd.C_alloc ?_ _) | (with_reducible refine Kd.C_drewN ?_ _) | (with_reducible refine Kd.C_drew ?_) | exact HR195.out)) hb)
              have n8_ := Aside0.mk (Kd.C_below (by repeat (first | (with_reducible exact HR200.out) | (with_reducible refine Kd.C_alloc ?_ _) | (with_reducible refine Kd.C_drewN ?_ _) | (with_reducible refine Kd.C_drew ?_) | exact HR200.out)) hb)
              have n9_ := Aside0.mk (below_step (by repeat (first | (with_reducible first | exact HB.out | apply below_alloc | apply pw_below_drewN | apply below_drew1 | refine below_set ?_ GE167.out | refine below_set ?_ GE181.out) | exact HB.out)) hb)
              clear HO171
              clear HO174
              clear HO177
              clear BK167
              clear BK181
              clear HR185
              clear HR190
              clear HR195
              clear HR200
              clear HB
              have HO171 := n0_
              have HO174 := n1_
              have HO177 := n2_
              have BK167 := n3_
              have BK181 := n4_
              have HR185 := n5_
              have HR190 := n6_
              have HR195 := n7_
              have HR200 := n8_
              have HB := n9_
              clear n0_ n1_ n2_ n3_ n4_ n5_ n6_ n7_ n8_ n9_
              (try clear hb)
              (try clear hb2)
              (try clear hk)
              (try clear hi)
              refine hK.out _ _ ⟨(blk_cell BK181.out 0).trans rfl, (blk_cell BK181.out 1).trans rfl, (blk_cell BK181.out 2).trans rfl, (blk_cell BK167.out 0).trans rfl, (blk_cell BK167.out 1).trans rfl, (blk_cell BK167.out 2).trans rfl, (blk_cell BK167.out 3).trans rfl, (blk_cell BK167.out 4).trans rfl, (blk_cell BK167.out 5).trans rfl, (blk_cell BK167.out 6).trans rfl⟩ (fun hHeld => ?_)
              clear hK K
              refine norm_ (a' := ?_) ?_ ?_
              rotate_left
              · show Act.put _ (some 55) _ = _
                simp only [Act.put, List.setIfInBounds_toArray, List.set_cons_zero, List.set_cons_succ, i64_w, i32_w]
                rfl
              refine one_ (i := 17) (N := some 64) #[true, true, true, true, true, true, true, true, true, true, true, true, true, true, true, true, true, true, false] rfl rfl (one_of HT_.out (by kernel_rfl)) (by decide) (fun K hK => ?_)
              refine goes_ Try.func23 (by kernel_rfl) rfl #[.agg #[.int .u64 t178, .int .i64 t179, .int .i64 t180], .int .i64 a0_3, .slice Ao91 y197.length co91, .int .u64 a0_5] (by rfl) rfl rfl (by (try simp only [List.map_toArray, List.map_cons, List.map_nil]); first | done | rfl | (rw [show y197.length = y187.length from by rw [Ny197.out, Ny187.out]]; rfl) | (simp only [List.length_drop, List.length_take]; rfl)) ?_
              with_reducible refine (oracle_NoFit.calls t178 t179 t180 a0_3 _ _ y197 a0_5 t201 _ ?side1 ?side2 A42.out).mono ?_
              (case side1 => repeat (first | exact (by repeat (first | (with_reducible exact HR200.out) | (with_reducible refine Kd.C_alloc ?_ _) | (with_reducible refine Kd.C_drewN ?_ _) | (with_reducible refine Kd.C_drew ?_) | exact HR200.out)) | (with_reducible refine Kd.C_alloc ?_ _) | (with_reducible refine Kd.C_drewN ?_ _) | (with_reducible refine Kd.C_drew ?_)))
              (case side2 => exact HC200.out)
              rintro e w98 ⟨rfl, hb⟩
              refine ⟨_, rfl, ?_⟩
              have n0_ := Aside0.mk (Kd.R_below (by (with_reducible repeat (first | apply Kd.R_alloc | apply Kd.R_drewN | apply Kd.R_drew)); exact HO171.out) hb)
              have n1_ := Aside0.mk (Kd.R_below (by (with_reducible repeat (first | apply Kd.R_alloc | apply Kd.R_drewN | apply Kd.R_drew)); exact HO174.out) hb)
              have n2_ := Aside0.mk (Kd.R_below (by (with_reducible repeat (first | apply Kd.R_alloc | apply Kd.R_drewN | apply Kd.R_drew)); exact HO177.out) hb)
              have n3_ := Aside0.mk (blk_below (g := gb167) (o := .cells #[.int .u64 a0_0, .int .i64 a0_1, .int .i64 a0_2, .int .i64 a0_3, .slice A0_4 l0_4.length c0_4, .int .u64 a0_5, .bool a0_6] 44 (0, 0)) (by (with_reducible repeat (first | refine blk_drewN ?_ _ | refine blk_drew ?_ | refine blk_alloc ?_ _)); exact BK167.out) hb)
              have n4_ := Aside0.mk (blk_below (g := gb181) (o := .cells #[.int .u64 t178, .int .i64 t179, .int .i64 t180] 29 (0, 0)) (by (with_reducible repeat (first | refine blk_drewN ?_ _ | refine blk_drew ?_ | refine blk_alloc ?_ _)); exact BK181.out) hb)
              have n5_ := Aside0.mk (Kd.C_below (by repeat (first | (with_reducible exact HR185.out) | (with_reducible refine Kd.C_alloc ?_ _) | (with_reducible refine Kd.C_drewN ?_ _) | (with_reducible refine Kd.C_drew ?_) | exact HR185.out)) hb)
              have n6_ := Aside0.mk (Kd.C_below (by repeat (first | (with_reducible exact HR190.out) | (with_reducible refine Kd.C_alloc ?_ _) | (with_reducible refine Kd.C_drewN ?_ _) | (with_reducible refine Kd.C_drew ?_) | exact HR190.out)) hb)
              have n7_ := Aside0.mk (Kd.C_below (by repeat (first | (with_reducible exact HR195.out) | (with_reducible refine Kd.C_alloc ?_ _) | (with_reducible refine Kd.C_drewN ?_ _) | (with_reducible refine Kd.C_drew ?_) | exact HR195.out)) hb)
              have n8_ := Aside0.mk (Kd.C_below (by repeat (first | (with_reducible exact HR200.out) | (with_reducible refine Kd.C_alloc ?_ _) | (with_reducible refine Kd.C_drewN ?_ _) | (with_reducible refine Kd.C_drew ?_) | exact HR200.out)) hb)
              have n9_ := Aside0.mk (below_step (by repeat (first | (with_reducible first | exact HB.out | apply below_alloc | apply pw_below_drewN | apply below_drew1 | refine below_set ?_ GE167.out | refine below_set ?_ GE181.out) | exact HB.out)) hb)
              clear HO171
              clear HO174
              clear HO177
              clear BK167
              clear BK181
              clear HR185
              clear HR190
              clear HR195
              clear HR200
              clear HB
              have HO171 := n0_
              have HO174 := n1_
              have HO177 := n2_
              have BK167 := n3_
              have BK181 := n4_
              have HR185 := n5_
              have HR190 := n6_
              have HR195 := n7_
              have HR200 := n8_
              have HB := n9_
              clear n0_ n1_ n2_ n3_ n4_ n5_ n6_ n7_ n8_ n9_
              (try clear hb)
              (try clear hb2)
              (try clear hk)
              (try clear hi)
              refine hK.out _ _ ⟨(blk_cell BK181.out 0).trans rfl, (blk_cell BK181.out 1).trans rfl, (blk_cell BK181.out 2).trans rfl, (blk_cell BK167.out 0).trans rfl, (blk_cell BK167.out 1).trans rfl, (blk_cell BK167.out 2).trans rfl, (blk_cell BK167.out 3).trans rfl, (blk_cell BK167.out 4).trans rfl, (blk_cell BK167.out 5).trans rfl, (blk_cell BK167.out 6).trans rfl⟩ (fun hHeld => ?_)
              clear hK K
              refine norm_ (a' := ?_) ?_ ?_
              rotate_left
              · show Act.put _ (some 64) _ = _
                simp only [Act.put, List.setIfInBounds_toArray, List.set_cons_zero, List.set_cons_succ, i64_w, i32_w]
                rfl
              refine pure_ (i := 18) (N := some 65) (v := ?_) (a' := ?_) #[true, true, true, true, true, true, true, true, true, true, true, true, true, true, true, true, true, true, true] rfl rfl (any_of HT_.out (by kernel_rfl)) (fun _ _ _ h => h) (Or.inl ⟨by rfl, ?_⟩) ?_ ?_
              rotate_left
              · intro w'
                go_simp
                with_reducible rfl
              rotate_left
              · simp only [Act.put, List.setIfInBounds_toArray, List.set_cons_zero, List.set_cons_succ, i64_w, i32_w]
                rfl
              refine done_ (done_of HT_.out (by kernel_rfl)) ?_
              try go_wp2
              have n0_ := Aside0.mk (Kd.R_drew HO171.out)
              have n1_ := Aside0.mk (Kd.R_drew HO174.out)
              have n2_ := Aside0.mk (Kd.R_drew HO177.out)
              have n3_ := Aside0.mk (blk_drew BK167.out)
              have n4_ := Aside0.mk (blk_drew BK181.out)
              have n5_ := Aside0.mk (Kd.C_drew HR185.out)
              have n6_ := Aside0.mk (Kd.C_drew HR190.out)
              have n7_ := Aside0.mk (Kd.C_drew HR195.out)
              have n8_ := Aside0.mk (Kd.C_drew HR200.out)
              have n9_ := Aside0.mk (below_drew1 HB.out)
              clear HO171
              clear HO174
              clear HO177
              clear BK167
              clear BK181
              clear HR185
              clear HR190
              clear HR195
              clear HR200
              clear HB
              have HO171 := n0_
              have HO174 := n1_
              have HO177 := n2_
              have BK167 := n3_
              have BK181 := n4_
              have HR185 := n5_
              have HR190 := n6_
              have HR195 := n7_
              have HR200 := n8_
              have HB := n9_
              clear n0_ n1_ n2_ n3_ n4_ n5_ n6_ n7_ n8_ n9_
              have q100 : ((l0_4.length : Int) : Int) ≤ ((t169.length : Int) : Int) := of_decide_eq_true (by first | (with_reducible assumption) | assumption)
              obtain ⟨i0100, hi0100, _, hsz100, _⟩ := info_parts info55
              have hroom100 : t169.length ≤ co89 := (Kd.R_reads' HO171.out).2.1
              have hC100 : Kd.C k55 _ Ao89 t169.length t169 := (Kd.R_reads' HO171.out).2.2
              have hcut100 := cut_to (P := Try.prog) 26 55 .i64 Try.underlying26 hi0100 Ao89 t169.length co89 (l0_4.length : Int) (of_decide_eq_true (by first | (with_reducible assumption) | assumption)) q100 hroom100
              have hr100 := Kd.C_take (m := ((l0_4.length : Int) : Int).toNat) hC100 (by omega)
              have hy100 : y202.length = ((l0_4.length : Int) : Int).toNat := (by rw [Ny202.out, List.length_take]; omega)
              rw [← Ny202.out] at hr100
              rw [← hy100] at hcut100
              have HR205 := Aside0.mk hr100
              have HC205 := Aside0.mk (show y202.length ≤ co89 from by omega)
              clear hr100 hC100 hroom100 hi0100 hsz100
              have KY100 := Aside0.mk hy100
              clear hy100
              have KL100 := Aside0.mk (show ((l0_4.length : Int) : Int).toNat ≤ t169.length from by omega)
              replace q100 := eq_true q100
              refine start_ (n := 11) (S := fun w' => w'.cell? ⟨gb181, 0, none⟩ = some (.int .u64 t178) ∧ w'.cell? ⟨gb181, 1, none⟩ = some (.int .i64 t179) ∧ w'.cell? ⟨gb181, 2, none⟩ = some (.int .i64 t180)) (ds := []) #[false, false, false, false, false, false, false, false, false, false, false] (by kernel_rfl) rfl rfl ⟨(blk_cell BK181.out 0).trans rfl, (blk_cell BK181.out 1).trans rfl, (blk_cell BK181.out 2).trans rfl⟩ (fun hHeld => ?_); refine with_tabW croftlaw11_OracleTurns.tab11 croftlaw11_OracleTurns.bits11 (fun HT_ HW_ => ?_)
              generalize w98.drew = w99 at HO171 HO174 HO177 BK167 BK181 HR185 HR190 HR195 HR200 HB HR205 hHeld ⊢
              refine pure_ (i := 1) (N := some 68) (v := ?_) (a' := ?_) #[false, true, false, false, false, false, false, false, false, false, false] rfl rfl (any_of HT_.out (by kernel_rfl)) (fun _ _ _ h => h) (Or.inl ⟨by rfl, ?_⟩) ?_ ?_
              rotate_left
              · intro w'
                go_simp
                with_reducible rfl
              rotate_left
              · simp only [Act.put, List.setIfInBounds_toArray, List.set_cons_zero, List.set_cons_succ, i64_w, i32_w]
                rfl
              refine pure_ (i := 2) (N := some 69) (v := ?_) (a' := ?_) #[false, true, true, false, false, false, false, false, false, false, false] rfl rfl (any_of HT_.out (by kernel_rfl)) (fun _ _ _ h => h) (Or.inl ⟨by rfl, ?_⟩) ?_ ?_
              rotate_left
              · intro w'
                go_simp
                with_reducible rfl
              rotate_left
              · simp only [Act.put, List.setIfInBounds_toArray, List.set_cons_zero, List.set_cons_succ, i64_w, i32_w]
                rfl
              refine pure_ (i := 3) (N := some 70) (v := ?_) (a' := ?_) #[false, true, true, true, false, false, false, false, false, false, false] rfl rfl (any_of HT_.out (by kernel_rfl)) (fun _ _ _ h => h) (Or.inl ⟨by rfl, ?_⟩) ?_ ?_
              rotate_left
              · intro w'
                go_simp
                with_reducible rfl
              rotate_left
              · simp only [Act.put, List.setIfInBounds_toArray, List.set_cons_zero, List.set_cons_succ, i64_w, i32_w]
                rfl
              refine pure_ (i := 4) (N := some 71) (v := ?_) (a' := ?_) #[false, true, true, true, true, false, false, false, false, false, false] rfl rfl (any_of HT_.out (by kernel_rfl)) (fun _ _ _ h => h) (Or.inl ⟨by rfl, ?_⟩) ?_ ?_
              rotate_left
              · intro w'
                go_simp
                with_reducible rfl
              rotate_left
              · simp only [Act.put, List.setIfInBounds_toArray, List.set_cons_zero, List.set_cons_succ, i64_w, i32_w]
                rfl
              refine take_ (i := 0) (N := some 67) (v := ?_) (a' := ?_) #[true, true, true, true, true, false, false, false, false, false, false] rfl rfl (take_ofW HT_.out HW_.out (by kernel_rfl)) (fun _ _ _ h => h) (Or.inl ⟨by rfl, ?_⟩) hHeld ?_ ?_
              rotate_left
              · rintro w' ⟨s0, s1, s2⟩
                go_simp
                with_reducible rfl
              rotate_left
              · simp only [Act.put, List.setIfInBounds_toArray, List.set_cons_zero, List.set_cons_succ, i64_w, i32_w]
                rfl
              refine one_ (i := 5) (N := some 72) #[true, true, true, true, true, true, false, false, false, false, false] rfl rfl (one_of HT_.out (by kernel_rfl)) (by decide) (fun K hK => ?_)
              refine goes_ Try.func20 (by kernel_rfl) rfl #[.agg #[.int .u64 t178, .int .i64 t179, .int .i64 t180], .slice Ao89 y202.length co89, .slice A1 l1.length c1] (by rfl) rfl rfl (by (try simp only [List.map_toArray, List.map_cons, List.map_nil]); first | done | rfl | (rw [show y202.length = y182.length from by rw [Ny202.out, Ny182.out]]; rfl) | (rw [show y202.length = y192.length from by rw [Ny202.out, Ny192.out]]; rfl) | (simp only [List.length_drop, List.length_take]; rfl)) ?_
              with_reducible refine (oracle_Least.calls t178 t179 t180 _ _ y202 _ _ l1 t206 t207 _ ?side1 ?side2 ?side3 ?side4 A72.out).mono ?_
              (case side1 => repeat (first | exact (by repeat (first | (with_reducible exact HR205.out) | (with_reducible refine Kd.C_alloc ?_ _) | (with_reducible refine Kd.C_drewN ?_ _) | (with_reducible refine Kd.C_drew ?_) | exact HR205.out)) | (with_reducible refine Kd.C_alloc ?_ _) | (with_reducible refine Kd.C_drewN ?_ _) | (with_reducible refine Kd.C_drew ?_)))
              (case side2 => exact HC205.out)
              (case side3 => repeat (first | exact (Kd.C_below HR1.out HB.out) | (with_reducible refine Kd.C_alloc ?_ _) | (with_reducible refine Kd.C_drewN ?_ _) | (with_reducible refine Kd.C_drew ?_)))
              (case side4 => exact HC1.out)
              rintro e w101 ⟨rfl, hb⟩
              refine ⟨_, rfl, ?_⟩
              have n0_ := Aside0.mk (Kd.R_below (by (with_reducible repeat (first | apply Kd.R_alloc | apply Kd.R_drewN | apply Kd.R_drew)); exact HO171.out) hb)
              have n1_ := Aside0.mk (Kd.R_below (by (with_reducible repeat (first | apply Kd.R_alloc | apply Kd.R_drewN | apply Kd.R_drew)); exact HO174.out) hb)
              have n2_ := Aside0.mk (Kd.R_below (by (with_reducible repeat (first | apply Kd.R_alloc | apply Kd.R_drewN | apply Kd.R_drew)); exact HO177.out) hb)
              have n3_ := Aside0.mk (blk_below (g := gb167) (o := .cells #[.int .u64 a0_0, .int .i64 a0_1, .int .i64 a0_2, .int .i64 a0_3, .slice A0_4 l0_4.length c0_4, .int .u64 a0_5, .bool a0_6] 44 (0, 0)) (by (with_reducible repeat (first | refine blk_drewN ?_ _ | refine blk_drew ?_ | refine blk_alloc ?_ _)); exact BK167.out) hb)
              have n4_ := Aside0.mk (blk_below (g := gb181) (o := .cells #[.int .u64 t178, .int .i64 t179, .int .i64 t180] 29 (0, 0)) (by (with_reducible repeat (first | refine blk_drewN ?_ _ | refine blk_drew ?_ | refine blk_alloc ?_ _)); exact BK181.out) hb)
              have n5_ := Aside0.mk (Kd.C_below (by repeat (first | (with_reducible exact HR185.out) | (with_reducible refine Kd.C_alloc ?_ _) | (with_reducible refine Kd.C_drewN ?_ _) | (with_reducible refine Kd.C_drew ?_) | exact HR185.out)) hb)
              have n6_ := Aside0.mk (Kd.C_below (by repeat (first | (with_reducible exact HR190.out) | (with_reducible refine Kd.C_alloc ?_ _) | (with_reducible refine Kd.C_drewN ?_ _) | (with_reducible refine Kd.C_drew ?_) | exact HR190.out)) hb)
              have n7_ := Aside0.mk (Kd.C_below (by repeat (first | (with_reducible exact HR195.out) | (with_reducible refine Kd.C_alloc ?_ _) | (with_reducible refine Kd.C_drewN ?_ _) | (with_reducible refine Kd.C_drew ?_) | exact HR195.out)) hb)
              have n8_ := Aside0.mk (Kd.C_below (by repeat (first | (with_reducible exact HR200.out) | (with_reducible refine Kd.C_alloc ?_ _) | (with_reducible refine Kd.C_drewN ?_ _) | (with_reducible refine Kd.C_drew ?_) | exact HR200.out)) hb)
              have n9_ := Aside0.mk (Kd.C_below (by repeat (first | (with_reducible exact HR205.out) | (with_reducible refine Kd.C_alloc ?_ _) | (with_reducible refine Kd.C_drewN ?_ _) | (with_reducible refine Kd.C_drew ?_) | exact HR205.out)) hb)
              have n10_ := Aside0.mk (below_step (by repeat (first | (with_reducible first | exact HB.out | apply below_alloc | apply pw_below_drewN | apply below_drew1 | refine below_set ?_ GE167.out | refine below_set ?_ GE181.out) | exact HB.out)) hb)
              clear HO171
              clear HO174
              clear HO177
              clear BK167
              clear BK181
              clear HR185
              clear HR190
              clear HR195
              clear HR200
              clear HR205
              clear HB
              have HO171 := n0_
              have HO174 := n1_
              have HO177 := n2_
              have BK167 := n3_
              have BK181 := n4_
              have HR185 := n5_
              have HR190 := n6_
              have HR195 := n7_
              have HR200 := n8_
              have HR205 := n9_
              have HB := n10_
              clear n0_ n1_ n2_ n3_ n4_ n5_ n6_ n7_ n8_ n9_ n10_
              (try clear hb)
              (try clear hb2)
              (try clear hk)
              (try clear hi)
              refine hK.out _ _ ⟨(blk_cell BK181.out 0).trans rfl, (blk_cell BK181.out 1).trans rfl, (blk_cell BK181.out 2).trans rfl⟩ (fun hHeld => ?_)
              clear hK K
              refine norm_ (a' := ?_) ?_ ?_
              rotate_left
              · show Act.put _ (some 72) _ = _
                simp only [Act.put, List.setIfInBounds_toArray, List.set_cons_zero, List.set_cons_succ, i64_w, i32_w]
                rfl
              refine pure_ (i := 6) (N := some 66) (v := ?_) (a' := ?_) #[true, true, true, true, true, true, true, false, false, false, false] rfl rfl (any_of HT_.out (by kernel_rfl)) (fun _ _ _ h => h) (Or.inl ⟨by rfl, ?_⟩) ?_ ?_
              rotate_left
              · intro w'
                go_simp
                with_reducible rfl
              rotate_left
              · simp only [Act.put, List.setIfInBounds_toArray, List.set_cons_zero, List.set_cons_succ, i64_w, i32_w]
                rfl
              refine pure_ (i := 7) (N := some 73) (v := ?_) (a' := ?_) #[true, true, true, true, true, true, true, true, false, false, false] rfl rfl (any_of HT_.out (by kernel_rfl)) (fun _ _ _ h => h) (Or.inl ⟨by rfl, ?_⟩) ?_ ?_
              rotate_left
              · intro w'
                go_simp
                with_reducible rfl
              rotate_left
              · simp only [Act.put, List.setIfInBounds_toArray, List.set_cons_zero, List.set_cons_succ, i64_w, i32_w]
                rfl
              refine pure_ (i := 8) (N := some 74) (v := ?_) (a' := ?_) #[true, true, true, true, true, true, true, true, true, false, false] rfl rfl (any_of HT_.out (by kernel_rfl)) (fun _ _ _ h => h) (Or.inl ⟨by rfl, ?_⟩) ?_ ?_
              rotate_left
              · intro w'
                go_simp
                with_reducible rfl
              rotate_left
              · simp only [Act.put, List.setIfInBounds_toArray, List.set_cons_zero, List.set_cons_succ, i64_w, i32_w]
                rfl
              refine pure_ (i := 9) (N := some 9) (v := ?_) (a' := ?_) #[true, true, true, true, true, true, true, true, true, true, false] rfl rfl (any_of HT_.out (by kernel_rfl)) (fun _ _ _ h => h) (Or.inl ⟨by rfl, ?_⟩) ?_ ?_
              rotate_left
              · intro w'
                go_simp
                with_reducible rfl
              rotate_left
              · simp only [Act.put, List.setIfInBounds_toArray, List.set_cons_zero, List.set_cons_succ, i64_w, i32_w]
                rfl
              refine pure_ (i := 10) (N := some 10) (v := ?_) (a' := ?_) #[true, true, true, true, true, true, true, true, true, true, true] rfl rfl (any_of HT_.out (by kernel_rfl)) (fun _ _ _ h => h) (Or.inl ⟨by rfl, ?_⟩) ?_ ?_
              rotate_left
              · intro w'
                go_simp
                with_reducible rfl
              rotate_left
              · simp only [Act.put, List.setIfInBounds_toArray, List.set_cons_zero, List.set_cons_succ, i64_w, i32_w]
                rfl
              refine done_ (done_of HT_.out (by kernel_rfl)) ?_
              try go_wp2
              go_loopg [11, 12] k (fun kq v11 v12 w' => ∃ (x11_1 : List Int) (x12_1 : Int), v12 = .int .i64 x12_1 ∧ Aside0 (croftlaw11_OracleTurns.l0 kq l1 t175 (l0_4.length : Int) t206 t207 x11_1 x12_1 t178 t179 t180 = some r) ∧ Aside0 (kq ≤ k) ∧ Aside0 (Kd.R k55 55 w' w.heap.size (fun _ => True) (.slice Ao91 t175.length co91) t175) ∧ Aside0 (Kd.R (Kd.int .u64) 22 w' w.heap.size (fun _ => True) v11 x11_1) ∧ Aside0 (w'.heap[gb167]? = some (.cells #[.int .u64 a0_0, .int .i64 a0_1, .int .i64 a0_2, .int .i64 a0_3, (.slice A0_4 l0_4.length c0_4), .int .u64 a0_5, .bool a0_6] 44 (0, 0))) ∧ Aside0 (w'.heap[gb181]? = some (.cells #[.int .u64 t178, .int .i64 t179, .int .i64 t180] 29 (0, 0))) ∧ Aside0 (Below w.heap.size w w'))
              case atStart => exact ⟨(([] : List Int)), (wrap64 ((l1.length : Int) - 1)), (by first | rfl | (simp; done) | (simp [*]; done)), H', ⟨Nat.le_refl _⟩, ⟨by (with_reducible repeat (first | apply Kd.R_alloc | apply Kd.R_drewN | apply Kd.R_drew)); exact Kd.R_mono HO177.out (fun _ hk => trivial)⟩, ⟨by first | exact Kd.R_nil _ _ _ _ _ | exact Kd.N_nil _ _ _ _ _ | exact Kd.V_nil _ _ _ _ _ | exact Kd.Q_nil _ _ _ _ _ | exact Kd.S_nil _ _ _ _ _⟩, ⟨by (with_reducible repeat (first | refine blk_drewN ?_ _ | refine blk_drew ?_ | refine blk_alloc ?_ _)); exact BK167.out⟩, ⟨by (with_reducible repeat (first | refine blk_drewN ?_ _ | refine blk_drew ?_ | refine blk_alloc ?_ _)); exact BK181.out⟩, ⟨by repeat (first | (with_reducible first | exact HB.out | apply below_alloc | apply pw_below_drewN | apply below_drew1 | refine below_set ?_ GE167.out | refine below_set ?_ GE181.out) | exact HB.out)⟩⟩
              case round =>
                clear H'
                try clear c1
                try clear q1
                try clear c2
                try clear p2
                try clear p6
                try clear q9
                try clear q10
                try clear c14
                try clear c20
                try clear c23
                try clear p64
                try clear q95
                try clear q96
                try clear q100
                try clear q100
                try clear q95
                try clear q96
                obtain ⟨x11_1, x12_1, rfl, HA, HK1, HO_6, HO_11, BK167, BK181, HB⟩ := hrel
                cases gk with
                | zero => exact absurd HA.out (by simp [croftlaw11_OracleTurns.l0])
                | succ k1 =>
                  have H := HA.out
                  clear HA
                  simp only [croftlaw11_OracleTurns.l0] at H
                  by_cases c102 : x12_1 ≥ 0
                  · rw [if_pos c102] at H
                    have c102b0 : decide (0 ≤ x12_1) = true := decide_eq_true c102
                    clear c102
                    by_cases c103 : 0 ≤ x12_1
                    · rw [if_pos c103] at H
                      have c103b0 : decide (0 ≤ x12_1) = true := decide_eq_true c103
                      clear c103
                      by_cases c104 : x12_1 < (l1.length : Int)
                      · rw [if_pos c104] at H
                        have c104b0 : decide (x12_1 < (l1.length : Int)) = true := decide_eq_true c104
                        clear c104
                        by_cases c105 : x11_1.length < 17592186044416
                        · rw [if_pos c105] at H
                          have LMc105 := Aside0.mk c105
                          clear c105
                          obtain ⟨y209, hy209⟩ : ∃ y_ : List Int, y_ = (x11_1 ++ [rd l1 x12_1]) := ⟨_, rfl⟩
                          replace H : (croftlaw11_OracleTurns.l0 k1 l1 t175 (l0_4.length : Int) t206 t207 y209 (wrap64 (x12_1 - 1)) t178 t179 t180) = some r := by first | (rw [hy209]; with_reducible exact H) | (have H2_ := (Option.bind_some _ _).symm.trans H; rw [hy209]; with_reducible exact H2_) | (have H2_ := (Option.bind_some _ _).symm.trans H; with_reducible exact H2_) | with_reducible exact H | (rw [hy209]; exact H) | exact H
                          have Ny209 := Aside0.mk hy209
                          clear hy209
                          have H' := Aside0.mk H
                          clear H
                          have p208 : 0 ≤ (x12_1 : Int) := of_decide_eq_true (by first | (with_reducible assumption) | assumption)
                          have q208 : x12_1 < (l1.length : Int) := of_decide_eq_true (by first | (with_reducible assumption) | assumption)
                          obtain ⟨ad208, e208, hx208_0⟩ := Kd.at_int HR1.out x12_1 p208 q208
                          cases e208
                          replace hx208_0 := (HB.out.cell (World.block_lt_of_cell? w _ hx208_0)).trans hx208_0
                          replace p208 := eq_true p208
                          replace q208 := eq_true q208
                          go_wp2_with (first | ((with_reducible refine gate_builtin (b := .append) (xs := #[.tmp 82, .tmp 87]) rfl ?_); at_builtin; refine Kd.R_append (Kd.int .u64) (w0 := w) w.heap.size rfl (.tmp 82) (.tmp 87) 35 22 (.int .u64 0) 8 rfl Try.underlying35 info22 rfl (by decide) (by omega) u11 x11_1 (rd l1 x12_1) [.int .u64 (rd l1 x12_1)] (fun _ => True) (fun _ => False) rfl rfl ?aP (fun _ hk => hk.elim) ?aF ?aO ?aB ?aS ?aL ?_; (case aP => exact rfl); (case aB => exact (by repeat (first | (with_reducible first | exact HB.out | apply below_alloc | apply pw_below_drewN | apply below_drew1 | refine below_set ?_ GE167.out | refine below_set ?_ GE181.out) | exact HB.out))); (case aF => exact (fun _ _ => trivial)); (case aO => exact (by (with_reducible repeat (first | apply Kd.R_alloc | apply Kd.R_drewN | apply Kd.R_drew)); exact HO_11.out)); (case aS => exact (below_size (by repeat (first | (with_reducible first | exact HB.out | apply below_alloc | apply pw_below_drewN | apply below_drew1 | refine below_set ?_ GE167.out | refine below_set ?_ GE181.out) | exact HB.out)))); (case aL => have := LMc105.out; omega); intro v210 w106 ho hb hg hat; rw [← Ny209.out] at ho; have n0_ := Aside0.mk (Kd.R_over' (by (with_reducible repeat (first | apply Kd.R_alloc | apply Kd.R_drewN | apply Kd.R_drew)); exact HO_6.out) (Kd.R_typed (by (with_reducible repeat (first | apply Kd.R_alloc | apply Kd.R_drewN | apply Kd.R_drew)); exact HO_11.out)) (by decide) hg); have n1_ := Aside0.mk (blk_grown (g := gb167) (o := .cells #[.int .u64 a0_0, .int .i64 a0_1, .int .i64 a0_2, .int .i64 a0_3, .slice A0_4 l0_4.length c0_4, .int .u64 a0_5, .bool a0_6] 44 (0, 0)) (by (with_reducible repeat (first | refine blk_drewN ?_ _ | refine blk_drew ?_ | refine blk_alloc ?_ _)); exact BK167.out) hg (Kd.R_ne HO_11.out BK167.out (by decide))); have n2_ := Aside0.mk (blk_grown (g := gb181) (o := .cells #[.int .u64 t178, .int .i64 t179, .int .i64 t180] 29 (0, 0)) (by (with_reducible repeat (first | refine blk_drewN ?_ _ | refine blk_drew ?_ | refine blk_alloc ?_ _)); exact BK181.out) hg (Kd.R_ne HO_11.out BK181.out (by decide))); have n3_ := Aside0.mk (hb); have n4_ := Aside0.mk (ho); clear HO_6; clear BK167; clear BK181; clear HB; clear HO_11; have HO_6 := n0_; have BK167 := n1_; have BK181 := n2_; have HB := n3_; have HO211 := n4_; clear n0_ n1_ n2_ n3_ n4_; clear ho hb hg hat))
                          go_roundg k1
                          case measure => have := HK1.out; omega
                          case rel => exact ⟨(y209), (wrap64 (x12_1 - 1)), (by first | rfl | (simp; done) | (simp [*]; done)), H', ⟨by have := HK1.out; omega⟩, ⟨by (with_reducible repeat (first | apply Kd.R_alloc | apply Kd.R_drewN | apply Kd.R_drew)); exact HO_6.out⟩, ⟨by (with_reducible repeat (first | apply Kd.R_alloc | apply Kd.R_drewN | apply Kd.R_drew)); exact HO211.out⟩, ⟨by (with_reducible repeat (first | refine blk_drewN ?_ _ | refine blk_drew ?_ | refine blk_alloc ?_ _)); exact BK167.out⟩, ⟨by (with_reducible repeat (first | refine blk_drewN ?_ _ | refine blk_drew ?_ | refine blk_alloc ?_ _)); exact BK181.out⟩, ⟨by repeat (first | (with_reducible first | exact HB.out | apply below_alloc | apply pw_below_drewN | apply below_drew1 | refine below_set ?_ GE167.out | refine below_set ?_ GE181.out) | exact HB.out)⟩⟩
                        · rw [if_neg c105] at H
                          exact absurd H (by simp)
                      · rw [if_neg c104] at H
                        exact absurd H (by simp)
                    · rw [if_neg c103] at H
                      exact absurd H (by simp)
                  · rw [if_neg c102] at H
                    have c102b0 : decide (0 ≤ x12_1) = false := decide_eq_false c102
                    clear c102
                    by_cases c107 : 0 ≤ (l0_4.length : Int)
                    · rw [if_pos c107] at H
                      have c107b0 := eq_true c107
                      have c107b1 : decide (0 ≤ (l0_4.length : Int)) = true := decide_eq_true c107
                      clear c107
                      by_cases c108 : (l0_4.length : Int) ≤ (t175.length : Int)
                      · rw [if_pos c108] at H
                        have c108b0 := eq_true c108
                        have c108b1 : decide ((l0_4.length : Int) ≤ (t175.length : Int)) = true := decide_eq_true c108
                        clear c108
                        obtain ⟨y212, hy212⟩ : ∃ y_ : List (S55), y_ = (t175.take ((l0_4.length : Int) : Int).toNat) := ⟨_, rfl⟩
                        replace H : ((oracle_Least.f t178 t179 t180 y212 x11_1).bind fun bt216 => (if t206 = bt216.1 then (some (t207 == bt216.2)) else (some false))) = some r := by first | (rw [hy212]; with_reducible exact H) | (have H2_ := (Option.bind_some _ _).symm.trans H; rw [hy212]; with_reducible exact H2_) | (have H2_ := (Option.bind_some _ _).symm.trans H; with_reducible exact H2_) | with_reducible exact H | (rw [hy212]; exact H) | exact H
                        have Ny212 := Aside0.mk hy212
                        clear hy212
                        replace H := Option.bind_eq_some_iff.mp H
                        obtain ⟨⟨t216, t217⟩, A1090, H⟩ := H
                        replace H : (if t206 = t216 then (some (t207 == t217)) else (some false)) = some r := H
                        have A109 := Aside0.mk A1090
                        clear A1090
                        by_cases c110 : t206 = t216
                        · rw [if_pos c110] at H
                          have c110b0 : (t206 == t216) = true := beq_iff_eq.mpr c110
                          have c110b1 : (t206 != t216) = false := bne_eq_false_iff_eq.mpr c110
                          clear c110
                          obtain rfl := Option.some.inj H
                          try go_wp2
                          have n0_ := Aside0.mk (Kd.R_drew HO_6.out)
                          have n1_ := Aside0.mk (Kd.R_drew HO_11.out)
                          have n2_ := Aside0.mk (blk_drew BK167.out)
                          have n3_ := Aside0.mk (blk_drew BK181.out)
                          have n4_ := Aside0.mk (below_drew1 HB.out)
                          clear HO_6
                          clear HO_11
                          clear BK167
                          clear BK181
                          clear HB
                          have HO_6 := n0_
                          have HO_11 := n1_
                          have BK167 := n2_
                          have BK181 := n3_
                          have HB := n4_
                          clear n0_ n1_ n2_ n3_ n4_
                          have q112 : ((l0_4.length : Int) : Int) ≤ ((t175.length : Int) : Int) := of_decide_eq_true (by first | (with_reducible assumption) | assumption)
                          obtain ⟨i0112, hi0112, _, hsz112, _⟩ := info_parts info55
                          have hroom112 : t175.length ≤ co91 := (Kd.R_reads' HO_6.out).2.1
                          have hC112 : Kd.C k55 _ Ao91 t175.length t175 := (Kd.R_reads' HO_6.out).2.2
                          have hcut112 := cut_to (P := Try.prog) 26 55 .i64 Try.underlying26 hi0112 Ao91 t175.length co91 (l0_4.length : Int) (of_decide_eq_true (by first | (with_reducible assumption) | assumption)) q112 hroom112
                          have hr112 := Kd.C_take (m := ((l0_4.length : Int) : Int).toNat) hC112 (by omega)
                          have hy112 : y212.length = ((l0_4.length : Int) : Int).toNat := (by rw [Ny212.out, List.length_take]; omega)
                          rw [← Ny212.out] at hr112
                          rw [← hy112] at hcut112
                          have HR215 := Aside0.mk hr112
                          have HC215 := Aside0.mk (show y212.length ≤ co91 from by omega)
                          clear hr112 hC112 hroom112 hi0112 hsz112
                          have KY112 := Aside0.mk hy112
                          clear hy112
                          have KL112 := Aside0.mk (show ((l0_4.length : Int) : Int).toNat ≤ t175.length from by omega)
                          replace q112 := eq_true q112
                          obtain ⟨Ao113, co113, eo113⟩ := Kd.R_slice HO_11.out
                          (first | subst eo113 | (injection eo113 with f1_ f2_ f3_; have f4_ := f1_.symm; have f5_ := f3_.symm; clear f1_ f2_ f3_; subst f4_; subst f5_))
                          refine start_ (n := 11) (S := fun w' => w'.cell? ⟨gb181, 0, none⟩ = some (.int .u64 t178) ∧ w'.cell? ⟨gb181, 1, none⟩ = some (.int .i64 t179) ∧ w'.cell? ⟨gb181, 2, none⟩ = some (.int .i64 t180)) (ds := []) #[false, false, false, false, false, false, false, false, false, false, false] (by kernel_rfl) rfl rfl ⟨(blk_cell BK181.out 0).trans rfl, (blk_cell BK181.out 1).trans rfl, (blk_cell BK181.out 2).trans rfl⟩ (fun hHeld => ?_); refine with_tabW croftlaw11_OracleTurns.tab17 croftlaw11_OracleTurns.bits17 (fun HT_ HW_ => ?_)
                          generalize wr.drew = w111 at HO_6 HO_11 BK167 BK181 HB HR215 hHeld ⊢
                          refine pure_ (i := 1) (N := some 91) (v := ?_) (a' := ?_) #[false, true, false, false, false, false, false, false, false, false, false] rfl rfl (any_of HT_.out (by kernel_rfl)) (fun _ _ _ h => h) (Or.inl ⟨by rfl, ?_⟩) ?_ ?_
                          rotate_left
                          · intro w'
                            go_simp
                            with_reducible rfl
                          rotate_left
                          · simp only [Act.put, List.setIfInBounds_toArray, List.set_cons_zero, List.set_cons_succ, i64_w, i32_w]
                            rfl
                          refine pure_ (i := 2) (N := some 92) (v := ?_) (a' := ?_) #[false, true, true, false, false, false, false, false, false, false, false] rfl rfl (any_of HT_.out (by kernel_rfl)) (fun _ _ _ h => h) (Or.inl ⟨by rfl, ?_⟩) ?_ ?_
                          rotate_left
                          · intro w'
                            go_simp
                            with_reducible rfl
                          rotate_left
                          · simp only [Act.put, List.setIfInBounds_toArray, List.set_cons_zero, List.set_cons_succ, i64_w, i32_w]
                            rfl
                          refine pure_ (i := 3) (N := some 93) (v := ?_) (a' := ?_) #[false, true, true, true, false, false, false, false, false, false, false] rfl rfl (any_of HT_.out (by kernel_rfl)) (fun _ _ _ h => h) (Or.inl ⟨by rfl, ?_⟩) ?_ ?_
                          rotate_left
                          · intro w'
                            go_simp
                            with_reducible rfl
                          rotate_left
                          · simp only [Act.put, List.setIfInBounds_toArray, List.set_cons_zero, List.set_cons_succ, i64_w, i32_w]
                            rfl
                          refine pure_ (i := 4) (N := some 94) (v := ?_) (a' := ?_) #[false, true, true, true, true, false, false, false, false, false, false] rfl rfl (any_of HT_.out (by kernel_rfl)) (fun _ _ _ h => h) (Or.inl ⟨by rfl, ?_⟩) ?_ ?_
                          rotate_left
                          · intro w'
                            go_simp
                            with_reducible rfl
                          rotate_left
                          · simp only [Act.put, List.setIfInBounds_toArray, List.set_cons_zero, List.set_cons_succ, i64_w, i32_w]
                            rfl
                          refine take_ (i := 0) (N := some 90) (v := ?_) (a' := ?_) #[true, true, true, true, true, false, false, false, false, false, false] rfl rfl (take_ofW HT_.out HW_.out (by kernel_rfl)) (fun _ _ _ h => h) (Or.inl ⟨by rfl, ?_⟩) hHeld ?_ ?_
                          rotate_left
                          · rintro w' ⟨s0, s1, s2⟩
                            go_simp
                            with_reducible rfl
                          rotate_left
                          · simp only [Act.put, List.setIfInBounds_toArray, List.set_cons_zero, List.set_cons_succ, i64_w, i32_w]
                            rfl
                          refine one_ (i := 5) (N := some 95) #[true, true, true, true, true, true, false, false, false, false, false] rfl rfl (one_of HT_.out (by kernel_rfl)) (by decide) (fun K hK => ?_)
                          refine goes_ Try.func20 (by kernel_rfl) rfl #[.agg #[.int .u64 t178, .int .i64 t179, .int .i64 t180], .slice Ao91 y212.length co91, .slice Ao113 x11_1.length co113] (by rfl) rfl rfl (by (try simp only [List.map_toArray, List.map_cons, List.map_nil]); first | done | rfl | (rw [show y212.length = y187.length from by rw [Ny212.out, Ny187.out]]; rfl) | (rw [show y212.length = y197.length from by rw [Ny212.out, Ny197.out]]; rfl) | (simp only [List.length_drop, List.length_take]; rfl)) ?_
                          with_reducible refine (oracle_Least.calls t178 t179 t180 _ _ y212 _ _ x11_1 t216 t217 _ ?side1 ?side2 ?side3 ?side4 A109.out).mono ?_
                          (case side1 => repeat (first | exact (by repeat (first | (with_reducible exact HR215.out) | (with_reducible refine Kd.C_alloc ?_ _) | (with_reducible refine Kd.C_drewN ?_ _) | (with_reducible refine Kd.C_drew ?_) | exact HR215.out)) | (with_reducible refine Kd.C_alloc ?_ _) | (with_reducible refine Kd.C_drewN ?_ _) | (with_reducible refine Kd.C_drew ?_)))
                          (case side2 => exact HC215.out)
                          (case side3 => repeat (first | exact (Kd.R_reads' HO_11.out).2.2 | (with_reducible refine Kd.C_alloc ?_ _) | (with_reducible refine Kd.C_drewN ?_ _) | (with_reducible refine Kd.C_drew ?_)))
                          (case side4 => exact (Kd.R_reads' HO_11.out).2.1)
                          rintro e w114 ⟨rfl, hb⟩
                          refine ⟨_, rfl, ?_⟩
                          have n0_ := Aside0.mk (Kd.R_below (by (with_reducible repeat (first | apply Kd.R_alloc | apply Kd.R_drewN | apply Kd.R_drew)); exact HO_6.out) hb)
                          have n1_ := Aside0.mk (Kd.R_below (by (with_reducible repeat (first | apply Kd.R_alloc | apply Kd.R_drewN | apply Kd.R_drew)); exact HO_11.out) hb)
                          have n2_ := Aside0.mk (blk_below (g := gb167) (o := .cells #[.int .u64 a0_0, .int .i64 a0_1, .int .i64 a0_2, .int .i64 a0_3, .slice A0_4 l0_4.length c0_4, .int .u64 a0_5, .bool a0_6] 44 (0, 0)) (by (with_reducible repeat (first | refine blk_drewN ?_ _ | refine blk_drew ?_ | refine blk_alloc ?_ _)); exact BK167.out) hb)
                          have n3_ := Aside0.mk (blk_below (g := gb181) (o := .cells #[.int .u64 t178, .int .i64 t179, .int .i64 t180] 29 (0, 0)) (by (with_reducible repeat (first | refine blk_drewN ?_ _ | refine blk_drew ?_ | refine blk_alloc ?_ _)); exact BK181.out) hb)
                          have n4_ := Aside0.mk (Kd.C_below (by repeat (first | (with_reducible exact HR215.out) | (with_reducible refine Kd.C_alloc ?_ _) | (with_reducible refine Kd.C_drewN ?_ _) | (with_reducible refine Kd.C_drew ?_) | exact HR215.out)) hb)
                          have n5_ := Aside0.mk (below_step (by repeat (first | (with_reducible first | exact HB.out | apply below_alloc | apply pw_below_drewN | apply below_drew1 | refine below_set ?_ GE167.out | refine below_set ?_ GE181.out) | exact HB.out)) hb)
                          clear HO_6
                          clear HO_11
                          clear BK167
                          clear BK181
                          clear HR215
                          clear HB
                          have HO_6 := n0_
                          have HO_11 := n1_
                          have BK167 := n2_
                          have BK181 := n3_
                          have HR215 := n4_
                          have HB := n5_
                          clear n0_ n1_ n2_ n3_ n4_ n5_
                          (try clear hb)
                          (try clear hb2)
                          (try clear hk)
                          (try clear hi)
                          refine hK.out _ _ ⟨(blk_cell BK181.out 0).trans rfl, (blk_cell BK181.out 1).trans rfl, (blk_cell BK181.out 2).trans rfl⟩ (fun hHeld => ?_)
                          clear hK K
                          refine norm_ (a' := ?_) ?_ ?_
                          rotate_left
                          · show Act.put _ (some 95) _ = _
                            simp only [Act.put, List.setIfInBounds_toArray, List.set_cons_zero, List.set_cons_succ, i64_w, i32_w]
                            rfl
                          refine pure_ (i := 6) (N := some 89) (v := ?_) (a' := ?_) #[true, true, true, true, true, true, true, false, false, false, false] rfl rfl (any_of HT_.out (by kernel_rfl)) (fun _ _ _ h => h) (Or.inl ⟨by rfl, ?_⟩) ?_ ?_
                          rotate_left
                          · intro w'
                            go_simp
                            with_reducible rfl
                          rotate_left
                          · simp only [Act.put, List.setIfInBounds_toArray, List.set_cons_zero, List.set_cons_succ, i64_w, i32_w]
                            rfl
                          refine pure_ (i := 7) (N := some 96) (v := ?_) (a' := ?_) #[true, true, true, true, true, true, true, true, false, false, false] rfl rfl (any_of HT_.out (by kernel_rfl)) (fun _ _ _ h => h) (Or.inl ⟨by rfl, ?_⟩) ?_ ?_
                          rotate_left
                          · intro w'
                            go_simp
                            with_reducible rfl
                          rotate_left
                          · simp only [Act.put, List.setIfInBounds_toArray, List.set_cons_zero, List.set_cons_succ, i64_w, i32_w]
                            rfl
                          refine pure_ (i := 8) (N := some 97) (v := ?_) (a' := ?_) #[true, true, true, true, true, true, true, true, true, false, false] rfl rfl (any_of HT_.out (by kernel_rfl)) (fun _ _ _ h => h) (Or.inl ⟨by rfl, ?_⟩) ?_ ?_
                          rotate_left
                          · intro w'
                            go_simp
                            with_reducible rfl
                          rotate_left
                          · simp only [Act.put, List.setIfInBounds_toArray, List.set_cons_zero, List.set_cons_succ, i64_w, i32_w]
                            rfl
                          refine pure_ (i := 9) (N := some 13) (v := ?_) (a' := ?_) #[true, true, true, true, true, true, true, true, true, true, false] rfl rfl (any_of HT_.out (by kernel_rfl)) (fun _ _ _ h => h) (Or.inl ⟨by rfl, ?_⟩) ?_ ?_
                          rotate_left
                          · intro w'
                            go_simp
                            with_reducible rfl
                          rotate_left
                          · simp only [Act.put, List.setIfInBounds_toArray, List.set_cons_zero, List.set_cons_succ, i64_w, i32_w]
                            rfl
                          refine pure_ (i := 10) (N := some 14) (v := ?_) (a' := ?_) #[true, true, true, true, true, true, true, true, true, true, true] rfl rfl (any_of HT_.out (by kernel_rfl)) (fun _ _ _ h => h) (Or.inl ⟨by rfl, ?_⟩) ?_ ?_
                          rotate_left
                          · intro w'
                            go_simp
                            with_reducible rfl
                          rotate_left
                          · simp only [Act.put, List.setIfInBounds_toArray, List.set_cons_zero, List.set_cons_succ, i64_w, i32_w]
                            rfl
                          refine done_ (done_of HT_.out (by kernel_rfl)) ?_
                          try go_wp2
                          go_ret
                          exact ⟨by first | rfl | (simp [errW_none, errW_some] <;> rfl) | (simp [*, errW_none, errW_some] <;> rfl), by repeat (first | (with_reducible first | exact HB.out | apply below_alloc | apply pw_below_drewN | apply below_drew1 | refine below_set ?_ GE167.out | refine below_set ?_ GE181.out) | exact HB.out)⟩
                        · rw [if_neg c110] at H
                          have c110b0 : (t206 == t216) = false := beq_eq_false_iff_ne.mpr c110
                          have c110b1 : (t206 != t216) = true := bne_iff_ne.mpr c110
                          obtain rfl := Option.some.inj H
                          try go_wp2
                          have n0_ := Aside0.mk (Kd.R_drew HO_6.out)
                          have n1_ := Aside0.mk (Kd.R_drew HO_11.out)
                          have n2_ := Aside0.mk (blk_drew BK167.out)
                          have n3_ := Aside0.mk (blk_drew BK181.out)
                          have n4_ := Aside0.mk (below_drew1 HB.out)
                          clear HO_6
                          clear HO_11
                          clear BK167
                          clear BK181
                          clear HB
                          have HO_6 := n0_
                          have HO_11 := n1_
                          have BK167 := n2_
                          have BK181 := n3_
                          have HB := n4_
                          clear n0_ n1_ n2_ n3_ n4_
                          have q116 : ((l0_4.length : Int) : Int) ≤ ((t175.length : Int) : Int) := of_decide_eq_true (by first | (with_reducible assumption) | assumption)
                          obtain ⟨i0116, hi0116, _, hsz116, _⟩ := info_parts info55
                          have hroom116 : t175.length ≤ co91 := (Kd.R_reads' HO_6.out).2.1
                          have hC116 : Kd.C k55 _ Ao91 t175.length t175 := (Kd.R_reads' HO_6.out).2.2
                          have hcut116 := cut_to (P := Try.prog) 26 55 .i64 Try.underlying26 hi0116 Ao91 t175.length co91 (l0_4.length : Int) (of_decide_eq_true (by first | (with_reducible assumption) | assumption)) q116 hroom116
                          have hr116 := Kd.C_take (m := ((l0_4.length : Int) : Int).toNat) hC116 (by omega)
                          have hy116 : y212.length = ((l0_4.length : Int) : Int).toNat := (by rw [Ny212.out, List.length_take]; omega)
                          rw [← Ny212.out] at hr116
                          rw [← hy116] at hcut116
                          have HR215 := Aside0.mk hr116
                          have HC215 := Aside0.mk (show y212.length ≤ co91 from by omega)
                          clear hr116 hC116 hroom116 hi0116 hsz116
                          have KY116 := Aside0.mk hy116
                          clear hy116
                          have KL116 := Aside0.mk (show ((l0_4.length : Int) : Int).toNat ≤ t175.length from by omega)
                          replace q116 := eq_true q116
                          obtain ⟨Ao117, co117, eo117⟩ := Kd.R_slice HO_11.out
                          (first | subst eo117 | (injection eo117 with f1_ f2_ f3_; have f4_ := f1_.symm; have f5_ := f3_.symm; clear f1_ f2_ f3_; subst f4_; subst f5_))
                          refine start_ (n := 11) (S := fun w' => w'.cell? ⟨gb181, 0, none⟩ = some (.int .u64 t178) ∧ w'.cell? ⟨gb181, 1, none⟩ = some (.int .i64 t179) ∧ w'.cell? ⟨gb181, 2, none⟩ = some (.int .i64 t180)) (ds := []) #[false, false, false, false, false, false, false, false, false, false, false] (by kernel_rfl) rfl rfl ⟨(blk_cell BK181.out 0).trans rfl, (blk_cell BK181.out 1).trans rfl, (blk_cell BK181.out 2).trans rfl⟩ (fun hHeld => ?_); refine with_tabW croftlaw11_OracleTurns.tab17 croftlaw11_OracleTurns.bits17 (fun HT_ HW_ => ?_)
                          generalize wr.drew = w115 at HO_6 HO_11 BK167 BK181 HB HR215 hHeld ⊢
                          refine pure_ (i := 1) (N := some 91) (v := ?_) (a' := ?_) #[false, true, false, false, false, false, false, false, false, false, false] rfl rfl (any_of HT_.out (by kernel_rfl)) (fun _ _ _ h => h) (Or.inl ⟨by rfl, ?_⟩) ?_ ?_
                          rotate_left
                          · intro w'
                            go_simp
                            with_reducible rfl
                          rotate_left
                          · simp only [Act.put, List.setIfInBounds_toArray, List.set_cons_zero, List.set_cons_succ, i64_w, i32_w]
                            rfl
                          refine pure_ (i := 2) (N := some 92) (v := ?_) (a' := ?_) #[false, true, true, false, false, false, false, false, false, false, false] rfl rfl (any_of HT_.out (by kernel_rfl)) (fun _ _ _ h => h) (Or.inl ⟨by rfl, ?_⟩) ?_ ?_
                          rotate_left
                          · intro w'
                            go_simp
                            with_reducible rfl
                          rotate_left
                          · simp only [Act.put, List.setIfInBounds_toArray, List.set_cons_zero, List.set_cons_succ, i64_w, i32_w]
                            rfl
                          refine pure_ (i := 3) (N := some 93) (v := ?_) (a' := ?_) #[false, true, true, true, false, false, false, false, false, false, false] rfl rfl (any_of HT_.out (by kernel_rfl)) (fun _ _ _ h => h) (Or.inl ⟨by rfl, ?_⟩) ?_ ?_
                          rotate_left
                          · intro w'
                            go_simp
                            with_reducible rfl
                          rotate_left
                          · simp only [Act.put, List.setIfInBounds_toArray, List.set_cons_zero, List.set_cons_succ, i64_w, i32_w]
                            rfl
                          refine pure_ (i := 4) (N := some 94) (v := ?_) (a' := ?_) #[false, true, true, true, true, false, false, false, false, false, false] rfl rfl (any_of HT_.out (by kernel_rfl)) (fun _ _ _ h => h) (Or.inl ⟨by rfl, ?_⟩) ?_ ?_
                          rotate_left
                          · intro w'
                            go_simp
                            with_reducible rfl
                          rotate_left
                          · simp only [Act.put, List.setIfInBounds_toArray, List.set_cons_zero, List.set_cons_succ, i64_w, i32_w]
                            rfl
                          refine take_ (i := 0) (N := some 90) (v := ?_) (a' := ?_) #[true, true, true, true, true, false, false, false, false, false, false] rfl rfl (take_ofW HT_.out HW_.out (by kernel_rfl)) (fun _ _ _ h => h) (Or.inl ⟨by rfl, ?_⟩) hHeld ?_ ?_
                          rotate_left
                          · rintro w' ⟨s0, s1, s2⟩
                            go_simp
                            with_reducible rfl
                          rotate_left
                          · simp only [Act.put, List.setIfInBounds_toArray, List.set_cons_zero, List.set_cons_succ, i64_w, i32_w]
                            rfl
                          refine one_ (i := 5) (N := some 95) #[true, true, true, true, true, true, false, false, false, false, false] rfl rfl (one_of HT_.out (by kernel_rfl)) (by decide) (fun K hK => ?_)
                          refine goes_ Try.func20 (by kernel_rfl) rfl #[.agg #[.int .u64 t178, .int .i64 t179, .int .i64 t180], .slice Ao91 y212.length co91, .slice Ao117 x11_1.length co117] (by rfl) rfl rfl (by (try simp only [List.map_toArray, List.map_cons, List.map_nil]); first | done | rfl | (rw [show y212.length = y187.length from by rw [Ny212.out, Ny187.out]]; rfl) | (rw [show y212.length = y197.length from by rw [Ny212.out, Ny197.out]]; rfl) | (simp only [List.length_drop, List.length_take]; rfl)) ?_
                          with_reducible refine (oracle_Least.calls t178 t179 t180 _ _ y212 _ _ x11_1 t216 t217 _ ?side1 ?side2 ?side3 ?side4 A109.out).mono ?_
                          (case side1 => repeat (first | exact (by repeat (first | (with_reducible exact HR215.out) | (with_reducible refine Kd.C_alloc ?_ _) | (with_reducible refine Kd.C_drewN ?_ _) | (with_reducible refine Kd.C_drew ?_) | exact HR215.out)) | (with_reducible refine Kd.C_alloc ?_ _) | (with_reducible refine Kd.C_drewN ?_ _) | (with_reducible refine Kd.C_drew ?_)))
                          (case side2 => exact HC215.out)
                          (case side3 => repeat (first | exact (Kd.R_reads' HO_11.out).2.2 | (with_reducible refine Kd.C_alloc ?_ _) | (with_reducible refine Kd.C_drewN ?_ _) | (with_reducible refine Kd.C_drew ?_)))
                          (case side4 => exact (Kd.R_reads' HO_11.out).2.1)
                          rintro e w118 ⟨rfl, hb⟩
                          refine ⟨_, rfl, ?_⟩
                          have n0_ := Aside0.mk (Kd.R_below (by (with_reducible repeat (first | apply Kd.R_alloc | apply Kd.R_drewN | apply Kd.R_drew)); exact HO_6.out) hb)
                          have n1_ := Aside0.mk (Kd.R_below (by (with_reducible repeat (first | apply Kd.R_alloc | apply Kd.R_drewN | apply Kd.R_drew)); exact HO_11.out) hb)
                          have n2_ := Aside0.mk (blk_below (g := gb167) (o := .cells #[.int .u64 a0_0, .int .i64 a0_1, .int .i64 a0_2, .int .i64 a0_3, .slice A0_4 l0_4.length c0_4, .int .u64 a0_5, .bool a0_6] 44 (0, 0)) (by (with_reducible repeat (first | refine blk_drewN ?_ _ | refine blk_drew ?_ | refine blk_alloc ?_ _)); exact BK167.out) hb)
                          have n3_ := Aside0.mk (blk_below (g := gb181) (o := .cells #[.int .u64 t178, .int .i64 t179, .int .i64 t180] 29 (0, 0)) (by (with_reducible repeat (first | refine blk_drewN ?_ _ | refine blk_drew ?_ | refine blk_alloc ?_ _)); exact BK181.out) hb)
                          have n4_ := Aside0.mk (Kd.C_below (by repeat (first | (with_reducible exact HR215.out) | (with_reducible refine Kd.C_alloc ?_ _) | (with_reducible refine Kd.C_drewN ?_ _) | (with_reducible refine Kd.C_drew ?_) | exact HR215.out)) hb)
                          have n5_ := Aside0.mk (below_step (by repeat (first | (with_reducible first | exact HB.out | apply below_alloc | apply pw_below_drewN | apply below_drew1 | refine below_set ?_ GE167.out | refine below_set ?_ GE181.out) | exact HB.out)) hb)
                          clear HO_6
                          clear HO_11
                          clear BK167
                          clear BK181
                          clear HR215
                          clear HB
                          have HO_6 := n0_
                          have HO_11 := n1_
                          have BK167 := n2_
                          have BK181 := n3_
                          have HR215 := n4_
                          have HB := n5_
                          clear n0_ n1_ n2_ n3_ n4_ n5_
                          (try clear hb)
                          (try clear hb2)
                          (try clear hk)
                          (try clear hi)
                          refine hK.out _ _ ⟨(blk_cell BK181.out 0).trans rfl, (blk_cell BK181.out 1).trans rfl, (blk_cell BK181.out 2).trans rfl⟩ (fun hHeld => ?_)
                          clear hK K
                          refine norm_ (a' := ?_) ?_ ?_
                          rotate_left
                          · show Act.put _ (some 95) _ = _
                            simp only [Act.put, List.setIfInBounds_toArray, List.set_cons_zero, List.set_cons_succ, i64_w, i32_w]
                            rfl
                          refine pure_ (i := 6) (N := some 89) (v := ?_) (a' := ?_) #[true, true, true, true, true, true, true, false, false, false, false] rfl rfl (any_of HT_.out (by kernel_rfl)) (fun _ _ _ h => h) (Or.inl ⟨by rfl, ?_⟩) ?_ ?_
                          rotate_left
                          · intro w'
                            go_simp
                            with_reducible rfl
                          rotate_left
                          · simp only [Act.put, List.setIfInBounds_toArray, List.set_cons_zero, List.set_cons_succ, i64_w, i32_w]
                            rfl
                          refine pure_ (i := 7) (N := some 96) (v := ?_) (a' := ?_) #[true, true, true, true, true, true, true, true, false, false, false] rfl rfl (any_of HT_.out (by kernel_rfl)) (fun _ _ _ h => h) (Or.inl ⟨by rfl, ?_⟩) ?_ ?_
                          rotate_left
                          · intro w'
                            go_simp
                            with_reducible rfl
                          rotate_left
                          · simp only [Act.put, List.setIfInBounds_toArray, List.set_cons_zero, List.set_cons_succ, i64_w, i32_w]
                            rfl
                          refine pure_ (i := 8) (N := some 97) (v := ?_) (a' := ?_) #[true, true, true, true, true, true, true, true, true, false, false] rfl rfl (any_of HT_.out (by kernel_rfl)) (fun _ _ _ h => h) (Or.inl ⟨by rfl, ?_⟩) ?_ ?_
                          rotate_left
                          · intro w'
                            go_simp
                            with_reducible rfl
                          rotate_left
                          · simp only [Act.put, List.setIfInBounds_toArray, List.set_cons_zero, List.set_cons_succ, i64_w, i32_w]
                            rfl
                          refine pure_ (i := 9) (N := some 13) (v := ?_) (a' := ?_) #[true, true, true, true, true, true, true, true, true, true, false] rfl rfl (any_of HT_.out (by kernel_rfl)) (fun _ _ _ h => h) (Or.inl ⟨by rfl, ?_⟩) ?_ ?_
                          rotate_left
                          · intro w'
                            go_simp
                            with_reducible rfl
                          rotate_left
                          · simp only [Act.put, List.setIfInBounds_toArray, List.set_cons_zero, List.set_cons_succ, i64_w, i32_w]
                            rfl
                          refine pure_ (i := 10) (N := some 14) (v := ?_) (a' := ?_) #[true, true, true, true, true, true, true, true, true, true, true] rfl rfl (any_of HT_.out (by kernel_rfl)) (fun _ _ _ h => h) (Or.inl ⟨by rfl, ?_⟩) ?_ ?_
                          rotate_left
                          · intro w'
                            go_simp
                            with_reducible rfl
                          rotate_left
                          · simp only [Act.put, List.setIfInBounds_toArray, List.set_cons_zero, List.set_cons_succ, i64_w, i32_w]
                            rfl
                          refine done_ (done_of HT_.out (by kernel_rfl)) ?_
                          try go_wp2
                          go_ret
                          exact ⟨by first | rfl | (simp [errW_none, errW_some] <;> rfl) | (simp [*, errW_none, errW_some] <;> rfl), by repeat (first | (with_reducible first | exact HB.out | apply below_alloc | apply pw_below_drewN | apply below_drew1 | refine below_set ?_ GE167.out | refine below_set ?_ GE181.out) | exact HB.out)⟩
                      · rw [if_neg c108] at H
                        exact absurd H (by simp)
                    · rw [if_neg c107] at H
                      exact absurd H (by simp)
        · rw [if_neg c13] at H
          exact absurd H (by simp)
      · rw [if_neg c10] at H
        exact absurd H (by simp)
    · rw [if_neg c9] at H
      exact absurd H (by simp)
  · replace c4 := Bool.eq_false_iff.mpr c4
    subst c4
    have H1 : (some false) = some r := by rw [if_neg (show ¬ (false = true) by decide)] at H; exact H
    clear H
    have H := H1
    clear H1
    obtain rfl := Option.some.inj H
    go_enter Try.func5, Try.ntmps5
    go_wp2_with (first | ((with_reducible refine gate_dst (N := 2) rfl ?_); refine box_event ?hg (N := 2) ?hd (cs := #[.int .u64 a0_0, .int .i64 a0_1, .int .i64 a0_2, .int .i64 a0_3, .slice A0_4 l0_4.length c0_4, .int .u64 a0_5, .bool a0_6]) (t := 44) ?hr ?_; (case hd => rfl); (case hg => rfl); (case hr => first | (go_simp; done) | (go_simp; rfl)); intro gb167 hg w119 hbox hb; have n0_ := Aside0.mk (below_step (by repeat (first | (with_reducible first | exact HB.out | apply below_alloc | apply pw_below_drewN | apply below_drew1) | exact HB.out)) hb); have n1_ := Aside0.mk (hbox); have n2_ := Aside0.mk ((by rw [hg]; exact (below_size (by repeat (first | (with_reducible first | exact HB.out | apply below_alloc | apply pw_below_drewN | apply below_drew1) | exact HB.out))) : w.heap.size ≤ gb167)); have n3_ := Aside0.mk ((by rw [hg]; exact (below_size (by repeat (first | (with_reducible first | exact HB.out | apply below_alloc | apply pw_below_drewN | apply below_drew1) | exact HB.out))) : w.heap.size ≤ gb167)); clear HB; have HB := n0_; have BK167 := n1_; have GW167 := n2_; have GE167 := n3_; clear n0_ n1_ n2_ n3_; clear hb hbox hg) | ((with_reducible refine gate_callee (f := 18) rfl ?_); refine goesL_ (some 15) rfl rfl Try.func18 (by kernel_rfl) rfl #[] rfl (by (try simp only [List.map_toArray, List.map_cons, List.map_nil]); first | done | rfl | (simp only [List.length_drop, List.length_take]; rfl)) ?_; (with_reducible refine (croftlaw11_awake.calls k  false _ A3.out).mono ?_); rintro e w120 ⟨rfl, hb⟩; refine ⟨_, rfl, ?_⟩; have n0_ := Aside0.mk (blk_below (g := gb167) (o := .cells #[.int .u64 a0_0, .int .i64 a0_1, .int .i64 a0_2, .int .i64 a0_3, .slice A0_4 l0_4.length c0_4, .int .u64 a0_5, .bool a0_6] 44 (0, 0)) (by (with_reducible repeat (first | refine blk_drewN ?_ _ | refine blk_drew ?_ | refine blk_alloc ?_ _)); exact BK167.out) hb); have n1_ := Aside0.mk (below_step (by repeat (first | (with_reducible first | exact HB.out | apply below_alloc | apply pw_below_drewN | apply below_drew1 | refine below_set ?_ GE167.out) | exact HB.out)) hb); clear BK167; clear HB; have BK167 := n0_; have HB := n1_; clear n0_ n1_; (try clear hb); (try clear hb2); (try clear hk); (try clear hi)))
    go_ret
    exact ⟨by first | rfl | (simp [errW_none, errW_some] <;> rfl) | (simp [*, errW_none, errW_some] <;> rfl), by repeat (first | (with_reducible first | exact HB.out | apply below_alloc | apply pw_below_drewN | apply below_drew1 | refine below_set ?_ GE167.out) | exact HB.out)⟩


end Go.Proofs.Ytihfblnjgaalcaa.R
