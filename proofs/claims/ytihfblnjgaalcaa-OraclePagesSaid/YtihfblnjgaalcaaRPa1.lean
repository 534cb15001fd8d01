import Derived.Test.YtihfblnjgaalcaaRD3
namespace Go.Proofs.Ytihfblnjgaalcaa.R
open Go.RowKit Go.Proofs.YtihfblnjgaalcaaW.PrintWords Go.Proofs.YtihfblnjgaalcaaW.PrintLast Go.Proofs.YtihfblnjgaalcaaW.PrintMore
attribute [local go_sem] max2_int min2_int max_two min_two max_three min_three max_four min_four
set_option linter.unusedVariables false
set_option linter.unusedSimpArgs false

/-! ### croftlaw11_OraclePages: function 7 -/
mutual
def croftlaw11_OraclePages.l0 : Nat → List Int → Int → Int → Int → Int → Int → Int → List (S49) → Int → Bool → Int → Int → Int → Option (Bool)
 | 0, _, _, _, _, _, _, _, _, _, _, _, _, _ => none
 | k + 1, x1, x6, x7, x182000, x182001, x182002, x182003, x182004, x182005, x182006, x187000, x187001, x187002 => if x7 < 8 then (croftlaw11_OraclePages.l1 k x1 x6 x7 0 0 x182000 x182001 x182002 x182003 x182004 x182005 x182006 x187000 x187001 x187002) else ((croftref11_May.f k x182000 x182001 x182002).bind fun t188 => (croftlaw11_OraclePages.l2 k x1 x6 t188 0 x182000 x182001 x182002 x182003 x182004 x182005 x182006 x187000 x187001 x187002))
def croftlaw11_OraclePages.l1 : Nat → List Int → Int → Int → Int → Int → Int → Int → Int → Int → List (S49) → Int → Bool → Int → Int → Int → Option (Bool)
 | 0, _, _, _, _, _, _, _, _, _, _, _, _, _, _, _ => none
 | k + 1, x1, x6, x7, x8, x9, x182000, x182001, x182002, x182003, x182004, x182005, x182006, x187000, x187001, x187002 => if x9 < (x1.length : Int) then (if 0 ≤ x9 then (if 0 ≤ (IntKind.u64.wrap (x7)) then (if (rd x1 x9) = (shl .u64 16 (IntKind.u64.wrap (x7))) then (croftlaw11_OraclePages.l1 k x1 x6 x7 (wrap64 (x8 + 1)) (wrap64 (x9 + 1)) x182000 x182001 x182002 x182003 x182004 x182005 x182006 x187000 x187001 x187002) else (croftlaw11_OraclePages.l1 k x1 x6 x7 x8 (wrap64 (x9 + 1)) x182000 x182001 x182002 x182003 x182004 x182005 x182006 x187000 x187001 x187002)) else (none)) else (none)) else (if 0 ≤ (IntKind.u64.wrap (x7)) then (if (shr .i64 256 (IntKind.u64.wrap (x7))) = 0 then (none) else (croftlaw11_OraclePages.l0 k x1 (wrap64 (x6 + (wrap64 (Int.tdiv (wrap64 (x8 + (shr .i64 255 (IntKind.u64.wrap (x7))))) (shr .i64 256 (IntKind.u64.wrap (x7))))))) (wrap64 (x7 + 1)) x182000 x182001 x182002 x182003 x182004 x182005 x182006 x187000 x187001 x187002)) else (none))
def croftlaw11_OraclePages.l2 : Nat → List Int → Int → Bool → Int → Int → Int → Int → Int → List (S49) → Int → Bool → Int → Int → Int → Option (Bool)
 | 0, _, _, _, _, _, _, _, _, _, _, _, _, _, _ => none
 | k + 1, x1, x6, x10, x11, x182000, x182001, x182002, x182003, x182004, x182005, x182006, x187000, x187001, x187002 => if x11 < (x1.length : Int) then (if 0 ≤ x11 then ((croftref11_Power.f (rd x1 x11)).bind fun t190 => (if t190 = true then (if (rd x1 x11) < 16 then (croftlaw11_OraclePages.j3 k x1 x6 x10 x11 true x182000 x182001 x182002 x182003 x182004 x182005 x182006 x187000 x187001 x187002) else (if x10 = true then ((croftref11_R.f x182000 x182001 x182002).bind fun t193 => (croftlaw11_OraclePages.j3 k x1 x6 x10 x11 (decide ((rd x1 x11) > t193)) x182000 x182001 x182002 x182003 x182004 x182005 x182006 x187000 x187001 x187002)) else (croftlaw11_OraclePages.j3 k x1 x6 x10 x11 true x182000 x182001 x182002 x182003 x182004 x182005 x182006 x187000 x187001 x187002))) else (croftlaw11_OraclePages.j3 k x1 x6 x10 x11 true x182000 x182001 x182002 x182003 x182004 x182005 x182006 x187000 x187001 x187002))) else (none)) else ((oracle_Least.f x187000 x187001 x187002 ([] : List (S55)) x1).bind fun bt196 => (if x10 = true then (if 0 ≤ (IntKind.u64.wrap (x182002)) then (if (bt196.2 != (decide ((shr .i64 (wrap64 ((wrap64 (x6 + (shl .i64 1 (IntKind.u64.wrap (x182002))))) - 1)) (IntKind.u64.wrap (x182002))) ≤ x182001))) = true then (some false) else (if bt196.2 = true then (if bt196.1 = (shr .i64 (wrap64 ((wrap64 (x6 + (shl .i64 1 (IntKind.u64.wrap (x182002))))) - 1)) (IntKind.u64.wrap (x182002))) then (croftlaw11_OraclePages.j4 k x182000 x182001 x182002 x182003 x182004 x182005 x182006 x187000 x187001 x187002) else (some false)) else (if bt196.1 = 0 then (croftlaw11_OraclePages.j4 k x182000 x182001 x182002 x182003 x182004 x182005 x182006 x187000 x187001 x187002) else (some false)))) else (none)) else (if bt196.2 = true then (some false) else (croftlaw11_OraclePages.j4 k x182000 x182001 x182002 x182003 x182004 x182005 x182006 x187000 x187001 x187002))))
def croftlaw11_OraclePages.j3 : Nat → List Int → Int → Bool → Int → Bool → Int → Int → Int → Int → List (S49) → Int → Bool → Int → Int → Int → Option (Bool)
 | 0, _, _, _, _, _, _, _, _, _, _, _, _, _, _, _ => none
 | k + 1, x1, x6, x10, x11, x88, x182000, x182001, x182002, x182003, x182004, x182005, x182006, x187000, x187001, x187002 => if x88 = true then (croftlaw11_OraclePages.l2 k x1 x6 false (wrap64 (x11 + 1)) x182000 x182001 x182002 x182003 x182004 x182005 x182006 x187000 x187001 x187002) else (if 0 ≤ x11 then (if x11 < (x1.length : Int) then (if (rd x1 x11) ≥ 4096 then (croftlaw11_OraclePages.l2 k x1 (wrap64 (x6 + (wrap64 (IntKind.u64.wrap (Int.tdiv (rd x1 x11) 4096))))) x10 (wrap64 (x11 + 1)) x182000 x182001 x182002 x182003 x182004 x182005 x182006 x187000 x187001 x187002) else (croftlaw11_OraclePages.l2 k x1 x6 x10 (wrap64 (x11 + 1)) x182000 x182001 x182002 x182003 x182004 x182005 x182006 x187000 x187001 x187002)) else (none)) else (none))
def croftlaw11_OraclePages.j4 : Nat → Int → Int → Int → Int → List (S49) → Int → Bool → Int → Int → Int → Option (Bool)
 | 0, _, _, _, _, _, _, _, _, _, _ => none
 | k + 1, x182000, x182001, x182002, x182003, x182004, x182005, x182006, x187000, x187001, x187002 => (croftref11_Sound.f k x182000 x182001 x182002 x182003 x182004).bind fun t198 => (if t198 = (-1) then (croftlaw11_OraclePages.l3 k ([] : List Int) 0 x182000 x182001 x182002 x182003 x182004 x182005 x182006 x187000 x187001 x187002) else (some true))
def croftlaw11_OraclePages.l3 : Nat → List Int → Int → Int → Int → Int → Int → List (S49) → Int → Bool → Int → Int → Int → Option (Bool)
 | 0, _, _, _, _, _, _, _, _, _, _, _, _ => none
 | k + 1, x15, x16, x182000, x182001, x182002, x182003, x182004, x182005, x182006, x187000, x187001, x187002 => if x16 < (x182004.length : Int) then (if 0 ≤ x16 then (if x15.length < 17592186044416 then (croftlaw11_OraclePages.l3 k (x15 ++ [(rd_T49 x182004 x16).f1]) (wrap64 (x16 + 1)) x182000 x182001 x182002 x182003 x182004 x182005 x182006 x187000 x187001 x187002) else (none)) else (none)) else ((oracle_Least.f x187000 x187001 x187002 ([] : List (S55)) x15).bind fun bt203 => (if bt203.2 = true then (some (decide (bt203.1 ≤ x182003))) else (some false)))
end
def croftlaw11_OraclePages.f (k : Nat) (a0_0 : Int) (a0_1 : Int) (a0_2 : Int) (a0_3 : Int) (l0_4 : List (S49)) (a0_5 : Int) (a0_6 : Bool) (l1 : List Int) : Option (Bool) := (croftlaw11_awake.f k).bind fun t182 => (if t182 = true then ((croftlaw11_config.f a0_0 a0_1 a0_2).bind fun bt183 => (croftlaw11_OraclePages.l0 k l1 0 0 a0_0 a0_1 a0_2 a0_3 l0_4 a0_5 a0_6 bt183.1 bt183.2.1 bt183.2.2)) else (some false))
theorem croftlaw11_OraclePages.mono_l : ∀ k, (∀ y0 y1 y2 y3 y4 y5 y6 y7 y8 y9 y10 y11 y12, LeO (croftlaw11_OraclePages.l0 k y0 y1 y2 y3 y4 y5 y6 y7 y8 y9 y10 y11 y12) (croftlaw11_OraclePages.l0 (k + 1) y0 y1 y2 y3 y4 y5 y6 y7 y8 y9 y10 y11 y12)) ∧ (∀ y0 y1 y2 y3 y4 y5 y6 y7 y8 y9 y10 y11 y12 y13 y14, LeO (croftlaw11_OraclePages.l1 k y0 y1 y2 y3 y4 y5 y6 y7 y8 y9 y10 y11 y12 y13 y14) (croftlaw11_OraclePages.l1 (k + 1) y0 y1 y2 y3 y4 y5 y6 y7 y8 y9 y10 y11 y12 y13 y14)) ∧ (∀ y0 y1 y2 y3 y4 y5 y6 y7 y8 y9 y10 y11 y12 y13, LeO (croftlaw11_OraclePages.l2 k y0 y1 y2 y3 y4 y5 y6 y7 y8 y9 y10 y11 y12 y13) (croftlaw11_OraclePages.l2 (k + 1) y0 y1 y2 y3 y4 y5 y6 y7 y8 y9 y10 y11 y12 y13)) ∧ (∀ y0 y1 y2 y3 y4 y5 y6 y7 y8 y9 y10 y11 y12 y13 y14, LeO (croftlaw11_OraclePages.j3 k y0 y1 y2 y3 y4 y5 y6 y7 y8 y9 y10 y11 y12 y13 y14) (croftlaw11_OraclePages.j3 (k + 1) y0 y1 y2 y3 y4 y5 y6 y7 y8 y9 y10 y11 y12 y13 y14)) ∧ (∀ y0 y1 y2 y3 y4 y5 y6 y7 y8 y9, LeO (croftlaw11_OraclePages.j4 k y0 y1 y2 y3 y4 y5 y6 y7 y8 y9) (croftlaw11_OraclePages.j4 (k + 1) y0 y1 y2 y3 y4 y5 y6 y7 y8 y9)) ∧ (∀ y0 y1 y2 y3 y4 y5 y6 y7 y8 y9 y10 y11, LeO (croftlaw11_OraclePages.l3 k y0 y1 y2 y3 y4 y5 y6 y7 y8 y9 y10 y11) (croftlaw11_OraclePages.l3 (k + 1) y0 y1 y2 y3 y4 y5 y6 y7 y8 y9 y10 y11))
 | 0 => ⟨fun _ _ _ _ _ _ _ _ _ _ _ _ _ r h => by simp [croftlaw11_OraclePages.l0] at h, fun _ _ _ _ _ _ _ _ _ _ _ _ _ _ _ r h => by simp [croftlaw11_OraclePages.l1] at h, fun _ _ _ _ _ _ _ _ _ _ _ _ _ _ r h => by simp [croftlaw11_OraclePages.l2] at h, fun _ _ _ _ _ _ _ _ _ _ _ _ _ _ _ r h => by simp [croftlaw11_OraclePages.j3] at h, fun _ _ _ _ _ _ _ _ _ _ r h => by simp [croftlaw11_OraclePages.j4] at h, fun _ _ _ _ _ _ _ _ _ _ _ _ r h => by simp [croftlaw11_OraclePages.l3] at h⟩
 | k + 1 => by
  obtain ⟨ih0, ih1, ih2, ih3, ih4, ih5⟩ := croftlaw11_OraclePages.mono_l k
  refine ⟨?_, ?_, ?_, ?_, ?_, ?_⟩
  ·intro y0 y1 y2 y3 y4 y5 y6 y7 y8 y9 y10 y11 y12
   unfold croftlaw11_OraclePages.l0
   repeat' first
   | (with_reducible exact ih0 _ _ _ _ _ _ _ _ _ _ _ _ _)
   | (with_reducible exact ih1 _ _ _ _ _ _ _ _ _ _ _ _ _ _ _)
   | (with_reducible exact ih2 _ _ _ _ _ _ _ _ _ _ _ _ _ _)
   | (with_reducible exact ih3 _ _ _ _ _ _ _ _ _ _ _ _ _ _ _)
   | (with_reducible exact ih4 _ _ _ _ _ _ _ _ _ _)
   | (with_reducible exact ih5 _ _ _ _ _ _ _ _ _ _ _ _)
   | (with_reducible exact croftlaw11_awake.mono _)
   | (with_reducible exact croftref11_May.mono _ _ _ _)
   | (with_reducible exact croftref11_Sound.mono _ _ _ _ _ _)
   | (with_reducible exact LeO.refl _)
   | (with_reducible exact LeO.none _)
   | (with_reducible refine LeO.ite ?_ ?_)
   | (with_reducible refine LeO.bind ?_ (fun _ => ?_))
   | exact ih0 _ _ _ _ _ _ _ _ _ _ _ _ _
   | exact ih1 _ _ _ _ _ _ _ _ _ _ _ _ _ _ _
   | exact ih2 _ _ _ _ _ _ _ _ _ _ _ _ _ _
   | exact ih3 _ _ _ _ _ _ _ _ _ _ _ _ _ _ _
   | exact ih4 _ _ _ _ _ _ _ _ _ _
   | exact ih5 _ _ _ _ _ _ _ _ _ _ _ _
   | exact croftlaw11_awake.mono _
   | exact croftref11_May.mono _ _ _ _
   | exact croftref11_Sound.mono _ _ _ _ _ _
   | exact LeO.none _
   | refine LeO.ite ?_ ?_
   | refine LeO.bind ?_ (fun _ => ?_)
  ·intro y0 y1 y2 y3 y4 y5 y6 y7 y8 y9 y10 y11 y12 y13 y14
   unfold croftlaw11_OraclePages.l1
   repeat' first
   | (with_reducible exact ih0 _ _ _ _ _ _ _ _ _ _ _ _ _)
   | (with_reducible exact ih1 _ _ _ _ _ _ _ _ _ _ _ _ _ _ _)
   | (with_reducible exact ih2 _ _ _ _ _ _ _ _ _ _ _ _ _ _)
   | (with_reducible exact ih3 _ _ _ _ _ _ _ _ _ _ _ _ _ _ _)
   | (with_reducible exact ih4 _ _ _ _ _ _ _ _ _ _)
   | (with_reducible exact ih5 _ _ _ _ _ _ _ _ _ _ _ _)
   | (with_reducible exact croftlaw11_awake.mono _)
   | (with_reducible exact croftref11_May.mono _ _ _ _)
   | (with_reducible exact croftref11_Sound.mono _ _ _ _ _ _)
   | (with_reducible exact LeO.refl _)
   | (with_reducible exact LeO.none _)
   | (with_reducible refine LeO.ite ?_ ?_)
   | (with_reducible refine LeO.bind ?_ (fun _ => ?_))
   | exact ih0 _ _ _ _ _ _ _ _ _ _ _ _ _
   | exact ih1 _ _ _ _ _ _ _ _ _ _ _ _ _ _ _
   | exact ih2 _ _ _ _ _ _ _ _ _ _ _ _ _ _
   | exact ih3 _ _ _ _ _ _ _ _ _ _ _ _ _ _ _
   | exact ih4 _ _ _ _ _ _ _ _ _ _
   | exact ih5 _ _ _ _ _ _ _ _ _ _ _ _
   | exact croftlaw11_awake.mono _
   | exact croftref11_May.mono _ _ _ _
   | exact croftref11_Sound.mono _ _ _ _ _ _
   | exact LeO.none _
   | refine LeO.ite ?_ ?_
   | refine LeO.bind ?_ (fun _ => ?_)
  ·intro y0 y1 y2 y3 y4 y5 y6 y7 y8 y9 y10 y11 y12 y13
   unfold croftlaw11_OraclePages.l2
   repeat' first
   | (with_reducible exact ih0 _ _ _ _ _ _ _ _ _ _ _ _ _)
   | (with_reducible exact ih1 _ _ _ _ _ _ _ _ _ _ _ _ _ _ _)
   | (with_reducible exact ih2 _ _ _ _ _ _ _ _ _ _ _ _ _ _)
   | (with_reducible exact ih3 _ _ _ _ _ _ _ _ _ _ _ _ _ _ _)
   | (with_reducible exact ih4 _ _ _ _ _ _ _ _ _ _)
   | (with_reducible exact ih5 _ _ _ _ _ _ _ _ _ _ _ _)
   | (with_reducible exact croftlaw11_awake.mono _)
   | (with_reducible exact croftref11_May.mono _ _ _ _)
   | (with_reducible exact croftref11_Sound.mono _ _ _ _ _ _)
   | (with_reducible exact LeO.refl _)
   | (with_reducible exact LeO.none _)
   | (with_reducible refine LeO.ite ?_ ?_)
   | (with_reducible refine LeO.bind ?_ (fun _ => ?_))
   | exact ih0 _ _ _ _ _ _ _ _ _ _ _ _ _
   | exact ih1 _ _ _ _ _ _ _ _ _ _ _ _ _ _ _
   | exact ih2 _ _ _ _ _ _ _ _ _ _ _ _ _ _
   | exact ih3 _ _ _ _ _ _ _ _ _ _ _ _ _ _ _
   | exact ih4 _ _ _ _ _ _ _ _ _ _
   | exact ih5 _ _ _ _ _ _ _ _ _ _ _ _
   | exact croftlaw11_awake.mono _
   | exact croftref11_May.mono _ _ _ _
   | exact croftref11_Sound.mono _ _ _ _ _ _
   | exact LeO.none _
   | refine LeO.ite ?_ ?_
   | refine LeO.bind ?_ (fun _ => ?_)
  ·intro y0 y1 y2 y3 y4 y5 y6 y7 y8 y9 y10 y11 y12 y13 y14
   unfold croftlaw11_OraclePages.j3
   repeat' first
   | (with_reducible exact ih0 _ _ _ _ _ _ _ _ _ _ _ _ _)
   | (with_reducible exact ih1 _ _ _ _ _ _ _ _ _ _ _ _ _ _ _)
   | (with_reducible exact ih2 _ _ _ _ _ _ _ _ _ _ _ _ _ _)
   | (with_reducible exact ih3 _ _ _ _ _ _ _ _ _ _ _ _ _ _ _)
   | (with_reducible exact ih4 _ _ _ _ _ _ _ _ _ _)
   | (with_reducible exact ih5 _ _ _ _ _ _ _ _ _ _ _ _)
   | (with_reducible exact croftlaw11_awake.mono _)
   | (with_reducible exact croftref11_May.mono _ _ _ _)
   | (with_reducible exact croftref11_Sound.mono _ _ _ _ _ _)
   | (with_reducible exact LeO.refl _)
   | (with_reducible exact LeO.none _)
   | (with_reducible refine LeO.ite ?_ ?_)
   | (with_reducible refine LeO.bind ?_ (fun _ => ?_))
   | exact ih0 _ _ _ _ _ _ _ _ _ _ _ _ _
   | exact ih1 _ _ _ _ _ _ _ _ _ _ _ _ _ _ _
   | exact ih2 _ _ _ _ _ _ _ _ _ _ _ _ _ _
   | exact ih3 _ _ _ _ _ _ _ _ _ _ _ _ _ _ _
   | exact ih4 _ _ _ _ _ _ _ _ _ _
   | exact ih5 _ _ _ _ _ _ _ _ _ _ _ _
   | exact croftlaw11_awake.mono _
   | exact croftref11_May.mono _ _ _ _
   | exact croftref11_Sound.mono _ _ _ _ _ _
   | exact LeO.none _
   | refine LeO.ite ?_ ?_
   | refine LeO.bind ?_ (fun _ => ?_)
  ·intro y0 y1 y2 y3 y4 y5 y6 y7 y8 y9
   unfold croftlaw11_OraclePages.j4
   repeat' first
   | (with_reducible exact ih0 _ _ _ _ _ _ _ _ _ _ _ _ _)
   | (with_reducible exact ih1 _ _ _ _ _ _ _ _ _ _ _ _ _ _ _)
   | (with_reducible exact ih2 _ _ _ _ _ _ _ _ _ _ _ _ _ _)
   | (with_reducible exact ih3 _ _ _ _ _ _ _ _ _ _ _ _ _ _ _)
   | (with_reducible exact ih4 _ _ _ _ _ _ _ _ _ _)
   | (with_reducible exact ih5 _ _ _ _ _ _ _ _ _ _ _ _)
   | (with_reducible exact croftlaw11_awake.mono _)
   | (with_reducible exact croftref11_May.mono _ _ _ _)
   | (with_reducible exact croftref11_Sound.mono _ _ _ _ _ _)
   | (with_reducible exact LeO.refl _)
   | (with_reducible exact LeO.none _)
   | (with_reducible refine LeO.ite ?_ ?_)
   | (with_reducible refine LeO.bind ?_ (fun _ => ?_))
   | exact ih0 _ _ _ _ _ _ _ _ _ _ _ _ _
   | exact ih1 _ _ _ _ _ _ _ _ _ _ _ _ _ _ _
   | exact ih2 _ _ _ _ _ _ _ _ _ _ _ _ _ _
   | exact ih3 _ _ _ _ _ _ _ _ _ _ _ _ _ _ _
   | exact ih4 _ _ _ _ _ _ _ _ _ _
   | exact ih5 _ _ _ _ _ _ _ _ _ _ _ _
   | exact croftlaw11_awake.mono _
   | exact croftref11_May.mono _ _ _ _
   | exact croftref11_Sound.mono _ _ _ _ _ _
   | exact LeO.none _
   | refine LeO.ite ?_ ?_
   | refine LeO.bind ?_ (fun _ => ?_)
  ·intro y0 y1 y2 y3 y4 y5 y6 y7 y8 y9 y10 y11
   unfold croftlaw11_OraclePages.l3
   repeat' first
   | (with_reducible exact ih0 _ _ _ _ _ _ _ _ _ _ _ _ _)
   | (with_reducible exact ih1 _ _ _ _ _ _ _ _ _ _ _ _ _ _ _)
   | (with_reducible exact ih2 _ _ _ _ _ _ _ _ _ _ _ _ _ _)
   | (with_reducible exact ih3 _ _ _ _ _ _ _ _ _ _ _ _ _ _ _)
   | (with_reducible exact ih4 _ _ _ _ _ _ _ _ _ _)
   | (with_reducible exact ih5 _ _ _ _ _ _ _ _ _ _ _ _)
   | (with_reducible exact croftlaw11_awake.mono _)
   | (with_reducible exact croftref11_May.mono _ _ _ _)
   | (with_reducible exact croftref11_Sound.mono _ _ _ _ _ _)
   | (with_reducible exact LeO.refl _)
   | (with_reducible exact LeO.none _)
   | (with_reducible refine LeO.ite ?_ ?_)
   | (with_reducible refine LeO.bind ?_ (fun _ => ?_))
   | exact ih0 _ _ _ _ _ _ _ _ _ _ _ _ _
   | exact ih1 _ _ _ _ _ _ _ _ _ _ _ _ _ _ _
   | exact ih2 _ _ _ _ _ _ _ _ _ _ _ _ _ _
   | exact ih3 _ _ _ _ _ _ _ _ _ _ _ _ _ _ _
   | exact ih4 _ _ _ _ _ _ _ _ _ _
   | exact ih5 _ _ _ _ _ _ _ _ _ _ _ _
   | exact croftlaw11_awake.mono _
   | exact croftref11_May.mono _ _ _ _
   | exact croftref11_Sound.mono _ _ _ _ _ _
   | exact LeO.none _
   | refine LeO.ite ?_ ?_
   | refine LeO.bind ?_ (fun _ => ?_)
theorem croftlaw11_OraclePages.mono : ∀ a0 a1 a2 a3 a4 a5 a6 a7 k, LeO (croftlaw11_OraclePages.f k a0 a1 a2 a3 a4 a5 a6 a7) (croftlaw11_OraclePages.f (k + 1) a0 a1 a2 a3 a4 a5 a6 a7) := by
 intro a0 a1 a2 a3 a4 a5 a6 a7 k
 obtain ⟨ih0, ih1, ih2, ih3, ih4, ih5⟩ := croftlaw11_OraclePages.mono_l k
 unfold croftlaw11_OraclePages.f
 repeat' first
   | (with_reducible exact ih0 _ _ _ _ _ _ _ _ _ _ _ _ _)
   | (with_reducible exact ih1 _ _ _ _ _ _ _ _ _ _ _ _ _ _ _)
   | (with_reducible exact ih2 _ _ _ _ _ _ _ _ _ _ _ _ _ _)
   | (with_reducible exact ih3 _ _ _ _ _ _ _ _ _ _ _ _ _ _ _)
   | (with_reducible exact ih4 _ _ _ _ _ _ _ _ _ _)
   | (with_reducible exact ih5 _ _ _ _ _ _ _ _ _ _ _ _)
   | (with_reducible exact croftlaw11_awake.mono _)
   | (with_reducible exact croftref11_May.mono _ _ _ _)
   | (with_reducible exact croftref11_Sound.mono _ _ _ _ _ _)
   | (with_reducible exact LeO.refl _)
   | (with_reducible exact LeO.none _)
   | (with_reducible refine LeO.ite ?_ ?_)
   | (with_reducible refine LeO.bind ?_ (fun _ => ?_))
   | exact ih0 _ _ _ _ _ _ _ _ _ _ _ _ _
   | exact ih1 _ _ _ _ _ _ _ _ _ _ _ _ _ _ _
   | exact ih2 _ _ _ _ _ _ _ _ _ _ _ _ _ _
   | exact ih3 _ _ _ _ _ _ _ _ _ _ _ _ _ _ _
   | exact ih4 _ _ _ _ _ _ _ _ _ _
   | exact ih5 _ _ _ _ _ _ _ _ _ _ _ _
   | exact croftlaw11_awake.mono _
   | exact croftref11_May.mono _ _ _ _
   | exact croftref11_Sound.mono _ _ _ _ _ _
   | exact LeO.none _
   | refine LeO.ite ?_ ?_
   | refine LeO.bind ?_ (fun _ => ?_)
def croftlaw11_OraclePages.T19 : Bool × List (List Nat × List Nat) := (true, [([], []), ([], []), ([0, 1], [0, 1]), ([2], [2]), ([3], [3]), ([4], [4]), ([5, 4], [5]), ([6], [6]), ([6], [6]), ([7, 8, 6], [6, 7, 8]), ([9, 6], [6, 9]), ([10, 6], [6, 10]), ([6, 11], [6, 11]), ([12, 6], [12]), ([13], [13]), ([14, 13], [13, 14]), ([13, 15], [13, 15]), ([16, 13], [16]), ([17], [17]), ([17], [17]), ([18, 19, 17], [17, 18, 19]), ([20, 17], [17, 20]), ([17], [17]), ([22, 17], [17, 22]), ([23, 17, 17], [17, 23]), ([21, 24, 17], [17, 21, 24]), ([17, 25], [17, 25])])
def croftlaw11_OraclePages.B19 : List Nat := [0, 0, 3, 7, 15, 31, 63, 127, 127, 511, 1023, 2047, 4095, 8191, 16383, 32767, 65535, 131071, 262143, 262143, 1048575, 2097151, 262143, 4456447, 12845055, 33554431, 67108863]
theorem croftlaw11_OraclePages.tab19 : rtab .any (opsOf Try.f7 19) = croftlaw11_OraclePages.T19 := by kernel_rfl
theorem croftlaw11_OraclePages.bits19 : waitsOk croftlaw11_OraclePages.T19.2 croftlaw11_OraclePages.B19 = true := by kernel_rfl
set_option maxHeartbeats 8000000 in
set_option maxRecDepth 100000 in
theorem croftlaw11_OraclePages.calls (k : Nat) (a0_0 : Int) (a0_1 : Int) (a0_2 : Int) (a0_3 : Int) (A0_4 : Option Addr) (c0_4 : Nat) (l0_4 : List (S49)) (a0_5 : Int) (a0_6 : Bool) (A1 : Option Addr) (c1 : Nat) (l1 : List Int) (r : Bool) (w : World) (hr0_4 : Kd.C k49 w A0_4 l0_4.length l0_4) (hc0_4 : l0_4.length ≤ c0_4) (hr1 : Kd.C (Kd.int .u64) w A1 l1.length l1) (hc1 : l1.length ≤ c1) (h : croftlaw11_OraclePages.f k a0_0 a0_1 a0_2 a0_3 l0_4 a0_5 a0_6 l1 = some r) :
  Calls Try.prog 7 #[.agg #[.int .u64 a0_0, .int .i64 a0_1, .int .i64 a0_2, .int .i64 a0_3, .slice A0_4 l0_4.length c0_4, .int .u64 a0_5, .bool a0_6], .slice A1 l1.length c1] w fun e w' => e = .returned (.bool r) ∧ Below w.heap.size w w' := by
 have hu44 := Try.underlying44
 have hu24 := Try.underlying24
 have hu29 := Try.underlying29
 have HR0_4 := Aside0.mk hr0_4
 have HC0_4 := Aside0.mk hc0_4
 clear hr0_4 hc0_4
 have HR1 := Aside0.mk hr1
 have HC1 := Aside0.mk hc1
 clear hr1 hc1
 have HB := Aside0.mk (Below.refl w.heap.size w)
 have H : ((croftlaw11_awake.f k).bind fun t182 => (if t182 = true then ((croftlaw11_config.f a0_0 a0_1 a0_2).bind fun bt183 => (croftlaw11_OraclePages.l0 k l1 0 0 a0_0 a0_1 a0_2 a0_3 l0_4 a0_5 a0_6 bt183.1 bt183.2.1 bt183.2.2)) else (some false))) = some r := h
 clear h
 replace H := Option.bind_eq_some_iff.mp H
 obtain ⟨t182, A30, H⟩ := H
 replace H : (if t182 = true then ((croftlaw11_config.f a0_0 a0_1 a0_2).bind fun bt183 => (croftlaw11_OraclePages.l0 k l1 0 0 a0_0 a0_1 a0_2 a0_3 l0_4 a0_5 a0_6 bt183.1 bt183.2.1 bt183.2.2)) else (some false)) = some r := H
 have A3 := Aside0.mk A30
 clear A30
 by_cases c4 : t182 = true
 ·subst c4
  have H1 : ((croftlaw11_config.f a0_0 a0_1 a0_2).bind fun bt183 => (croftlaw11_OraclePages.l0 k l1 0 0 a0_0 a0_1 a0_2 a0_3 l0_4 a0_5 a0_6 bt183.1 bt183.2.1 bt183.2.2)) = some r := by rw [if_pos rfl] at H; exact H
  clear H
  have H := H1
  clear H1
  replace H := Option.bind_eq_some_iff.mp H
  obtain ⟨⟨t183, t184, t185⟩, A50, H⟩ := H
  replace H : (croftlaw11_OraclePages.l0 k l1 0 0 a0_0 a0_1 a0_2 a0_3 l0_4 a0_5 a0_6 t183 t184 t185) = some r := H
  have A5 := Aside0.mk A50
  clear A50
  have H' := Aside0.mk H
  clear H
  go_enter Try.func7, Try.ntmps7
  go_wp2_with (first | ((with_reducible refine gate_dst (N := 2) rfl ?_); refine box_event ?hg (N := 2) ?hd (cs := #[.int .u64 a0_0, .int .i64 a0_1, .int .i64 a0_2, .int .i64 a0_3, .slice A0_4 l0_4.length c0_4, .int .u64 a0_5, .bool a0_6]) (t := 44) ?hr ?_; (case hd => rfl); (case hg => rfl); (case hr => first | (go_simp; done) | (go_simp; rfl)); intro gb181 hg w6 hbox hb; have n0_ := Aside0.mk (below_step (by repeat (first | (with_reducible first | exact HB.out | apply below_alloc | apply pw_below_drewN | apply below_drew1) | exact HB.out)) hb); have n1_ := Aside0.mk (hbox); have n2_ := Aside0.mk ((by rw [hg]; exact (below_size (by repeat (first | (with_reducible first | exact HB.out | apply below_alloc | apply pw_below_drewN | apply below_drew1) | exact HB.out))) : w.heap.size ≤ gb181)); have n3_ := Aside0.mk ((by rw [hg]; exact (below_size (by repeat (first | (with_reducible first | exact HB.out | apply below_alloc | apply pw_below_drewN | apply below_drew1) | exact HB.out))) : w.heap.size ≤ gb181)); clear HB; have HB := n0_; have BK181 := n1_; have GW181 := n2_; have GE181 := n3_; clear n0_ n1_ n2_ n3_; clear hb hbox hg) | ((with_reducible refine gate_callee (f := 18) rfl ?_); refine goesL_ (some 17) rfl rfl Try.func18 (by kernel_rfl) rfl #[] rfl (by (try simp only [List.map_toArray, List.map_cons, List.map_nil]); first | done | rfl | (simp only [List.length_drop, List.length_take]; rfl)) ?_; (with_reducible refine (croftlaw11_awake.calls k  true _ A3.out).mono ?_); rintro e w7 ⟨rfl, hb⟩; refine ⟨_, rfl, ?_⟩; have n0_ := Aside0.mk (blk_below (g := gb181) (o := .cells #[.int .u64 a0_0, .int .i64 a0_1, .int .i64 a0_2, .int .i64 a0_3, .slice A0_4 l0_4.length c0_4, .int .u64 a0_5, .bool a0_6] 44 (0, 0)) (by (with_reducible repeat (first | refine blk_drewN ?_ _ | refine blk_drew ?_ | refine blk_alloc ?_ _)); exact BK181.out) hb); have n1_ := Aside0.mk (below_step (by repeat (first | (with_reducible first | exact HB.out | apply below_alloc | apply pw_below_drewN | apply below_drew1 | refine below_set ?_ GE181.out) | exact HB.out)) hb); clear BK181; clear HB; have BK181 := n0_; have HB := n1_; clear n0_ n1_; (try clear hb); (try clear hb2); (try clear hk); (try clear hi); have hcz8_0 : w7.cell? ⟨gb181, 0, none⟩ = some (.int .u64 a0_0) := (blk_cell BK181.out 0).trans rfl; have hcz8_1 : w7.cell? ⟨gb181, 1, none⟩ = some (.int .i64 a0_1) := (blk_cell BK181.out 1).trans rfl; have hcz8_2 : w7.cell? ⟨gb181, 2, none⟩ = some (.int .i64 a0_2) := (blk_cell BK181.out 2).trans rfl; have hcz8_3 : w7.cell? ⟨gb181, 3, none⟩ = some (.int .i64 a0_3) := (blk_cell BK181.out 3).trans rfl; have hcz8_4 : w7.cell? ⟨gb181, 4, none⟩ = some (.slice A0_4 l0_4.length c0_4) := (blk_cell BK181.out 4).trans rfl; have hcz8_5 : w7.cell? ⟨gb181, 5, none⟩ = some (.int .u64 a0_5) := (blk_cell BK181.out 5).trans rfl; have hcz8_6 : w7.cell? ⟨gb181, 6, none⟩ = some (.bool a0_6) := (blk_cell BK181.out 6).trans rfl; have hfz8_0 := blk_frozen BK181.out 0; have hfz8_1 := blk_frozen BK181.out 1; have hfz8_2 := blk_frozen BK181.out 2; have hfz8_3 := blk_frozen BK181.out 3; have hfz8_4 := blk_frozen BK181.out 4; have hfz8_5 := blk_frozen BK181.out 5; have hfz8_6 := blk_frozen BK181.out 6) | ((with_reducible refine gate_callee (f := 15) rfl ?_); refine goesL_ (some 21) rfl rfl Try.func15 (by kernel_rfl) rfl #[.agg #[.int .u64 a0_0, .int .i64 a0_1, .int .i64 a0_2]] rfl (by (try simp only [List.map_toArray, List.map_cons, List.map_nil]); first | done | rfl | (simp only [List.length_drop, List.length_take]; rfl)) ?_; (with_reducible refine (croftlaw11_config.calls a0_0 a0_1 a0_2 t183 t184 t185 _ A5.out).mono ?_); rintro e w9 ⟨rfl, hb⟩; refine ⟨_, rfl, ?_⟩; have n0_ := Aside0.mk (blk_below (g := gb181) (o := .cells #[.int .u64 a0_0, .int .i64 a0_1, .int .i64 a0_2, .int .i64 a0_3, .slice A0_4 l0_4.length c0_4, .int .u64 a0_5, .bool a0_6] 44 (0, 0)) (by (with_reducible repeat (first | refine blk_drewN ?_ _ | refine blk_drew ?_ | refine blk_alloc ?_ _)); exact BK181.out) hb); have n1_ := Aside0.mk (below_step (by repeat (first | (with_reducible first | exact HB.out | apply below_alloc | apply pw_below_drewN | apply below_drew1 | refine below_set ?_ GE181.out) | exact HB.out)) hb); clear BK181; clear HB; have BK181 := n0_; have HB := n1_; clear n0_ n1_; (try clear hb); (try clear hb2); (try clear hk); (try clear hi)) | ((with_reducible refine gate_dst (N := 5) rfl ?_); refine box_event ?hg (N := 5) ?hd (cs := #[.int .u64 0, .int .i64 0, .int .i64 0]) (t := 29) ?hr ?_; (case hd => rfl); (case hg => rfl); (case hr => first | (go_simp; done) | (go_simp; rfl)); intro gb186 hg w10 hbox hb; have n0_ := Aside0.mk (blk_below (g := gb181) (o := .cells #[.int .u64 a0_0, .int .i64 a0_1, .int .i64 a0_2, .int .i64 a0_3, .slice A0_4 l0_4.length c0_4, .int .u64 a0_5, .bool a0_6] 44 (0, 0)) (by (with_reducible repeat (first | refine blk_drewN ?_ _ | refine blk_drew ?_ | refine blk_alloc ?_ _)); exact BK181.out) hb); have n1_ := Aside0.mk (below_step (by repeat (first | (with_reducible first | exact HB.out | apply below_alloc | apply pw_below_drewN | apply below_drew1 | refine below_set ?_ GE181.out) | exact HB.out)) hb); have n2_ := Aside0.mk (hbox); have n3_ := Aside0.mk ((by rw [hg]; exact (below_size (by repeat (first | (with_reducible first | exact HB.out | apply below_alloc | apply pw_below_drewN | apply below_drew1 | refine below_set ?_ GE181.out) | exact HB.out))) : w.heap.size ≤ gb186)); have n4_ := Aside0.mk ((by rw [hg]; exact (below_size (by repeat (first | (with_reducible first | exact HB.out | apply below_alloc | apply pw_below_drewN | apply below_drew1 | refine below_set ?_ GE181.out) | exact HB.out))) : w.heap.size ≤ gb186)); have n5_ := Aside0.mk ((by rw [hg]; exact Nat.ne_of_lt (blk_lt (g := gb181) (o := .cells #[.int .u64 a0_0, .int .i64 a0_1, .int .i64 a0_2, .int .i64 a0_3, .slice A0_4 l0_4.length c0_4, .int .u64 a0_5, .bool a0_6] 44 (0, 0)) (by (with_reducible repeat (first | refine blk_drewN ?_ _ | refine blk_drew ?_ | refine blk_alloc ?_ _)); exact BK181.out)) : gb181 ≠ gb186)); have n6_ := Aside0.mk ((by rw [hg]; exact Nat.ne_of_gt (blk_lt (g := gb181) (o := .cells #[.int .u64 a0_0, .int .i64 a0_1, .int .i64 a0_2, .int .i64 a0_3, .slice A0_4 l0_4.length c0_4, .int .u64 a0_5, .bool a0_6] 44 (0, 0)) (by (with_reducible repeat (first | refine blk_drewN ?_ _ | refine blk_drew ?_ | refine blk_alloc ?_ _)); exact BK181.out)) : gb186 ≠ gb181)); clear BK181; clear HB; have BK181 := n0_; have HB := n1_; have BK186 := n2_; have GW186 := n3_; have GE186 := n4_; have NB181_186 := n5_; have NB186_181 := n6_; clear n0_ n1_ n2_ n3_ n4_ n5_ n6_; clear hb hbox hg; have hnb11 := NB186_181.out; have hnc11 := NB181_186.out; have hcz12_0 : w10.cell? ⟨gb186, 0, none⟩ = some (.int .u64 0) := (blk_cell BK186.out 0).trans rfl; have hcz12_1 : w10.cell? ⟨gb186, 1, none⟩ = some (.int .i64 0) := (blk_cell BK186.out 1).trans rfl; have hcz12_2 : w10.cell? ⟨gb186, 2, none⟩ = some (.int .i64 0) := (blk_cell BK186.out 2).trans rfl; have hfz12_0 := blk_frozen BK186.out 0; have hfz12_1 := blk_frozen BK186.out 1; have hfz12_2 := blk_frozen BK186.out 2))
  go_loopg [6, 7] k (fun kq v6 v7 w' => ∃ (x6_1 : Int) (x7_1 : Int), v6 = .int .i64 x6_1 ∧ v7 = .int .i64 x7_1 ∧ Aside0 (croftlaw11_OraclePages.l0 kq l1 x6_1 x7_1 a0_0 a0_1 a0_2 a0_3 l0_4 a0_5 a0_6 t183 t184 t185 = some r) ∧ Aside0 (kq ≤ k) ∧ Aside0 (w'.heap[gb181]? = some (.cells #[.int .u64 a0_0, .int .i64 a0_1, .int .i64 a0_2, .int .i64 a0_3, (.slice A0_4 l0_4.length c0_4), .int .u64 a0_5, .bool a0_6] 44 (0, 0))) ∧ Aside0 (w'.heap[gb186]? = some (.cells #[.int .u64 t183, .int .i64 t184, .int .i64 t185] 29 (0, 0))) ∧ Aside0 (Below w.heap.size w w'))
  case atStart => exact ⟨(0), (0), (by first | rfl | (simp; done) | (simp [*]; done)), (by first | rfl | (simp; done) | (simp [*]; done)), H', ⟨Nat.le_refl _⟩, ⟨by (with_reducible repeat (first | refine blk_drewN ?_ _ | refine blk_drew ?_ | refine blk_alloc ?_ _)); refine blk_far ?_ NB181_186.out _; (with_reducible repeat (first | refine blk_drewN ?_ _ | refine blk_drew ?_ | refine blk_alloc ?_ _)); refine blk_far ?_ NB181_186.out _; (with_reducible repeat (first | refine blk_drewN ?_ _ | refine blk_drew ?_ | refine blk_alloc ?_ _)); refine blk_far ?_ NB181_186.out _; (with_reducible repeat (first | refine blk_drewN ?_ _ | refine blk_drew ?_ | refine blk_alloc ?_ _)); exact BK181.out⟩, ⟨by (with_reducible repeat (first | refine blk_drewN ?_ _ | refine blk_drew ?_ | refine blk_alloc ?_ _)); refine blk_put (cs := #[.int .u64 t183, .int .i64 t184, .int .i64 0]) ?_ 2 _ rfl; (with_reducible repeat (first | refine blk_drewN ?_ _ | refine blk_drew ?_ | refine blk_alloc ?_ _)); refine blk_put (cs := #[.int .u64 t183, .int .i64 0, .int .i64 0]) ?_ 1 _ rfl; (with_reducible repeat (first | refine blk_drewN ?_ _ | refine blk_drew ?_ | refine blk_alloc ?_ _)); refine blk_put (cs := #[.int .u64 0, .int .i64 0, .int .i64 0]) ?_ 0 _ rfl; (with_reducible repeat (first | refine blk_drewN ?_ _ | refine blk_drew ?_ | refine blk_alloc ?_ _)); exact BK186.out⟩, ⟨by repeat (first | (with_reducible first | exact HB.out | apply below_alloc | apply pw_below_drewN | apply below_drew1 | refine below_set ?_ GE181.out | refine below_set ?_ GE186.out) | exact HB.out)⟩⟩
  case round =>
   clear H'
   try clear c1; try clear p2; try clear c4; try clear c7; try clear c11; try clear hcz12_0; try clear hcz12_1; try clear hcz12_2; try clear hcz8_0; try clear hcz8_1; try clear hcz8_2; try clear hcz8_3; try clear hcz8_4; try clear hcz8_5; try clear hcz8_6; try clear hfz12_0; try clear hfz12_1; try clear hfz12_2; try clear hfz8_0; try clear hfz8_1; try clear hfz8_2; try clear hfz8_3; try clear hfz8_4; try clear hfz8_5; try clear hfz8_6
   obtain ⟨x6_1, x7_1, rfl, rfl, HA, HK1, BK181, BK186, HB⟩ := hrel
   cases gk with
   | zero => exact absurd HA.out (by simp [croftlaw11_OraclePages.l0])
   | succ k1 =>
    have H := HA.out
    clear HA
    simp only [croftlaw11_OraclePages.l0] at H
    by_cases c13 : x7_1 < 8
    ·rw [if_pos c13] at H
     have c13b0 : decide (x7_1 < 8) = true := decide_eq_true c13
     clear c13
     have H' := Aside0.mk H
     clear H
     go_wp2
     go_loopg [8, 9] k1 (fun kq v8 v9 w' => ∃ (x8_2 : Int) (x9_2 : Int), v8 = .int .i64 x8_2 ∧ v9 = .int .i64 x9_2 ∧ Aside0 (croftlaw11_OraclePages.l1 kq l1 x6_1 x7_1 x8_2 x9_2 a0_0 a0_1 a0_2 a0_3 l0_4 a0_5 a0_6 t183 t184 t185 = some r) ∧ Aside0 (kq ≤ k1) ∧ Aside0 (w'.heap[gb181]? = some (.cells #[.int .u64 a0_0, .int .i64 a0_1, .int .i64 a0_2, .int .i64 a0_3, (.slice A0_4 l0_4.length c0_4), .int .u64 a0_5, .bool a0_6] 44 (0, 0))) ∧ Aside0 (w'.heap[gb186]? = some (.cells #[.int .u64 t183, .int .i64 t184, .int .i64 t185] 29 (0, 0))) ∧ Aside0 (Below w.heap.size w w'))
     case atStart => exact ⟨(0), (0), (by first | rfl | (simp; done) | (simp [*]; done)), (by first | rfl | (simp; done) | (simp [*]; done)), H', ⟨Nat.le_refl _⟩, ⟨by (with_reducible repeat (first | refine blk_drewN ?_ _ | refine blk_drew ?_ | refine blk_alloc ?_ _)); exact BK181.out⟩, ⟨by (with_reducible repeat (first | refine blk_drewN ?_ _ | refine blk_drew ?_ | refine blk_alloc ?_ _)); exact BK186.out⟩, ⟨by repeat (first | (with_reducible first | exact HB.out | apply below_alloc | apply pw_below_drewN | apply below_drew1 | refine below_set ?_ GE181.out | refine below_set ?_ GE186.out) | exact HB.out)⟩⟩
     case round =>
      clear H'
      try clear c1; try clear p2; try clear c4; try clear c7; try clear c11; try clear c13; try clear c13b0; try clear hcz12_0; try clear hcz12_1; try clear hcz12_2; try clear hcz8_0; try clear hcz8_1; try clear hcz8_2; try clear hcz8_3; try clear hcz8_4; try clear hcz8_5; try clear hcz8_6; try clear hfz12_0; try clear hfz12_1; try clear hfz12_2; try clear hfz8_0; try clear hfz8_1; try clear hfz8_2; try clear hfz8_3; try clear hfz8_4; try clear hfz8_5; try clear hfz8_6; try clear p2
      obtain ⟨x8_2, x9_2, rfl, rfl, HA, HK2, BK181, BK186, HB⟩ := hrel
      cases gk with
      | zero => exact absurd HA.out (by simp [croftlaw11_OraclePages.l1])
      | succ k2 =>
       have H := HA.out
       clear HA
       simp only [croftlaw11_OraclePages.l1] at H
       by_cases c14 : x9_2 < (l1.length : Int)
       ·rw [if_pos c14] at H
        have c14b0 : decide (x9_2 < (l1.length : Int)) = true := decide_eq_true c14
        clear c14
        by_cases c15 : 0 ≤ x9_2
        ·rw [if_pos c15] at H
         have c15b0 : decide (0 ≤ x9_2) = true := decide_eq_true c15
         clear c15
         obtain ⟨ji16, hji16⟩ : ∃ j_ : Int, (IntKind.u64.wrap (x7_1)) = j_ := ⟨_, rfl⟩
         replace H : (if 0 ≤ (ji16) then (if (rd l1 x9_2) = (shl .u64 16 (ji16)) then (croftlaw11_OraclePages.l1 k2 l1 x6_1 x7_1 (wrap64 (x8_2 + 1)) (wrap64 (x9_2 + 1)) a0_0 a0_1 a0_2 a0_3 l0_4 a0_5 a0_6 t183 t184 t185) else (croftlaw11_OraclePages.l1 k2 l1 x6_1 x7_1 x8_2 (wrap64 (x9_2 + 1)) a0_0 a0_1 a0_2 a0_3 l0_4 a0_5 a0_6 t183 t184 t185)) else (none)) = some r := by first | (rw [hji16] at H; exact H) | (simp only [hji16] at H ⊢; exact H)
         by_cases c17 : 0 ≤ (ji16)
         ·rw [if_pos c17] at H
          have c17b0 := eq_true c17
          have c17b1 : decide (0 ≤ (ji16)) = true := decide_eq_true c17
          clear c17
          obtain ⟨ji18, hji18⟩ : ∃ j_ : Int, (shl .u64 16 (ji16)) = j_ := ⟨_, rfl⟩
          replace H : (if (rd l1 x9_2) = (ji18) then (croftlaw11_OraclePages.l1 k2 l1 x6_1 x7_1 (wrap64 (x8_2 + 1)) (wrap64 (x9_2 + 1)) a0_0 a0_1 a0_2 a0_3 l0_4 a0_5 a0_6 t183 t184 t185) else (croftlaw11_OraclePages.l1 k2 l1 x6_1 x7_1 x8_2 (wrap64 (x9_2 + 1)) a0_0 a0_1 a0_2 a0_3 l0_4 a0_5 a0_6 t183 t184 t185)) = some r := by first | (rw [hji18] at H; exact H) | (simp only [hji18] at H ⊢; exact H)
          have hji18_ : (IntKind.u64.wrap (16 * 2 ^ min (ji16).toNat 64)) = ji18 := hji18
          have hji18z : (ji16) ≤ 64 → (IntKind.u64.wrap (16 * 2 ^ (ji16).toNat)) = ji18 := shl_small hji18
          by_cases c19 : (rd l1 x9_2) = (ji18)
          ·rw [if_pos c19] at H
           have c19b0 : ((rd l1 x9_2) == (ji18)) = true := beq_iff_eq.mpr c19
           have c19b1 : ((rd l1 x9_2) != (ji18)) = false := bne_eq_false_iff_eq.mpr c19
           clear c19
           have H' := Aside0.mk H
           clear H
           have p187 : 0 ≤ (x9_2 : Int) := of_decide_eq_true (by first | (with_reducible assumption) | assumption)
           have q187 : x9_2 < (l1.length : Int) := of_decide_eq_true (by first | (with_reducible assumption) | assumption)
           obtain ⟨ad187, e187, hx187_0⟩ := Kd.at_int HR1.out x9_2 p187 q187
           cases e187
           replace hx187_0 := (HB.out.cell (World.block_lt_of_cell? w _ hx187_0)).trans hx187_0
           replace p187 := eq_true p187
           replace q187 := eq_true q187
           go_wp2
           go_roundg k2
           case measure => have := HK1.out; have := HK2.out; omega
           case rel => exact ⟨(wrap64 (x8_2 + 1)), (wrap64 (x9_2 + 1)), (by first | rfl | (simp; done) | (simp [*]; done)), (by first | rfl | (simp; done) | (simp [*]; done)), H', ⟨by have := HK1.out; have := HK2.out; omega⟩, ⟨by (with_reducible repeat (first | refine blk_drewN ?_ _ | refine blk_drew ?_ | refine blk_alloc ?_ _)); exact BK181.out⟩, ⟨by (with_reducible repeat (first | refine blk_drewN ?_ _ | refine blk_drew ?_ | refine blk_alloc ?_ _)); exact BK186.out⟩, ⟨by repeat (first | (with_reducible first | exact HB.out | apply below_alloc | apply pw_below_drewN | apply below_drew1 | refine below_set ?_ GE181.out | refine below_set ?_ GE186.out) | exact HB.out)⟩⟩
          ·rw [if_neg c19] at H
           have c19b0 : ((rd l1 x9_2) == (ji18)) = false := beq_eq_false_iff_ne.mpr c19
           have c19b1 : ((rd l1 x9_2) != (ji18)) = true := bne_iff_ne.mpr c19
           have H' := Aside0.mk H
           clear H
           have p187 : 0 ≤ (x9_2 : Int) := of_decide_eq_true (by first | (with_reducible assumption) | assumption)
           have q187 : x9_2 < (l1.length : Int) := of_decide_eq_true (by first | (with_reducible assumption) | assumption)
           obtain ⟨ad187, e187, hx187_0⟩ := Kd.at_int HR1.out x9_2 p187 q187
           cases e187
           replace hx187_0 := (HB.out.cell (World.block_lt_of_cell? w _ hx187_0)).trans hx187_0
           replace p187 := eq_true p187
           replace q187 := eq_true q187
           go_wp2
           go_roundg k2
           case measure => have := HK1.out; have := HK2.out; omega
           case rel => exact ⟨(x8_2), (wrap64 (x9_2 + 1)), (by first | rfl | (simp; done) | (simp [*]; done)), (by first | rfl | (simp; done) | (simp [*]; done)), H', ⟨by have := HK1.out; have := HK2.out; omega⟩, ⟨by (with_reducible repeat (first | refine blk_drewN ?_ _ | refine blk_drew ?_ | refine blk_alloc ?_ _)); exact BK181.out⟩, ⟨by (with_reducible repeat (first | refine blk_drewN ?_ _ | refine blk_drew ?_ | refine blk_alloc ?_ _)); exact BK186.out⟩, ⟨by repeat (first | (with_reducible first | exact HB.out | apply below_alloc | apply pw_below_drewN | apply below_drew1 | refine below_set ?_ GE181.out | refine below_set ?_ GE186.out) | exact HB.out)⟩⟩
         ·rw [if_neg c17] at H
          exact absurd H (by simp)
        ·rw [if_neg c15] at H
         exact absurd H (by simp)
       ·rw [if_neg c14] at H
        have c14b0 : decide (x9_2 < (l1.length : Int)) = false := decide_eq_false c14
        clear c14
        obtain ⟨ji20, hji20⟩ : ∃ j_ : Int, (IntKind.u64.wrap (x7_1)) = j_ := ⟨_, rfl⟩
        replace H : (if 0 ≤ (ji20) then (if (shr .i64 256 (ji20)) = 0 then (none) else (croftlaw11_OraclePages.l0 k2 l1 (wrap64 (x6_1 + (wrap64 (Int.tdiv (wrap64 (x8_2 + (shr .i64 255 (ji20)))) (shr .i64 256 (ji20)))))) (wrap64 (x7_1 + 1)) a0_0 a0_1 a0_2 a0_3 l0_4 a0_5 a0_6 t183 t184 t185)) else (none)) = some r := by first | (rw [hji20] at H; exact H) | (simp only [hji20] at H ⊢; exact H)
        by_cases c21 : 0 ≤ (ji20)
        ·rw [if_pos c21] at H
         have c21b0 := eq_true c21
         have c21b1 : decide (0 ≤ (ji20)) = true := decide_eq_true c21
         clear c21
         obtain ⟨ji22, hji22⟩ : ∃ j_ : Int, (shr .i64 255 (ji20)) = j_ := ⟨_, rfl⟩
         replace H : (if (shr .i64 256 (ji20)) = 0 then (none) else (croftlaw11_OraclePages.l0 k2 l1 (wrap64 (x6_1 + (wrap64 (Int.tdiv (wrap64 (x8_2 + (ji22))) (shr .i64 256 (ji20)))))) (wrap64 (x7_1 + 1)) a0_0 a0_1 a0_2 a0_3 l0_4 a0_5 a0_6 t183 t184 t185)) = some r := by first | (rw [hji22] at H; exact H) | (simp only [hji22] at H ⊢; exact H)
         have hji22_ : (255 / 2 ^ min (ji20).toNat 64) = ji22 := hji22
         have hji22z : (ji20) ≤ 64 → (255 / 2 ^ (ji20).toNat) = ji22 := shr_small hji22
         have c23b0 := eq_true (of_decide_eq_true (by first | (with_reducible assumption) | assumption) : 0 ≤ (ji20))
         obtain ⟨ji24, hji24⟩ : ∃ j_ : Int, (shr .i64 256 (ji20)) = j_ := ⟨_, rfl⟩
         replace H : (if (ji24) = 0 then (none) else (croftlaw11_OraclePages.l0 k2 l1 (wrap64 (x6_1 + (wrap64 (Int.tdiv (wrap64 (x8_2 + (ji22))) (ji24))))) (wrap64 (x7_1 + 1)) a0_0 a0_1 a0_2 a0_3 l0_4 a0_5 a0_6 t183 t184 t185)) = some r := by first | (rw [hji24] at H; exact H) | (simp only [hji24] at H ⊢; exact H)
         have hji24_ : (256 / 2 ^ min (ji20).toNat 64) = ji24 := hji24
         have hji24z : (ji20) ≤ 64 → (256 / 2 ^ (ji20).toNat) = ji24 := shr_small hji24
         by_cases c25 : (ji24) = 0
         ·rw [if_pos c25] at H
          exact absurd H (by simp)
         ·rw [if_neg c25] at H
          have c25b0 : ((ji24) == 0) = false := beq_eq_false_iff_ne.mpr c25
          have c25b1 : ((ji24) != 0) = true := bne_iff_ne.mpr c25
          have H' := Aside0.mk H
          clear H
          go_wp2
          go_roundg k2
          case measure => have := HK1.out; have := HK2.out; omega
          case rel => exact ⟨(wrap64 (x6_1 + (wrap64 (Int.tdiv (wrap64 (x8_2 + (ji22))) (ji24))))), (wrap64 (x7_1 + 1)), (by first | rfl | (simp; done) | (simp only [← hji22, ← hji24] <;> (first | rfl | simp)) | (simp [*]; done)), (by first | rfl | (simp; done) | (simp [*]; done)), H', ⟨by have := HK1.out; have := HK2.out; omega⟩, ⟨by (with_reducible repeat (first | refine blk_drewN ?_ _ | refine blk_drew ?_ | refine blk_alloc ?_ _)); exact BK181.out⟩, ⟨by (with_reducible repeat (first | refine blk_drewN ?_ _ | refine blk_drew ?_ | refine blk_alloc ?_ _)); exact BK186.out⟩, ⟨by repeat (first | (with_reducible first | exact HB.out | apply below_alloc | apply pw_below_drewN | apply below_drew1 | refine below_set ?_ GE181.out | refine below_set ?_ GE186.out) | exact HB.out)⟩⟩
        ·rw [if_neg c21] at H
         exact absurd H (by simp)
    ·rw [if_neg c13] at H
     have c13b0 : decide (x7_1 < 8) = false := decide_eq_false c13
     clear c13
     replace H := Option.bind_eq_some_iff.mp H
     obtain ⟨t188, A260, H⟩ := H
     replace H : (croftlaw11_OraclePages.l2 k1 l1 x6_1 t188 0 a0_0 a0_1 a0_2 a0_3 l0_4 a0_5 a0_6 t183 t184 t185) = some r := H
     have A26 := Aside0.mk A260
     clear A260
     have H' := Aside0.mk H
     clear H
     have hnb27 := NB181_186.out
     have hnc27 := NB186_181.out
     have hcz28_0 : wr.cell? ⟨gb181, 0, none⟩ = some (.int .u64 a0_0) := (blk_cell BK181.out 0).trans rfl
     have hcz28_1 : wr.cell? ⟨gb181, 1, none⟩ = some (.int .i64 a0_1) := (blk_cell BK181.out 1).trans rfl
     have hcz28_2 : wr.cell? ⟨gb181, 2, none⟩ = some (.int .i64 a0_2) := (blk_cell BK181.out 2).trans rfl
     have hcz28_3 : wr.cell? ⟨gb181, 3, none⟩ = some (.int .i64 a0_3) := (blk_cell BK181.out 3).trans rfl
     have hcz28_4 : wr.cell? ⟨gb181, 4, none⟩ = some (.slice A0_4 l0_4.length c0_4) := (blk_cell BK181.out 4).trans rfl
     have hcz28_5 : wr.cell? ⟨gb181, 5, none⟩ = some (.int .u64 a0_5) := (blk_cell BK181.out 5).trans rfl
     have hcz28_6 : wr.cell? ⟨gb181, 6, none⟩ = some (.bool a0_6) := (blk_cell BK181.out 6).trans rfl
     have hfz28_0 := blk_frozen BK181.out 0
     have hfz28_1 := blk_frozen BK181.out 1
     have hfz28_2 := blk_frozen BK181.out 2
     have hfz28_3 := blk_frozen BK181.out 3
     have hfz28_4 := blk_frozen BK181.out 4
     have hfz28_5 := blk_frozen BK181.out 5
     have hfz28_6 := blk_frozen BK181.out 6
     go_wp2_with (first | ((with_reducible refine gate_callee (f := 25) rfl ?_); refine goesL_ (some 55) rfl rfl Try.func25 (by kernel_rfl) rfl #[.agg #[.int .u64 a0_0, .int .i64 a0_1, .int .i64 a0_2]] rfl (by (try simp only [List.map_toArray, List.map_cons, List.map_nil]); first | done | rfl | (simp only [List.length_drop, List.length_take]; rfl)) ?_; (with_reducible refine (croftref11_May.calls k1 a0_0 a0_1 a0_2 t188 _ A26.out).mono ?_); rintro e w29 ⟨rfl, hb⟩; refine ⟨_, rfl, ?_⟩; have n0_ := Aside0.mk (blk_below (g := gb181) (o := .cells #[.int .u64 a0_0, .int .i64 a0_1, .int .i64 a0_2, .int .i64 a0_3, .slice A0_4 l0_4.length c0_4, .int .u64 a0_5, .bool a0_6] 44 (0, 0)) (by (with_reducible repeat (first | refine blk_drewN ?_ _ | refine blk_drew ?_ | refine blk_alloc ?_ _)); exact BK181.out) hb); have n1_ := Aside0.mk (blk_below (g := gb186) (o := .cells #[.int .u64 t183, .int .i64 t184, .int .i64 t185] 29 (0, 0)) (by (with_reducible repeat (first | refine blk_drewN ?_ _ | refine blk_drew ?_ | refine blk_alloc ?_ _)); exact BK186.out) hb); have n2_ := Aside0.mk (below_step (by repeat (first | (with_reducible first | exact HB.out | apply below_alloc | apply pw_below_drewN | apply below_drew1 | refine below_set ?_ GE181.out | refine below_set ?_ GE186.out) | exact HB.out)) hb); clear BK181; clear BK186; clear HB; have BK181 := n0_; have BK186 := n1_; have HB := n2_; clear n0_ n1_ n2_; (try clear hb); (try clear hb2); (try clear hk); (try clear hi)))
     go_loopg [6, 10, 11] k1 (fun kq v6 v10 v11 w' => ∃ (x6_2 : Int) (x10_2 : Bool) (x11_2 : Int), v6 = .int .i64 x6_2 ∧ v10 = .bool x10_2 ∧ v11 = .int .i64 x11_2 ∧ Aside0 (croftlaw11_OraclePages.l2 kq l1 x6_2 x10_2 x11_2 a0_0 a0_1 a0_2 a0_3 l0_4 a0_5 a0_6 t183 t184 t185 = some r) ∧ Aside0 (kq ≤ k1) ∧ Aside0 (w'.heap[gb181]? = some (.cells #[.int .u64 a0_0, .int .i64 a0_1, .int .i64 a0_2, .int .i64 a0_3, (.slice A0_4 l0_4.length c0_4), .int .u64 a0_5, .bool a0_6] 44 (0, 0))) ∧ Aside0 (w'.heap[gb186]? = some (.cells #[.int .u64 t183, .int .i64 t184, .int .i64 t185] 29 (0, 0))) ∧ Aside0 (Below w.heap.size w w'))
     case atStart => exact ⟨(x6_1), (t188), (0), (by first | rfl | (simp; done) | (simp [*]; done)), (by first | rfl | (simp; done) | (simp [*]; done)), (by first | rfl | (simp; done) | (simp [*]; done)), H', ⟨Nat.le_refl _⟩, ⟨by (with_reducible repeat (first | refine blk_drewN ?_ _ | refine blk_drew ?_ | refine blk_alloc ?_ _)); exact BK181.out⟩, ⟨by (with_reducible repeat (first | refine blk_drewN ?_ _ | refine blk_drew ?_ | refine blk_alloc ?_ _)); exact BK186.out⟩, ⟨by repeat (first | (with_reducible first | exact HB.out | apply below_alloc | apply pw_below_drewN | apply below_drew1 | refine below_set ?_ GE181.out | refine below_set ?_ GE186.out) | exact HB.out)⟩⟩
     case round =>
      clear H'
      try clear c1; try clear p1; try clear q1; try clear hx1; try clear c2; try clear p2; try clear c4; try clear p6; try clear c7; try clear c11; try clear c13; try clear c13b0; try clear c14; try clear c14b0; try clear c15; try clear c15b0; try clear c17; try clear c17b0; try clear c17b1; try clear c18; try clear p18; try clear q18; try clear hx18; try clear c19; try clear c19b0; try clear c19b1; try clear c21; try clear c21b0; try clear c21b1; try clear c23; try clear c23b0; try clear c25; try clear c25b0; try clear c25b1; try clear c27; try clear hcz12_0; try clear hcz12_1; try clear hcz12_2; try clear hcz28_0; try clear hcz28_1; try clear hcz28_2; try clear hcz28_3; try clear hcz28_4; try clear hcz28_5; try clear hcz28_6; try clear hcz8_0; try clear hcz8_1; try clear hcz8_2; try clear hcz8_3; try clear hcz8_4; try clear hcz8_5; try clear hcz8_6; try clear hfz12_0; try clear hfz12_1; try clear hfz12_2; try clear hfz28_0; try clear hfz28_1; try clear hfz28_2; try clear hfz28_3; try clear hfz28_4; try clear hfz28_5; try clear hfz28_6; try clear hfz8_0; try clear hfz8_1; try clear hfz8_2; try clear hfz8_3; try clear hfz8_4; try clear hfz8_5; try clear hfz8_6; try clear hx187_0; try clear p187; try clear p2; try clear q187
      obtain ⟨x6_2, x10_2, x11_2, rfl, rfl, rfl, HA, HK2, BK181, BK186, HB⟩ := hrel
      cases gk with
      | zero => exact absurd HA.out (by simp [croftlaw11_OraclePages.l2])
      | succ k2 =>
       have H := HA.out
       clear HA
       simp only [croftlaw11_OraclePages.l2] at H
       by_cases c30 : x11_2 < (l1.length : Int)
       ·rw [if_pos c30] at H
        have c30b0 : decide (x11_2 < (l1.length : Int)) = true := decide_eq_true c30
        clear c30
        have HC31 := Aside0.mk H
        clear H
        go_upto_region 19 with (fail)
        go_cut [88] (fun v88 wc => ∃ (kq : Nat) (x88_30 : Bool), v88 = .bool x88_30 ∧ Aside0 (croftlaw11_OraclePages.j3 kq l1 x6_2 x10_2 x11_2 x88_30 a0_0 a0_1 a0_2 a0_3 l0_4 a0_5 a0_6 t183 t184 t185 = some r) ∧ Aside0 (kq ≤ k2) ∧ Aside0 (wc.heap[gb181]? = some (.cells #[.int .u64 a0_0, .int .i64 a0_1, .int .i64 a0_2, .int .i64 a0_3, (.slice A0_4 l0_4.length c0_4), .int .u64 a0_5, .bool a0_6] 44 (0, 0))) ∧ Aside0 (wc.heap[gb186]? = some (.cells #[.int .u64 t183, .int .i64 t184, .int .i64 t185] 29 (0, 0))) ∧ Aside0 (Below w.heap.size w wc))
        case first =>
         have H := HC31.out
         clear HC31
         by_cases c32 : 0 ≤ x11_2
         ·rw [if_pos c32] at H
          have c32b0 : decide (0 ≤ x11_2) = true := decide_eq_true c32
          clear c32
          (first | rw [c32b0] | (simp only [i64_w, i32_w]; rw [c32b0]) | skip)
          replace H := Option.bind_eq_some_iff.mp H
          obtain ⟨t190, A330, H⟩ := H
          replace H : (if t190 = true then (if (rd l1 x11_2) < 16 then (croftlaw11_OraclePages.j3 k2 l1 x6_2 x10_2 x11_2 true a0_0 a0_1 a0_2 a0_3 l0_4 a0_5 a0_6 t183 t184 t185) else (if x10_2 = true then ((croftref11_R.f a0_0 a0_1 a0_2).bind fun t193 => (croftlaw11_OraclePages.j3 k2 l1 x6_2 x10_2 x11_2 (decide ((rd l1 x11_2) > t193)) a0_0 a0_1 a0_2 a0_3 l0_4 a0_5 a0_6 t183 t184 t185)) else (croftlaw11_OraclePages.j3 k2 l1 x6_2 x10_2 x11_2 true a0_0 a0_1 a0_2 a0_3 l0_4 a0_5 a0_6 t183 t184 t185))) else (croftlaw11_OraclePages.j3 k2 l1 x6_2 x10_2 x11_2 true a0_0 a0_1 a0_2 a0_3 l0_4 a0_5 a0_6 t183 t184 t185)) = some r := H
          have A33 := Aside0.mk A330
          clear A330
          by_cases c34 : t190 = true
          ·subst c34
           have H1 : (if (rd l1 x11_2) < 16 then (croftlaw11_OraclePages.j3 k2 l1 x6_2 x10_2 x11_2 true a0_0 a0_1 a0_2 a0_3 l0_4 a0_5 a0_6 t183 t184 t185) else (if x10_2 = true then ((croftref11_R.f a0_0 a0_1 a0_2).bind fun t193 => (croftlaw11_OraclePages.j3 k2 l1 x6_2 x10_2 x11_2 (decide ((rd l1 x11_2) > t193)) a0_0 a0_1 a0_2 a0_3 l0_4 a0_5 a0_6 t183 t184 t185)) else (croftlaw11_OraclePages.j3 k2 l1 x6_2 x10_2 x11_2 true a0_0 a0_1 a0_2 a0_3 l0_4 a0_5 a0_6 t183 t184 t185))) = some r := by rw [if_pos rfl] at H; exact H
           clear H
           have H := H1
           clear H1
           by_cases c35 : (rd l1 x11_2) < 16
           ·rw [if_pos c35] at H
            have c35b0 : decide ((rd l1 x11_2) < 16) = true := decide_eq_true c35
            clear c35
            have H' := Aside0.mk H
            clear H
            try go_wp2
            have n0_ := Aside0.mk (blk_drew BK181.out)
            have n1_ := Aside0.mk (blk_drew BK186.out)
            have n2_ := Aside0.mk (below_drew1 HB.out)
            clear BK181
            clear BK186
            clear HB
            have BK181 := n0_
            have BK186 := n1_
            have HB := n2_
            clear n0_ n1_ n2_
            have p189 : 0 ≤ (x11_2 : Int) := of_decide_eq_true (by first | (with_reducible assumption) | assumption)
            have q189 : x11_2 < (l1.length : Int) := of_decide_eq_true (by first | (with_reducible assumption) | assumption)
            obtain ⟨ad189, e189, hx189_0⟩ := Kd.at_int HR1.out x11_2 p189 q189
            have hw189_0 := hx189_0
            cases e189
            replace hx189_0 := (HB.out.cell (World.block_lt_of_cell? w _ hx189_0)).trans hx189_0
            replace p189 := eq_true p189
            replace q189 := eq_true q189
            have p191 : 0 ≤ (x11_2 : Int) := of_decide_eq_true (by first | (with_reducible assumption) | assumption)
            have q191 : x11_2 < (l1.length : Int) := of_decide_eq_true (by first | (with_reducible assumption) | assumption)
            obtain ⟨ad191, e191, hx191_0⟩ := Kd.at_int HR1.out x11_2 p191 q191
            have hw191_0 := hx191_0
            obtain rfl : ad189 = ad191 := (by injection e191)
            replace hx191_0 := (HB.out.cell (World.block_lt_of_cell? w _ hx191_0)).trans hx191_0
            replace p191 := eq_true p191
            replace q191 := eq_true q191
            refine start_ (n := 27) (S := fun w' => w'.cell? (ad189.add (x11_2).toNat) = some (.int .u64 (rd l1 x11_2)) ∧ w'.cell? (ad189.add (x11_2).toNat) = some (.int .u64 (rd l1 x11_2))) (ds := []) #[F,F,F,F,F,F,F,F,F,F,F,F,F,F,F,F,F,F,F,F,F,F,F,F,F,F,F] (by kernel_rfl) rfl rfl ⟨((HB.out.cell (World.block_lt_of_cell? w _ hw189_0)).trans hw189_0), ((HB.out.cell (World.block_lt_of_cell? w _ hw191_0)).trans hw191_0)⟩ (fun hHeld => ?_); refine with_tabW croftlaw11_OraclePages.tab19 croftlaw11_OraclePages.bits19 (fun HT_ HW_ => ?_)
            generalize wr.drew = w36 at BK181 BK186 HB hx189_0 hx191_0 hHeld ⊢
            refine pure_ (i := 0) (N := some 62) (v := ?_) (a' := ?_) #[T,F,F,F,F,F,F,F,F,F,F,F,F,F,F,F,F,F,F,F,F,F,F,F,F,F,F] rfl rfl (any_of HT_.out (by kernel_rfl)) (fun _ _ _ h => h) (Or.inl ⟨by rfl, ?_⟩) ?_ ?_
            rotate_left
            ·intro w'
             go_simp
             with_reducible rfl
            rotate_left
            ·simp only [Act.put, Sa, Sb, Sc, i64_w, i32_w]
             rfl
            refine pure_ (i := 1) (N := some 63) (v := ?_) (a' := ?_) #[T,T,F,F,F,F,F,F,F,F,F,F,F,F,F,F,F,F,F,F,F,F,F,F,F,F,F] rfl rfl (any_of HT_.out (by kernel_rfl)) (fun _ _ _ h => h) (Or.inl ⟨by rfl, ?_⟩) ?_ ?_
            rotate_left
            ·intro w'
             go_simp
             with_reducible rfl
            rotate_left
            ·simp only [Act.put, Sa, Sb, Sc, i64_w, i32_w]
             rfl
            refine pure_ (i := 2) (N := some 64) (v := ?_) (a' := ?_) #[T,T,T,F,F,F,F,F,F,F,F,F,F,F,F,F,F,F,F,F,F,F,F,F,F,F,F] rfl rfl (any_of HT_.out (by kernel_rfl)) (fun _ _ _ h => h) (Or.inl ⟨by rfl, ?_⟩) ?_ ?_
            rotate_left
            ·intro w'
             go_simp
             with_reducible rfl
            rotate_left
            ·simp only [Act.put, Sa, Sb, Sc, i64_w, i32_w]
             rfl
            refine take_ (i := 3) (N := some 65) (v := ?_) (a' := ?_) #[T,T,T,T,F,F,F,F,F,F,F,F,F,F,F,F,F,F,F,F,F,F,F,F,F,F,F] rfl rfl (take_ofW HT_.out HW_.out (by kernel_rfl)) (fun _ _ _ h => h) (Or.inl ⟨by rfl, ?_⟩) hHeld ?_ ?_
            rotate_left
            ·rintro w' ⟨s0, s1⟩
             go_simp
             with_reducible rfl
            rotate_left
            ·simp only [Act.put, Sa, Sb, Sc, i64_w, i32_w]
             rfl
            refine one_ (i := 4) (N := some 66) #[T,T,T,T,T,F,F,F,F,F,F,F,F,F,F,F,F,F,F,F,F,F,F,F,F,F,F] rfl rfl (one_of HT_.out (by kernel_rfl)) (by decide) (fun K hK => ?_)
            refine goes_ Try.func26 (by kernel_rfl) rfl #[.int .u64 (rd l1 x11_2)] (by rfl) rfl rfl (by (try simp only [List.map_toArray, List.map_cons, List.map_nil]); first | done | rfl | (simp only [List.length_drop, List.length_take]; rfl)) ?_
            with_reducible refine (croftref11_Power.calls (rd l1 x11_2) true _ A33.out).mono ?_
            rintro e w' ⟨rfl, ⟨nd, rfl⟩⟩
            refine ⟨_, rfl, ?_⟩
            refine hK.out _ _ ⟨((HB.out.cell (World.block_lt_of_cell? w _ hw189_0)).trans hw189_0), ((HB.out.cell (World.block_lt_of_cell? w _ hw191_0)).trans hw191_0)⟩ (fun hHeld => ?_)
            clear hK K
            refine norm_ (a' := ?_) ?_ ?_
            rotate_left
            ·show Act.put _ (some 66) _ = _
             simp only [Act.put, Sa, Sb, Sc, i64_w, i32_w]
             rfl
            refine pure_ (i := 5) (N := some 67) (v := ?_) (a' := ?_) #[T,T,T,T,T,T,F,F,F,F,F,F,F,F,F,F,F,F,F,F,F,F,F,F,F,F,F] rfl rfl (any_of HT_.out (by kernel_rfl)) (fun _ _ _ h => h) (Or.inl ⟨by rfl, ?_⟩) ?_ ?_
            rotate_left
            ·intro w'
             go_simp
             with_reducible rfl
            rotate_left
            ·simp only [Act.put, Sa, Sb, Sc, i64_w, i32_w]
             rfl
            refine pure_ (i := 6) (N := some 68) (v := ?_) (a' := ?_) #[T,T,T,T,T,T,T,F,F,F,F,F,F,F,F,F,F,F,F,F,F,F,F,F,F,F,F] rfl rfl (any_of HT_.out (by kernel_rfl)) (fun _ _ _ h => h) (Or.inl ⟨by rfl, ?_⟩) ?_ ?_
            rotate_left
            ·intro w'
             go_simp
             with_reducible rfl
            rotate_left
            ·simp only [Act.put, Sa, Sb, Sc, i64_w, i32_w]
             rfl
            refine pure_ (i := 7) (N := some 69) (v := ?_) (a' := ?_) #[T,T,T,T,T,T,T,T,F,F,F,F,F,F,F,F,F,F,F,F,F,F,F,F,F,F,F] rfl rfl (any_of HT_.out (by kernel_rfl)) (fun _ _ _ h => h) (Or.inl ⟨by rfl, ?_⟩) ?_ ?_
            rotate_left
            ·intro w'
             go_simp
             with_reducible rfl
            rotate_left
            ·simp only [Act.put, Sa, Sb, Sc, i64_w, i32_w]
             rfl
            refine pure_ (i := 8) (N := some 70) (v := ?_) (a' := ?_) #[T,T,T,T,T,T,T,T,T,F,F,F,F,F,F,F,F,F,F,F,F,F,F,F,F,F,F] rfl rfl (any_of HT_.out (by kernel_rfl)) (fun _ _ _ h => h) (Or.inl ⟨by rfl, ?_⟩) ?_ ?_
            rotate_left
            ·intro w'
             go_simp
             with_reducible rfl
            rotate_left
            ·simp only [Act.put, Sa, Sb, Sc, i64_w, i32_w]
             rfl
            refine pure_ (i := 9) (N := some 71) (v := ?_) (a' := ?_) #[T,T,T,T,T,T,T,T,T,T,F,F,F,F,F,F,F,F,F,F,F,F,F,F,F,F,F] rfl rfl (any_of HT_.out (by kernel_rfl)) (fun _ _ _ h => h) (Or.inl ⟨by rfl, ?_⟩) ?_ ?_
            rotate_left
            ·intro w'
             go_simp
             with_reducible rfl
            rotate_left
            ·simp only [Act.put, Sa, Sb, Sc, i64_w, i32_w]
             rfl
            refine take_ (i := 10) (N := some 72) (v := ?_) (a' := ?_) #[T,T,T,T,T,T,T,T,T,T,T,F,F,F,F,F,F,F,F,F,F,F,F,F,F,F,F] rfl rfl (take_ofW HT_.out HW_.out (by kernel_rfl)) (fun _ _ _ h => h) (Or.inl ⟨by rfl, ?_⟩) hHeld ?_ ?_
            rotate_left
            ·rintro w' ⟨s0, s1⟩
             go_simp
             with_reducible rfl
            rotate_left
            ·simp only [Act.put, Sa, Sb, Sc, i64_w, i32_w]
             rfl
            refine pure_ (i := 11) (N := some 73) (v := ?_) (a' := ?_) #[T,T,T,T,T,T,T,T,T,T,T,T,F,F,F,F,F,F,F,F,F,F,F,F,F,F,F] rfl rfl (any_of HT_.out (by kernel_rfl)) (fun _ _ _ h => h) (Or.inl ⟨by rfl, ?_⟩) ?_ ?_
            rotate_left
            ·intro w'
             go_simp
             with_reducible rfl
            rotate_left
            ·simp only [Act.put, Sa, Sb, Sc, i64_w, i32_w]
             rfl
            refine pure_ (i := 12) (N := some 74) (v := ?_) (a' := ?_) #[T,T,T,T,T,T,T,T,T,T,T,T,T,F,F,F,F,F,F,F,F,F,F,F,F,F,F] rfl rfl (any_of HT_.out (by kernel_rfl)) (fun _ _ _ h => h) (Or.inl ⟨by rfl, ?_⟩) ?_ ?_
            rotate_left
            ·intro w'
             go_simp
             with_reducible rfl
            rotate_left
            ·simp only [Act.put, Sa, Sb, Sc, i64_w, i32_w]
             rfl
            refine pure_ (i := 13) (N := some 75) (v := ?_) (a' := ?_) #[T,T,T,T,T,T,T,T,T,T,T,T,T,T,F,F,F,F,F,F,F,F,F,F,F,F,F] rfl rfl (any_of HT_.out (by kernel_rfl)) (fun _ _ _ h => h) (Or.inl ⟨by rfl, ?_⟩) ?_ ?_
            rotate_left
            ·intro w'
             go_simp
             with_reducible rfl
            rotate_left
            ·simp only [Act.put, Sa, Sb, Sc, i64_w, i32_w]
             rfl
            refine pure_ (i := 14) (N := some 76) (v := undef) (a' := ?_) #[T,T,T,T,T,T,T,T,T,T,T,T,T,T,T,F,F,F,F,F,F,F,F,F,F,F,F] rfl rfl (any_of HT_.out (by kernel_rfl)) (fun _ _ _ h => h) (Or.inr ⟨by rfl, rfl⟩) ?_ ?_
            rotate_left
            ·simp only [Act.put, Sa, Sb, Sc, i64_w, i32_w]
             rfl
            refine pure_ (i := 15) (N := some 77) (v := undef) (a' := ?_) #[T,T,T,T,T,T,T,T,T,T,T,T,T,T,T,T,F,F,F,F,F,F,F,F,F,F,F] rfl rfl (any_of HT_.out (by kernel_rfl)) (fun _ _ _ h => h) (Or.inr ⟨by rfl, rfl⟩) ?_ ?_
            rotate_left
            ·simp only [Act.put, Sa, Sb, Sc, i64_w, i32_w]
             rfl
            refine pure_ (i := 16) (N := some 78) (v := ?_) (a' := ?_) #[T,T,T,T,T,T,T,T,T,T,T,T,T,T,T,T,T,F,F,F,F,F,F,F,F,F,F] rfl rfl (any_of HT_.out (by kernel_rfl)) (fun _ _ _ h => h) (Or.inl ⟨by rfl, ?_⟩) ?_ ?_
            rotate_left
            ·intro w'
             go_simp
             with_reducible rfl
            rotate_left
            ·simp only [Act.put, Sa, Sb, Sc, i64_w, i32_w]
             rfl
            refine pure_ (i := 17) (N := some 79) (v := ?_) (a' := ?_) #[T,T,T,T,T,T,T,T,T,T,T,T,T,T,T,T,T,T,F,F,F,F,F,F,F,F,F] rfl rfl (any_of HT_.out (by kernel_rfl)) (fun _ _ _ h => h) (Or.inl ⟨by rfl, ?_⟩) ?_ ?_
            rotate_left
            ·intro w'
             go_simp
             with_reducible rfl
            rotate_left
            ·simp only [Act.put, Sa, Sb, Sc, i64_w, i32_w]
             rfl
            refine pure_ (i := 18) (N := some 80) (v := undef) (a' := ?_) #[T,T,T,T,T,T,T,T,T,T,T,T,T,T,T,T,T,T,T,F,F,F,F,F,F,F,F] rfl rfl (any_of HT_.out (by kernel_rfl)) (fun _ _ _ h => h) (Or.inr ⟨by rfl, rfl⟩) ?_ ?_
            rotate_left
            ·simp only [Act.put, Sa, Sb, Sc, i64_w, i32_w]
             rfl
            refine pure_ (i := 19) (N := some 81) (v := undef) (a' := ?_) #[T,T,T,T,T,T,T,T,T,T,T,T,T,T,T,T,T,T,T,T,F,F,F,F,F,F,F] rfl rfl (any_of HT_.out (by kernel_rfl)) (fun _ _ _ h => h) (Or.inr ⟨by rfl, rfl⟩) ?_ ?_
            rotate_left
            ·simp only [Act.put, Sa, Sb, Sc, i64_w, i32_w]
             rfl
            refine pure_ (i := 20) (N := some 82) (v := undef) (a' := ?_) #[T,T,T,T,T,T,T,T,T,T,T,T,T,T,T,T,T,T,T,T,T,F,F,F,F,F,F] rfl rfl (any_of HT_.out (by kernel_rfl)) (fun _ _ _ h => h) (Or.inr ⟨by rfl, rfl⟩) ?_ ?_
            rotate_left
            ·simp only [Act.put, Sa, Sb, Sc, i64_w, i32_w]
             rfl
            refine pure_ (i := 21) (N := some 83) (v := undef) (a' := ?_) #[T,T,T,T,T,T,T,T,T,T,T,T,T,T,T,T,T,T,T,T,T,T,F,F,F,F,F] rfl rfl (any_of HT_.out (by kernel_rfl)) (fun _ _ _ h => h) (Or.inr ⟨by rfl, rfl⟩) ?_ ?_
            rotate_left
            ·simp only [Act.put, Sa, Sb, Sc, i64_w, i32_w]
             rfl
            refine pure_ (i := 22) (N := some 84) (v := undef) (a' := ?_) #[T,T,T,T,T,T,T,T,T,T,T,T,T,T,T,T,T,T,T,T,T,T,T,F,F,F,F] rfl rfl (any_of HT_.out (by kernel_rfl)) (fun _ _ _ h => h) (Or.inr ⟨by rfl, rfl⟩) ?_ ?_
            rotate_left
            ·simp only [Act.put, Sa, Sb, Sc, i64_w, i32_w]
             rfl
            refine pure_ (i := 23) (N := some 85) (v := undef) (a' := ?_) #[T,T,T,T,T,T,T,T,T,T,T,T,T,T,T,T,T,T,T,T,T,T,T,T,F,F,F] rfl rfl (any_of HT_.out (by kernel_rfl)) (fun _ _ _ h => h) (Or.inr ⟨by rfl, rfl⟩) ?_ ?_
            rotate_left
            ·simp only [Act.put, Sa, Sb, Sc, i64_w, i32_w]
             rfl
            refine pure_ (i := 24) (N := some 86) (v := undef) (a' := ?_) #[T,T,T,T,T,T,T,T,T,T,T,T,T,T,T,T,T,T,T,T,T,T,T,T,T,F,F] rfl rfl (any_of HT_.out (by kernel_rfl)) (fun _ _ _ h => h) (Or.inr ⟨by rfl, rfl⟩) ?_ ?_
            rotate_left
            ·simp only [Act.put, Sa, Sb, Sc, i64_w, i32_w]
             rfl
            refine pure_ (i := 25) (N := some 87) (v := undef) (a' := ?_) #[T,T,T,T,T,T,T,T,T,T,T,T,T,T,T,T,T,T,T,T,T,T,T,T,T,T,F] rfl rfl (any_of HT_.out (by kernel_rfl)) (fun _ _ _ h => h) (Or.inr ⟨by rfl, rfl⟩) ?_ ?_
            rotate_left
            ·simp only [Act.put, Sa, Sb, Sc, i64_w, i32_w]
             rfl
            refine pure_ (i := 26) (N := some 88) (v := ?_) (a' := ?_) #[T,T,T,T,T,T,T,T,T,T,T,T,T,T,T,T,T,T,T,T,T,T,T,T,T,T,T] rfl rfl (any_of HT_.out (by kernel_rfl)) (fun _ _ _ h => h) (Or.inl ⟨by rfl, ?_⟩) ?_ ?_
            rotate_left
            ·intro w'
             go_simp
             with_reducible rfl
            rotate_left
            ·simp only [Act.put, Sa, Sb, Sc, i64_w, i32_w]
             rfl
            refine done_ (done_of HT_.out (by kernel_rfl)) ?_
            try go_wp2
            go_meet
            case rel => exact ⟨_, (true), (by first | rfl | (simp; done) | (simp [*]; done)), H', ⟨by have := HK1.out; have := HK2.out; first | omega | exact Nat.le_refl _⟩, ⟨by (with_reducible repeat (first | refine blk_drewN ?_ _ | refine blk_drew ?_ | refine blk_alloc ?_ _)); exact BK181.out⟩, ⟨by (with_reducible repeat (first | refine blk_drewN ?_ _ | refine blk_drew ?_ | refine blk_alloc ?_ _)); exact BK186.out⟩, ⟨by repeat (first | (with_reducible first | exact HB.out | apply below_alloc | apply pw_below_drewN | apply below_drew1 | refine below_set ?_ GE181.out | refine below_set ?_ GE186.out) | exact HB.out)⟩⟩
           ·rw [if_neg c35] at H
            have c35b0 : decide ((rd l1 x11_2) < 16) = false := decide_eq_false c35
            clear c35
            by_cases c37 : x10_2 = true
            ·subst c37
             have H1 : ((croftref11_R.f a0_0 a0_1 a0_2).bind fun t193 => (croftlaw11_OraclePages.j3 k2 l1 x6_2 true x11_2 (decide ((rd l1 x11_2) > t193)) a0_0 a0_1 a0_2 a0_3 l0_4 a0_5 a0_6 t183 t184 t185)) = some r := by rw [if_pos rfl] at H; exact H
             clear H
             have H := H1
             clear H1
             replace H := Option.bind_eq_some_iff.mp H
             obtain ⟨t193, A380, H⟩ := H
             replace H : (croftlaw11_OraclePages.j3 k2 l1 x6_2 true x11_2 (decide ((rd l1 x11_2) > t193)) a0_0 a0_1 a0_2 a0_3 l0_4 a0_5 a0_6 t183 t184 t185) = some r := H
             have A38 := Aside0.mk A380
             clear A380
             have H' := Aside0.mk H
             clear H
             try go_wp2
             have n0_ := Aside0.mk (blk_drew BK181.out)
             have n1_ := Aside0.mk (blk_drew BK186.out)
             have n2_ := Aside0.mk (below_drew1 HB.out)
             clear BK181
             clear BK186
             clear HB
             have BK181 := n0_
             have BK186 := n1_
             have HB := n2_
             clear n0_ n1_ n2_
             have p189 : 0 ≤ (x11_2 : Int) := of_decide_eq_true (by first | (with_reducible assumption) | assumption)
             have q189 : x11_2 < (l1.length : Int) := of_decide_eq_true (by first | (with_reducible assumption) | assumption)
             obtain ⟨ad189, e189, hx189_0⟩ := Kd.at_int HR1.out x11_2 p189 q189
             have hw189_0 := hx189_0
             cases e189
             replace hx189_0 := (HB.out.cell (World.block_lt_of_cell? w _ hx189_0)).trans hx189_0
             replace p189 := eq_true p189
             replace q189 := eq_true q189
             have p191 : 0 ≤ (x11_2 : Int) := of_decide_eq_true (by first | (with_reducible assumption) | assumption)
             have q191 : x11_2 < (l1.length : Int) := of_decide_eq_true (by first | (with_reducible assumption) | assumption)
             obtain ⟨ad191, e191, hx191_0⟩ := Kd.at_int HR1.out x11_2 p191 q191
             have hw191_0 := hx191_0
             obtain rfl : ad189 = ad191 := (by injection e191)
             replace hx191_0 := (HB.out.cell (World.block_lt_of_cell? w _ hx191_0)).trans hx191_0
             replace p191 := eq_true p191
             replace q191 := eq_true q191
             have p192 : 0 ≤ (x11_2 : Int) := of_decide_eq_true (by first | (with_reducible assumption) | assumption)
             have q192 : x11_2 < (l1.length : Int) := of_decide_eq_true (by first | (with_reducible assumption) | assumption)
             obtain ⟨ad192, e192, hx192_0⟩ := Kd.at_int HR1.out x11_2 p192 q192
             have hw192_0 := hx192_0
             obtain rfl : ad189 = ad192 := (by injection e192)
             replace hx192_0 := (HB.out.cell (World.block_lt_of_cell? w _ hx192_0)).trans hx192_0
             replace p192 := eq_true p192
             replace q192 := eq_true q192
             refine start_ (n := 27) (S := fun w' => w'.cell? ⟨gb181, 0, none⟩ = some (.int .u64 a0_0) ∧ w'.cell? ⟨gb181, 1, none⟩ = some (.int .i64 a0_1) ∧ w'.cell? ⟨gb181, 2, none⟩ = some (.int .i64 a0_2) ∧ w'.cell? ⟨gb181, 3, none⟩ = some (.int .i64 a0_3) ∧ w'.cell? ⟨gb181, 4, none⟩ = some (.slice A0_4 l0_4.length c0_4) ∧ w'.cell? ⟨gb181, 5, none⟩ = some (.int .u64 a0_5) ∧ w'.cell? ⟨gb181, 6, none⟩ = some (.bool a0_6) ∧ w'.cell? (ad189.add (x11_2).toNat) = some (.int .u64 (rd l1 x11_2)) ∧ w'.cell? (ad189.add (x11_2).toNat) = some (.int .u64 (rd l1 x11_2)) ∧ w'.cell? (ad189.add (x11_2).toNat) = some (.int .u64 (rd l1 x11_2))) (ds := []) #[F,F,F,F,F,F,F,F,F,F,F,F,F,F,F,F,F,F,F,F,F,F,F,F,F,F,F] (by kernel_rfl) rfl rfl ⟨(blk_cell BK181.out 0).trans rfl, (blk_cell BK181.out 1).trans rfl, (blk_cell BK181.out 2).trans rfl, (blk_cell BK181.out 3).trans rfl, (blk_cell BK181.out 4).trans rfl, (blk_cell BK181.out 5).trans rfl, (blk_cell BK181.out 6).trans rfl, ((HB.out.cell (World.block_lt_of_cell? w _ hw189_0)).trans hw189_0), ((HB.out.cell (World.block_lt_of_cell? w _ hw191_0)).trans hw191_0), ((HB.out.cell (World.block_lt_of_cell? w _ hw192_0)).trans hw192_0)⟩ (fun hHeld => ?_); refine with_tabW croftlaw11_OraclePages.tab19 croftlaw11_OraclePages.bits19 (fun HT_ HW_ => ?_)
             generalize wr.drew = w39 at BK181 BK186 HB hx189_0 hx191_0 hx192_0 hHeld ⊢
             refine pure_ (i := 0) (N := some 62) (v := ?_) (a' := ?_) #[T,F,F,F,F,F,F,F,F,F,F,F,F,F,F,F,F,F,F,F,F,F,F,F,F,F,F] rfl rfl (any_of HT_.out (by kernel_rfl)) (fun _ _ _ h => h) (Or.inl ⟨by rfl, ?_⟩) ?_ ?_
             rotate_left
             ·intro w'
              go_simp
              with_reducible rfl
             rotate_left
             ·simp only [Act.put, Sa, Sb, Sc, i64_w, i32_w]
              rfl
             refine pure_ (i := 1) (N := some 63) (v := ?_) (a' := ?_) #[T,T,F,F,F,F,F,F,F,F,F,F,F,F,F,F,F,F,F,F,F,F,F,F,F,F,F] rfl rfl (any_of HT_.out (by kernel_rfl)) (fun _ _ _ h => h) (Or.inl ⟨by rfl, ?_⟩) ?_ ?_
             rotate_left
             ·intro w'
              go_simp
              with_reducible rfl
             rotate_left
             ·simp only [Act.put, Sa, Sb, Sc, i64_w, i32_w]
              rfl
             refine pure_ (i := 2) (N := some 64) (v := ?_) (a' := ?_) #[T,T,T,F,F,F,F,F,F,F,F,F,F,F,F,F,F,F,F,F,F,F,F,F,F,F,F] rfl rfl (any_of HT_.out (by kernel_rfl)) (fun _ _ _ h => h) (Or.inl ⟨by rfl, ?_⟩) ?_ ?_
             rotate_left
             ·intro w'
              go_simp
              with_reducible rfl
             rotate_left
             ·simp only [Act.put, Sa, Sb, Sc, i64_w, i32_w]
              rfl
             refine take_ (i := 3) (N := some 65) (v := ?_) (a' := ?_) #[T,T,T,T,F,F,F,F,F,F,F,F,F,F,F,F,F,F,F,F,F,F,F,F,F,F,F] rfl rfl (take_ofW HT_.out HW_.out (by kernel_rfl)) (fun _ _ _ h => h) (Or.inl ⟨by rfl, ?_⟩) hHeld ?_ ?_
             rotate_left
             ·rintro w' ⟨s0, s1, s2, s3, s4, s5, s6, s7, s8, s9⟩
              go_simp
              with_reducible rfl
             rotate_left
             ·simp only [Act.put, Sa, Sb, Sc, i64_w, i32_w]
              rfl
             refine one_ (i := 4) (N := some 66) #[T,T,T,T,T,F,F,F,F,F,F,F,F,F,F,F,F,F,F,F,F,F,F,F,F,F,F] rfl rfl (one_of HT_.out (by kernel_rfl)) (by decide) (fun K hK => ?_)
             refine goes_ Try.func26 (by kernel_rfl) rfl #[.int .u64 (rd l1 x11_2)] (by rfl) rfl rfl (by (try simp only [List.map_toArray, List.map_cons, List.map_nil]); first | done | rfl | (simp only [List.length_drop, List.length_take]; rfl)) ?_
             with_reducible refine (croftref11_Power.calls (rd l1 x11_2) true _ A33.out).mono ?_
             rintro e w' ⟨rfl, ⟨nd, rfl⟩⟩
             refine ⟨_, rfl, ?_⟩
             refine hK.out _ _ ⟨(blk_cell BK181.out 0).trans rfl, (blk_cell BK181.out 1).trans rfl, (blk_cell BK181.out 2).trans rfl, (blk_cell BK181.out 3).trans rfl, (blk_cell BK181.out 4).trans rfl, (blk_cell BK181.out 5).trans rfl, (blk_cell BK181.out 6).trans rfl, ((HB.out.cell (World.block_lt_of_cell? w _ hw189_0)).trans hw189_0), ((HB.out.cell (World.block_lt_of_cell? w _ hw191_0)).trans hw191_0), ((HB.out.cell (World.block_lt_of_cell? w _ hw192_0)).trans hw192_0)⟩ (fun hHeld => ?_)
             clear hK K
             refine norm_ (a' := ?_) ?_ ?_
             rotate_left
             ·show Act.put _ (some 66) _ = _
              simp only [Act.put, Sa, Sb, Sc, i64_w, i32_w]
              rfl
             refine pure_ (i := 5) (N := some 67) (v := ?_) (a' := ?_) #[T,T,T,T,T,T,F,F,F,F,F,F,F,F,F,F,F,F,F,F,F,F,F,F,F,F,F] rfl rfl (any_of HT_.out (by kernel_rfl)) (fun _ _ _ h => h) (Or.inl ⟨by rfl, ?_⟩) ?_ ?_
             rotate_left
             ·intro w'
              go_simp
              with_reducible rfl
             rotate_left
             ·simp only [Act.put, Sa, Sb, Sc, i64_w, i32_w]
              rfl
             refine pure_ (i := 6) (N := some 68) (v := ?_) (a' := ?_) #[T,T,T,T,T,T,T,F,F,F,F,F,F,F,F,F,F,F,F,F,F,F,F,F,F,F,F] rfl rfl (any_of HT_.out (by kernel_rfl)) (fun _ _ _ h => h) (Or.inl ⟨by rfl, ?_⟩) ?_ ?_
             rotate_left
             ·intro w'
              go_simp
              with_reducible rfl
             rotate_left
             ·simp only [Act.put, Sa, Sb, Sc, i64_w, i32_w]
              rfl
             refine pure_ (i := 7) (N := some 69) (v := ?_) (a' := ?_) #[T,T,T,T,T,T,T,T,F,F,F,F,F,F,F,F,F,F,F,F,F,F,F,F,F,F,F] rfl rfl (any_of HT_.out (by kernel_rfl)) (fun _ _ _ h => h) (Or.inl ⟨by rfl, ?_⟩) ?_ ?_
             rotate_left
             ·intro w'
              go_simp
              with_reducible rfl
             rotate_left
             ·simp only [Act.put, Sa, Sb, Sc, i64_w, i32_w]
              rfl
             refine pure_ (i := 8) (N := some 70) (v := ?_) (a' := ?_) #[T,T,T,T,T,T,T,T,T,F,F,F,F,F,F,F,F,F,F,F,F,F,F,F,F,F,F] rfl rfl (any_of HT_.out (by kernel_rfl)) (fun _ _ _ h => h) (Or.inl ⟨by rfl, ?_⟩) ?_ ?_
             rotate_left
             ·intro w'
              go_simp
              with_reducible rfl
             rotate_left
             ·simp only [Act.put, Sa, Sb, Sc, i64_w, i32_w]
              rfl
             refine pure_ (i := 9) (N := some 71) (v := ?_) (a' := ?_) #[T,T,T,T,T,T,T,T,T,T,F,F,F,F,F,F,F,F,F,F,F,F,F,F,F,F,F] rfl rfl (any_of HT_.out (by kernel_rfl)) (fun _ _ _ h => h) (Or.inl ⟨by rfl, ?_⟩) ?_ ?_
             rotate_left
             ·intro w'
              go_simp
              with_reducible rfl
             rotate_left
             ·simp only [Act.put, Sa, Sb, Sc, i64_w, i32_w]
              rfl
             refine take_ (i := 10) (N := some 72) (v := ?_) (a' := ?_) #[T,T,T,T,T,T,T,T,T,T,T,F,F,F,F,F,F,F,F,F,F,F,F,F,F,F,F] rfl rfl (take_ofW HT_.out HW_.out (by kernel_rfl)) (fun _ _ _ h => h) (Or.inl ⟨by rfl, ?_⟩) hHeld ?_ ?_
             rotate_left
             ·rintro w' ⟨s0, s1, s2, s3, s4, s5, s6, s7, s8, s9⟩
              go_simp
              with_reducible rfl
             rotate_left
             ·simp only [Act.put, Sa, Sb, Sc, i64_w, i32_w]
              rfl
             refine pure_ (i := 11) (N := some 73) (v := ?_) (a' := ?_) #[T,T,T,T,T,T,T,T,T,T,T,T,F,F,F,F,F,F,F,F,F,F,F,F,F,F,F] rfl rfl (any_of HT_.out (by kernel_rfl)) (fun _ _ _ h => h) (Or.inl ⟨by rfl, ?_⟩) ?_ ?_
             rotate_left
             ·intro w'
              go_simp
              with_reducible rfl
             rotate_left
             ·simp only [Act.put, Sa, Sb, Sc, i64_w, i32_w]
              rfl
             refine pure_ (i := 12) (N := some 74) (v := ?_) (a' := ?_) #[T,T,T,T,T,T,T,T,T,T,T,T,T,F,F,F,F,F,F,F,F,F,F,F,F,F,F] rfl rfl (any_of HT_.out (by kernel_rfl)) (fun _ _ _ h => h) (Or.inl ⟨by rfl, ?_⟩) ?_ ?_
             rotate_left
             ·intro w'
              go_simp
              with_reducible rfl
             rotate_left
             ·simp only [Act.put, Sa, Sb, Sc, i64_w, i32_w]
              rfl
             refine pure_ (i := 13) (N := some 75) (v := ?_) (a' := ?_) #[T,T,T,T,T,T,T,T,T,T,T,T,T,T,F,F,F,F,F,F,F,F,F,F,F,F,F] rfl rfl (any_of HT_.out (by kernel_rfl)) (fun _ _ _ h => h) (Or.inl ⟨by rfl, ?_⟩) ?_ ?_
             rotate_left
             ·intro w'
              go_simp
              with_reducible rfl
             rotate_left
             ·simp only [Act.put, Sa, Sb, Sc, i64_w, i32_w]
              rfl
             refine pure_ (i := 14) (N := some 76) (v := ?_) (a' := ?_) #[T,T,T,T,T,T,T,T,T,T,T,T,T,T,T,F,F,F,F,F,F,F,F,F,F,F,F] rfl rfl (any_of HT_.out (by kernel_rfl)) (fun _ _ _ h => h) (Or.inl ⟨by rfl, ?_⟩) ?_ ?_
             rotate_left
             ·intro w'
              go_simp
              with_reducible rfl
             rotate_left
             ·simp only [Act.put, Sa, Sb, Sc, i64_w, i32_w]
              rfl
             refine pure_ (i := 15) (N := some 77) (v := ?_) (a' := ?_) #[T,T,T,T,T,T,T,T,T,T,T,T,T,T,T,T,F,F,F,F,F,F,F,F,F,F,F] rfl rfl (any_of HT_.out (by kernel_rfl)) (fun _ _ _ h => h) (Or.inl ⟨by rfl, ?_⟩) ?_ ?_
             rotate_left
             ·intro w'
              go_simp
              with_reducible rfl
             rotate_left
             ·simp only [Act.put, Sa, Sb, Sc, i64_w, i32_w]
              rfl
             refine pure_ (i := 16) (N := some 78) (v := ?_) (a' := ?_) #[T,T,T,T,T,T,T,T,T,T,T,T,T,T,T,T,T,F,F,F,F,F,F,F,F,F,F] rfl rfl (any_of HT_.out (by kernel_rfl)) (fun _ _ _ h => h) (Or.inl ⟨by rfl, ?_⟩) ?_ ?_
             rotate_left
             ·intro w'
              go_simp
              with_reducible rfl
             rotate_left
             ·simp only [Act.put, Sa, Sb, Sc, i64_w, i32_w]
              rfl
             refine pure_ (i := 17) (N := some 79) (v := ?_) (a' := ?_) #[T,T,T,T,T,T,T,T,T,T,T,T,T,T,T,T,T,T,F,F,F,F,F,F,F,F,F] rfl rfl (any_of HT_.out (by kernel_rfl)) (fun _ _ _ h => h) (Or.inl ⟨by rfl, ?_⟩) ?_ ?_
             rotate_left
             ·intro w'
              go_simp
              with_reducible rfl
             rotate_left
             ·simp only [Act.put, Sa, Sb, Sc, i64_w, i32_w]
              rfl
             refine pure_ (i := 18) (N := some 80) (v := ?_) (a' := ?_) #[T,T,T,T,T,T,T,T,T,T,T,T,T,T,T,T,T,T,T,F,F,F,F,F,F,F,F] rfl rfl (any_of HT_.out (by kernel_rfl)) (fun _ _ _ h => h) (Or.inl ⟨by rfl, ?_⟩) ?_ ?_
             rotate_left
             ·intro w'
              go_simp
              with_reducible rfl
             rotate_left
             ·simp only [Act.put, Sa, Sb, Sc, i64_w, i32_w]
              rfl
             refine pure_ (i := 19) (N := some 81) (v := ?_) (a' := ?_) #[T,T,T,T,T,T,T,T,T,T,T,T,T,T,T,T,T,T,T,T,F,F,F,F,F,F,F] rfl rfl (any_of HT_.out (by kernel_rfl)) (fun _ _ _ h => h) (Or.inl ⟨by rfl, ?_⟩) ?_ ?_
             rotate_left
             ·intro w'
              go_simp
              with_reducible rfl
             rotate_left
             ·simp only [Act.put, Sa, Sb, Sc, i64_w, i32_w]
              rfl
             refine pure_ (i := 20) (N := some 82) (v := ?_) (a' := ?_) #[T,T,T,T,T,T,T,T,T,T,T,T,T,T,T,T,T,T,T,T,T,F,F,F,F,F,F] rfl rfl (any_of HT_.out (by kernel_rfl)) (fun _ _ _ h => h) (Or.inl ⟨by rfl, ?_⟩) ?_ ?_
             rotate_left
             ·intro w'
              go_simp
              with_reducible rfl
             rotate_left
             ·simp only [Act.put, Sa, Sb, Sc, i64_w, i32_w]
              rfl
             refine pure_ (i := 22) (N := some 84) (v := ?_) (a' := ?_) #[T,T,T,T,T,T,T,T,T,T,T,T,T,T,T,T,T,T,T,T,T,F,T,F,F,F,F] rfl rfl (any_of HT_.out (by kernel_rfl)) (fun _ _ _ h => h) (Or.inl ⟨by rfl, ?_⟩) ?_ ?_
             rotate_left
             ·intro w'
              go_simp
              with_reducible rfl
             rotate_left
             ·simp only [Act.put, Sa, Sb, Sc, i64_w, i32_w]
              rfl
             refine take_ (i := 21) (N := some 83) (v := ?_) (a' := ?_) #[T,T,T,T,T,T,T,T,T,T,T,T,T,T,T,T,T,T,T,T,T,T,T,F,F,F,F] rfl rfl (take_ofW HT_.out HW_.out (by kernel_rfl)) (fun _ _ _ h => h) (Or.inl ⟨by rfl, ?_⟩) hHeld ?_ ?_
             rotate_left
             ·rintro w' ⟨s0, s1, s2, s3, s4, s5, s6, s7, s8, s9⟩
              go_simp
              with_reducible rfl
             rotate_left
             ·simp only [Act.put, Sa, Sb, Sc, i64_w, i32_w]
              rfl
             refine take_ (i := 23) (N := some 85) (v := ?_) (a' := ?_) #[T,T,T,T,T,T,T,T,T,T,T,T,T,T,T,T,T,T,T,T,T,T,T,T,F,F,F] rfl rfl (take_ofW HT_.out HW_.out (by kernel_rfl)) (fun _ _ _ h => h) (Or.inl ⟨by rfl, ?_⟩) hHeld ?_ ?_
             rotate_left
             ·rintro w' ⟨s0, s1, s2, s3, s4, s5, s6, s7, s8, s9⟩
              go_simp
              with_reducible rfl
             rotate_left
             ·simp only [Act.put, Sa, Sb, Sc, i64_w, i32_w]
              rfl
             refine one_ (i := 24) (N := some 86) #[T,T,T,T,T,T,T,T,T,T,T,T,T,T,T,T,T,T,T,T,T,T,T,T,T,F,F] rfl rfl (one_of HT_.out (by kernel_rfl)) (by decide) (fun K hK => ?_)
             refine goes_ Try.func24 (by kernel_rfl) rfl #[.agg #[.int .u64 a0_0, .int .i64 a0_1, .int .i64 a0_2]] (by rfl) rfl rfl (by (try simp only [List.map_toArray, List.map_cons, List.map_nil]); first | done | rfl | (simp only [List.length_drop, List.length_take]; rfl)) ?_
             with_reducible refine (croftref11_R.calls a0_0 a0_1 a0_2 t193 _ A38.out).mono ?_
             rintro e w40 ⟨rfl, hb⟩
             refine ⟨_, rfl, ?_⟩
             have n0_ := Aside0.mk (blk_below (g := gb181) (o := .cells #[.int .u64 a0_0, .int .i64 a0_1, .int .i64 a0_2, .int .i64 a0_3, .slice A0_4 l0_4.length c0_4, .int .u64 a0_5, .bool a0_6] 44 (0, 0)) (by (with_reducible repeat (first | refine blk_drewN ?_ _ | refine blk_drew ?_ | refine blk_alloc ?_ _)); exact BK181.out) hb)
             have n1_ := Aside0.mk (blk_below (g := gb186) (o := .cells #[.int .u64 t183, .int .i64 t184, .int .i64 t185] 29 (0, 0)) (by (with_reducible repeat (first | refine blk_drewN ?_ _ | refine blk_drew ?_ | refine blk_alloc ?_ _)); exact BK186.out) hb)
             have n2_ := Aside0.mk (below_step (by repeat (first | (with_reducible first | exact HB.out | apply below_alloc | apply pw_below_drewN | apply below_drew1 | refine below_set ?_ GE181.out | refine below_set ?_ GE186.out) | exact HB.out)) hb)
             clear BK181
             clear BK186
             clear HB
             have BK181 := n0_
             have BK186 := n1_
             have HB := n2_
             clear n0_ n1_ n2_
             (try clear hb)
             (try clear hb2)
             (try clear hk)
             (try clear hi)
             refine hK.out _ _ ⟨(blk_cell BK181.out 0).trans rfl, (blk_cell BK181.out 1).trans rfl, (blk_cell BK181.out 2).trans rfl, (blk_cell BK181.out 3).trans rfl, (blk_cell BK181.out 4).trans rfl, (blk_cell BK181.out 5).trans rfl, (blk_cell BK181.out 6).trans rfl, ((HB.out.cell (World.block_lt_of_cell? w _ hw189_0)).trans hw189_0), ((HB.out.cell (World.block_lt_of_cell? w _ hw191_0)).trans hw191_0), ((HB.out.cell (World.block_lt_of_cell? w _ hw192_0)).trans hw192_0)⟩ (fun hHeld => ?_)
             clear hK K
             refine norm_ (a' := ?_) ?_ ?_
             rotate_left
             ·show Act.put _ (some 86) _ = _
              simp only [Act.put, Sa, Sb, Sc, i64_w, i32_w]
              rfl
             refine pure_ (i := 25) (N := some 87) (v := ?_) (a' := ?_) #[T,T,T,T,T,T,T,T,T,T,T,T,T,T,T,T,T,T,T,T,T,T,T,T,T,T,F] rfl rfl (any_of HT_.out (by kernel_rfl)) (fun _ _ _ h => h) (Or.inl ⟨by rfl, ?_⟩) ?_ ?_
             rotate_left
             ·intro w'
              go_simp
              with_reducible rfl
             rotate_left
             ·simp only [Act.put, Sa, Sb, Sc, i64_w, i32_w]
              rfl
             refine pure_ (i := 26) (N := some 88) (v := ?_) (a' := ?_) #[T,T,T,T,T,T,T,T,T,T,T,T,T,T,T,T,T,T,T,T,T,T,T,T,T,T,T] rfl rfl (any_of HT_.out (by kernel_rfl)) (fun _ _ _ h => h) (Or.inl ⟨by rfl, ?_⟩) ?_ ?_
             rotate_left
             ·intro w'
              go_simp
              with_reducible rfl
             rotate_left
             ·simp only [Act.put, Sa, Sb, Sc, i64_w, i32_w]
              rfl
             refine done_ (done_of HT_.out (by kernel_rfl)) ?_
             try go_wp2
             go_meet
             case rel => exact ⟨_, (decide ((rd l1 x11_2) > t193)), (by first | rfl | (simp; done) | (simp [*]; done)), H', ⟨by have := HK1.out; have := HK2.out; first | omega | exact Nat.le_refl _⟩, ⟨by (with_reducible repeat (first | refine blk_drewN ?_ _ | refine blk_drew ?_ | refine blk_alloc ?_ _)); exact BK181.out⟩, ⟨by (with_reducible repeat (first | refine blk_drewN ?_ _ | refine blk_drew ?_ | refine blk_alloc ?_ _)); exact BK186.out⟩, ⟨by repeat (first | (with_reducible first | exact HB.out | apply below_alloc | apply pw_below_drewN | apply below_drew1 | refine below_set ?_ GE181.out | refine below_set ?_ GE186.out) | exact HB.out)⟩⟩
            ·replace c37 := Bool.eq_false_iff.mpr c37
             subst c37
             have H1 : (croftlaw11_OraclePages.j3 k2 l1 x6_2 false x11_2 true a0_0 a0_1 a0_2 a0_3 l0_4 a0_5 a0_6 t183 t184 t185) = some r := by rw [if_neg (show ¬ (false = true) by decide)] at H; exact H
             clear H
             have H := H1
             clear H1
             have H' := Aside0.mk H
             clear H
             try go_wp2
             have n0_ := Aside0.mk (blk_drew BK181.out)
             have n1_ := Aside0.mk (blk_drew BK186.out)
             have n2_ := Aside0.mk (below_drew1 HB.out)
             clear BK181
             clear BK186
             clear HB
             have BK181 := n0_
             have BK186 := n1_
             have HB := n2_
             clear n0_ n1_ n2_
             have p189 : 0 ≤ (x11_2 : Int) := of_decide_eq_true (by first | (with_reducible assumption) | assumption)
             have q189 : x11_2 < (l1.length : Int) := of_decide_eq_true (by first | (with_reducible assumption) | assumption)
             obtain ⟨ad189, e189, hx189_0⟩ := Kd.at_int HR1.out x11_2 p189 q189
             have hw189_0 := hx189_0
             cases e189
             replace hx189_0 := (HB.out.cell (World.block_lt_of_cell? w _ hx189_0)).trans hx189_0
             replace p189 := eq_true p189
             replace q189 := eq_true q189
             have p191 : 0 ≤ (x11_2 : Int) := of_decide_eq_true (by first | (with_reducible assumption) | assumption)
             have q191 : x11_2 < (l1.length : Int) := of_decide_eq_true (by first | (with_reducible assumption) | assumption)
             obtain ⟨ad191, e191, hx191_0⟩ := Kd.at_int HR1.out x11_2 p191 q191
             have hw191_0 := hx191_0
             obtain rfl : ad189 = ad191 := (by injection e191)
             replace hx191_0 := (HB.out.cell (World.block_lt_of_cell? w _ hx191_0)).trans hx191_0
             replace p191 := eq_true p191
             replace q191 := eq_true q191
             refine start_ (n := 27) (S := fun w' => w'.cell? (ad189.add (x11_2).toNat) = some (.int .u64 (rd l1 x11_2)) ∧ w'.cell? (ad189.add (x11_2).toNat) = some (.int .u64 (rd l1 x11_2))) (ds := []) #[F,F,F,F,F,F,F,F,F,F,F,F,F,F,F,F,F,F,F,F,F,F,F,F,F,F,F] (by kernel_rfl) rfl rfl ⟨((HB.out.cell (World.block_lt_of_cell? w _ hw189_0)).trans hw189_0), ((HB.out.cell (World.block_lt_of_cell? w _ hw191_0)).trans hw191_0)⟩ (fun hHeld => ?_); refine with_tabW croftlaw11_OraclePages.tab19 croftlaw11_OraclePages.bits19 (fun HT_ HW_ => ?_)
             generalize wr.drew = w41 at BK181 BK186 HB hx189_0 hx191_0 hHeld ⊢
             refine pure_ (i := 0) (N := some 62) (v := ?_) (a' := ?_) #[T,F,F,F,F,F,F,F,F,F,F,F,F,F,F,F,F,F,F,F,F,F,F,F,F,F,F] rfl rfl (any_of HT_.out (by kernel_rfl)) (fun _ _ _ h => h) (Or.inl ⟨by rfl, ?_⟩) ?_ ?_
             rotate_left
             ·intro w'
              go_simp
              with_reducible rfl
             rotate_left
             ·simp only [Act.put, Sa, Sb, Sc, i64_w, i32_w]
              rfl
             refine pure_ (i := 1) (N := some 63) (v := ?_) (a' := ?_) #[T,T,F,F,F,F,F,F,F,F,F,F,F,F,F,F,F,F,F,F,F,F,F,F,F,F,F] rfl rfl (any_of HT_.out (by kernel_rfl)) (fun _ _ _ h => h) (Or.inl ⟨by rfl, ?_⟩) ?_ ?_
             rotate_left
             ·intro w'
              go_simp
              with_reducible rfl
             rotate_left
             ·simp only [Act.put, Sa, Sb, Sc, i64_w, i32_w]
              rfl
             refine pure_ (i := 2) (N := some 64) (v := ?_) (a' := ?_) #[T,T,T,F,F,F,F,F,F,F,F,F,F,F,F,F,F,F,F,F,F,F,F,F,F,F,F] rfl rfl (any_of HT_.out (by kernel_rfl)) (fun _ _ _ h => h) (Or.inl ⟨by rfl, ?_⟩) ?_ ?_
             rotate_left
             ·intro w'
              go_simp
              with_reducible rfl
             rotate_left
             ·simp only [Act.put, Sa, Sb, Sc, i64_w, i32_w]
              rfl
             refine take_ (i := 3) (N := some 65) (v := ?_) (a' := ?_) #[T,T,T,T,F,F,F,F,F,F,F,F,F,F,F,F,F,F,F,F,F,F,F,F,F,F,F] rfl rfl (take_ofW HT_.out HW_.out (by kernel_rfl)) (fun _ _ _ h => h) (Or.inl ⟨by rfl, ?_⟩) hHeld ?_ ?_
             rotate_left
             ·rintro w' ⟨s0, s1⟩
              go_simp
              with_reducible rfl
             rotate_left
             ·simp only [Act.put, Sa, Sb, Sc, i64_w, i32_w]
              rfl
             refine one_ (i := 4) (N := some 66) #[T,T,T,T,T,F,F,F,F,F,F,F,F,F,F,F,F,F,F,F,F,F,F,F,F,F,F] rfl rfl (one_of HT_.out (by kernel_rfl)) (by decide) (fun K hK => ?_)
             refine goes_ Try.func26 (by kernel_rfl) rfl #[.int .u64 (rd l1 x11_2)] (by rfl) rfl rfl (by (try simp only [List.map_toArray, List.map_cons, List.map_nil]); first | done | rfl | (simp only [List.length_drop, List.length_take]; rfl)) ?_
             with_reducible refine (croftref11_Power.calls (rd l1 x11_2) true _ A33.out).mono ?_
             rintro e w' ⟨rfl, ⟨nd, rfl⟩⟩
             refine ⟨_, rfl, ?_⟩
             refine hK.out _ _ ⟨((HB.out.cell (World.block_lt_of_cell? w _ hw189_0)).trans hw189_0), ((HB.out.cell (World.block_lt_of_cell? w _ hw191_0)).trans hw191_0)⟩ (fun hHeld => ?_)
             clear hK K
             refine norm_ (a' := ?_) ?_ ?_
             rotate_left
             ·show Act.put _ (some 66) _ = _
              simp only [Act.put, Sa, Sb, Sc, i64_w, i32_w]
              rfl
             refine pure_ (i := 5) (N := some 67) (v := ?_) (a' := ?_) #[T,T,T,T,T,T,F,F,F,F,F,F,F,F,F,F,F,F,F,F,F,F,F,F,F,F,F] rfl rfl (any_of HT_.out (by kernel_rfl)) (fun _ _ _ h => h) (Or.inl ⟨by rfl, ?_⟩) ?_ ?_
             rotate_left
             ·intro w'
              go_simp
              with_reducible rfl
             rotate_left
             ·simp only [Act.put, Sa, Sb, Sc, i64_w, i32_w]
              rfl
             refine pure_ (i := 6) (N := some 68) (v := ?_) (a' := ?_) #[T,T,T,T,T,T,T,F,F,F,F,F,F,F,F,F,F,F,F,F,F,F,F,F,F,F,F] rfl rfl (any_of HT_.out (by kernel_rfl)) (fun _ _ _ h => h) (Or.inl ⟨by rfl, ?_⟩) ?_ ?_
             rotate_left
             ·intro w'
              go_simp
              with_reducible rfl
             rotate_left
             ·simp only [Act.put, Sa, Sb, Sc, i64_w, i32_w]
              rfl
             refine pure_ (i := 7) (N := some 69) (v := ?_) (a' := ?_) #[T,T,T,T,T,T,T,T,F,F,F,F,F,F,F,F,F,F,F,F,F,F,F,F,F,F,F] rfl rfl (any_of HT_.out (by kernel_rfl)) (fun _ _ _ h => h) (Or.inl ⟨by rfl, ?_⟩) ?_ ?_
             rotate_left
             ·intro w'
              go_simp
              with_reducible rfl
             rotate_left
             ·simp only [Act.put, Sa, Sb, Sc, i64_w, i32_w]
              rfl
             refine pure_ (i := 8) (N := some 70) (v := ?_) (a' := ?_) #[T,T,T,T,T,T,T,T,T,F,F,F,F,F,F,F,F,F,F,F,F,F,F,F,F,F,F] rfl rfl (any_of HT_.out (by kernel_rfl)) (fun _ _ _ h => h) (Or.inl ⟨by rfl, ?_⟩) ?_ ?_
             rotate_left
             ·intro w'
              go_simp
              with_reducible rfl
             rotate_left
             ·simp only [Act.put, Sa, Sb, Sc, i64_w, i32_w]
              rfl
             refine pure_ (i := 9) (N := some 71) (v := ?_) (a' := ?_) #[T,T,T,T,T,T,T,T,T,T,F,F,F,F,F,F,F,F,F,F,F,F,F,F,F,F,F] rfl rfl (any_of HT_.out (by kernel_rfl)) (fun _ _ _ h => h) (Or.inl ⟨by rfl, ?_⟩) ?_ ?_
             rotate_left
             ·intro w'
              go_simp
              with_reducible rfl
             rotate_left
             ·simp only [Act.put, Sa, Sb, Sc, i64_w, i32_w]
              rfl
             refine take_ (i := 10) (N := some 72) (v := ?_) (a' := ?_) #[T,T,T,T,T,T,T,T,T,T,T,F,F,F,F,F,F,F,F,F,F,F,F,F,F,F,F] rfl rfl (take_ofW HT_.out HW_.out (by kernel_rfl)) (fun _ _ _ h => h) (Or.inl ⟨by rfl, ?_⟩) hHeld ?_ ?_
             rotate_left
             ·rintro w' ⟨s0, s1⟩
              go_simp
              with_reducible rfl
             rotate_left
             ·simp only [Act.put, Sa, Sb, Sc, i64_w, i32_w]
              rfl
             refine pure_ (i := 11) (N := some 73) (v := ?_) (a' := ?_) #[T,T,T,T,T,T,T,T,T,T,T,T,F,F,F,F,F,F,F,F,F,F,F,F,F,F,F] rfl rfl (any_of HT_.out (by kernel_rfl)) (fun _ _ _ h => h) (Or.inl ⟨by rfl, ?_⟩) ?_ ?_
             rotate_left
             ·intro w'
              go_simp
              with_reducible rfl
             rotate_left
             ·simp only [Act.put, Sa, Sb, Sc, i64_w, i32_w]
              rfl
             refine pure_ (i := 12) (N := some 74) (v := ?_) (a' := ?_) #[T,T,T,T,T,T,T,T,T,T,T,T,T,F,F,F,F,F,F,F,F,F,F,F,F,F,F] rfl rfl (any_of HT_.out (by kernel_rfl)) (fun _ _ _ h => h) (Or.inl ⟨by rfl, ?_⟩) ?_ ?_
             rotate_left
             ·intro w'
              go_simp
              with_reducible rfl
             rotate_left
             ·simp only [Act.put, Sa, Sb, Sc, i64_w, i32_w]
              rfl
             refine pure_ (i := 13) (N := some 75) (v := ?_) (a' := ?_) #[T,T,T,T,T,T,T,T,T,T,T,T,T,T,F,F,F,F,F,F,F,F,F,F,F,F,F] rfl rfl (any_of HT_.out (by kernel_rfl)) (fun _ _ _ h => h) (Or.inl ⟨by rfl, ?_⟩) ?_ ?_
             rotate_left
             ·intro w'
              go_simp
              with_reducible rfl
             rotate_left
             ·simp only [Act.put, Sa, Sb, Sc, i64_w, i32_w]
              rfl
             refine pure_ (i := 14) (N := some 76) (v := ?_) (a' := ?_) #[T,T,T,T,T,T,T,T,T,T,T,T,T,T,T,F,F,F,F,F,F,F,F,F,F,F,F] rfl rfl (any_of HT_.out (by kernel_rfl)) (fun _ _ _ h => h) (Or.inl ⟨by rfl, ?_⟩) ?_ ?_
             rotate_left
             ·intro w'
              go_simp
              with_reducible rfl
             rotate_left
             ·simp only [Act.put, Sa, Sb, Sc, i64_w, i32_w]
              rfl
             refine pure_ (i := 15) (N := some 77) (v := ?_) (a' := ?_) #[T,T,T,T,T,T,T,T,T,T,T,T,T,T,T,T,F,F,F,F,F,F,F,F,F,F,F] rfl rfl (any_of HT_.out (by kernel_rfl)) (fun _ _ _ h => h) (Or.inl ⟨by rfl, ?_⟩) ?_ ?_
             rotate_left
             ·intro w'
              go_simp
              with_reducible rfl
             rotate_left
             ·simp only [Act.put, Sa, Sb, Sc, i64_w, i32_w]
              rfl
             refine pure_ (i := 16) (N := some 78) (v := ?_) (a' := ?_) #[T,T,T,T,T,T,T,T,T,T,T,T,T,T,T,T,T,F,F,F,F,F,F,F,F,F,F] rfl rfl (any_of HT_.out (by kernel_rfl)) (fun _ _ _ h => h) (Or.inl ⟨by rfl, ?_⟩) ?_ ?_
             rotate_left
             ·intro w'
              go_simp
              with_reducible rfl
             rotate_left
             ·simp only [Act.put, Sa, Sb, Sc, i64_w, i32_w]
              rfl
             refine pure_ (i := 17) (N := some 79) (v := ?_) (a' := ?_) #[T,T,T,T,T,T,T,T,T,T,T,T,T,T,T,T,T,T,F,F,F,F,F,F,F,F,F] rfl rfl (any_of HT_.out (by kernel_rfl)) (fun _ _ _ h => h) (Or.inl ⟨by rfl, ?_⟩) ?_ ?_
             rotate_left
             ·intro w'
              go_simp
              with_reducible rfl
             rotate_left
             ·simp only [Act.put, Sa, Sb, Sc, i64_w, i32_w]
              rfl
             refine pure_ (i := 18) (N := some 80) (v := undef) (a' := ?_) #[T,T,T,T,T,T,T,T,T,T,T,T,T,T,T,T,T,T,T,F,F,F,F,F,F,F,F] rfl rfl (any_of HT_.out (by kernel_rfl)) (fun _ _ _ h => h) (Or.inr ⟨by rfl, rfl⟩) ?_ ?_
             rotate_left
             ·simp only [Act.put, Sa, Sb, Sc, i64_w, i32_w]
              rfl
             refine pure_ (i := 19) (N := some 81) (v := undef) (a' := ?_) #[T,T,T,T,T,T,T,T,T,T,T,T,T,T,T,T,T,T,T,T,F,F,F,F,F,F,F] rfl rfl (any_of HT_.out (by kernel_rfl)) (fun _ _ _ h => h) (Or.inr ⟨by rfl, rfl⟩) ?_ ?_
             rotate_left
             ·simp only [Act.put, Sa, Sb, Sc, i64_w, i32_w]
              rfl
             refine pure_ (i := 20) (N := some 82) (v := undef) (a' := ?_) #[T,T,T,T,T,T,T,T,T,T,T,T,T,T,T,T,T,T,T,T,T,F,F,F,F,F,F] rfl rfl (any_of HT_.out (by kernel_rfl)) (fun _ _ _ h => h) (Or.inr ⟨by rfl, rfl⟩) ?_ ?_
             rotate_left
             ·simp only [Act.put, Sa, Sb, Sc, i64_w, i32_w]
              rfl
             refine pure_ (i := 21) (N := some 83) (v := undef) (a' := ?_) #[T,T,T,T,T,T,T,T,T,T,T,T,T,T,T,T,T,T,T,T,T,T,F,F,F,F,F] rfl rfl (any_of HT_.out (by kernel_rfl)) (fun _ _ _ h => h) (Or.inr ⟨by rfl, rfl⟩) ?_ ?_
             rotate_left
             ·simp only [Act.put, Sa, Sb, Sc, i64_w, i32_w]
              rfl
             refine pure_ (i := 22) (N := some 84) (v := undef) (a' := ?_) #[T,T,T,T,T,T,T,T,T,T,T,T,T,T,T,T,T,T,T,T,T,T,T,F,F,F,F] rfl rfl (any_of HT_.out (by kernel_rfl)) (fun _ _ _ h => h) (Or.inr ⟨by rfl, rfl⟩) ?_ ?_
             rotate_left
             ·simp only [Act.put, Sa, Sb, Sc, i64_w, i32_w]
              rfl
             refine pure_ (i := 23) (N := some 85) (v := undef) (a' := ?_) #[T,T,T,T,T,T,T,T,T,T,T,T,T,T,T,T,T,T,T,T,T,T,T,T,F,F,F] rfl rfl (any_of HT_.out (by kernel_rfl)) (fun _ _ _ h => h) (Or.inr ⟨by rfl, rfl⟩) ?_ ?_
             rotate_left
             ·simp only [Act.put, Sa, Sb, Sc, i64_w, i32_w]
              rfl
             refine pure_ (i := 24) (N := some 86) (v := undef) (a' := ?_) #[T,T,T,T,T,T,T,T,T,T,T,T,T,T,T,T,T,T,T,T,T,T,T,T,T,F,F] rfl rfl (any_of HT_.out (by kernel_rfl)) (fun _ _ _ h => h) (Or.inr ⟨by rfl, rfl⟩) ?_ ?_
             rotate_left
             ·simp only [Act.put, Sa, Sb, Sc, i64_w, i32_w]
              rfl
             refine pure_ (i := 25) (N := some 87) (v := undef) (a' := ?_) #[T,T,T,T,T,T,T,T,T,T,T,T,T,T,T,T,T,T,T,T,T,T,T,T,T,T,F] rfl rfl (any_of HT_.out (by kernel_rfl)) (fun _ _ _ h => h) (Or.inr ⟨by rfl, rfl⟩) ?_ ?_
             rotate_left
             ·simp only [Act.put, Sa, Sb, Sc, i64_w, i32_w]
              rfl
             refine pure_ (i := 26) (N := some 88) (v := ?_) (a' := ?_) #[T,T,T,T,T,T,T,T,T,T,T,T,T,T,T,T,T,T,T,T,T,T,T,T,T,T,T] rfl rfl (any_of HT_.out (by kernel_rfl)) (fun _ _ _ h => h) (Or.inl ⟨by rfl, ?_⟩) ?_ ?_
             rotate_left
             ·intro w'
              go_simp
              with_reducible rfl
             rotate_left
             ·simp only [Act.put, Sa, Sb, Sc, i64_w, i32_w]
              rfl
             refine done_ (done_of HT_.out (by kernel_rfl)) ?_
             try go_wp2
             go_meet
             case rel => exact ⟨_, (true), (by first | rfl | (simp; done) | (simp [*]; done)), H', ⟨by have := HK1.out; have := HK2.out; first | omega | exact Nat.le_refl _⟩, ⟨by (with_reducible repeat (first | refine blk_drewN ?_ _ | refine blk_drew ?_ | refine blk_alloc ?_ _)); exact BK181.out⟩, ⟨by (with_reducible repeat (first | refine blk_drewN ?_ _ | refine blk_drew ?_ | refine blk_alloc ?_ _)); exact BK186.out⟩, ⟨by repeat (first | (with_reducible first | exact HB.out | apply below_alloc | apply pw_below_drewN | apply below_drew1 | refine below_set ?_ GE181.out | refine below_set ?_ GE186.out) | exact HB.out)⟩⟩
          ·replace c34 := Bool.eq_false_iff.mpr c34
           subst c34
           have H1 : (croftlaw11_OraclePages.j3 k2 l1 x6_2 x10_2 x11_2 true a0_0 a0_1 a0_2 a0_3 l0_4 a0_5 a0_6 t183 t184 t185) = some r := by rw [if_neg (show ¬ (false = true) by decide)] at H; exact H
           clear H
           have H := H1
           clear H1
           have H' := Aside0.mk H
           clear H
           try go_wp2
           have n0_ := Aside0.mk (blk_drew BK181.out)
           have n1_ := Aside0.mk (blk_drew BK186.out)
           have n2_ := Aside0.mk (below_drew1 HB.out)
           clear BK181
           clear BK186
           clear HB
           have BK181 := n0_
           have BK186 := n1_
           have HB := n2_
           clear n0_ n1_ n2_
           have p189 : 0 ≤ (x11_2 : Int) := of_decide_eq_true (by first | (with_reducible assumption) | assumption)
           have q189 : x11_2 < (l1.length : Int) := of_decide_eq_true (by first | (with_reducible assumption) | assumption)
           obtain ⟨ad189, e189, hx189_0⟩ := Kd.at_int HR1.out x11_2 p189 q189
           have hw189_0 := hx189_0
           cases e189
           replace hx189_0 := (HB.out.cell (World.block_lt_of_cell? w _ hx189_0)).trans hx189_0
           replace p189 := eq_true p189
           replace q189 := eq_true q189
           refine start_ (n := 27) (S := fun w' => w'.cell? (ad189.add (x11_2).toNat) = some (.int .u64 (rd l1 x11_2))) (ds := []) #[F,F,F,F,F,F,F,F,F,F,F,F,F,F,F,F,F,F,F,F,F,F,F,F,F,F,F] (by kernel_rfl) rfl rfl (((HB.out.cell (World.block_lt_of_cell? w _ hw189_0)).trans hw189_0)) (fun hHeld => ?_); refine with_tabW croftlaw11_OraclePages.tab19 croftlaw11_OraclePages.bits19 (fun HT_ HW_ => ?_)
           generalize wr.drew = w42 at BK181 BK186 HB hx189_0 hHeld ⊢
           refine pure_ (i := 0) (N := some 62) (v := ?_) (a' := ?_) #[T,F,F,F,F,F,F,F,F,F,F,F,F,F,F,F,F,F,F,F,F,F,F,F,F,F,F] rfl rfl (any_of HT_.out (by kernel_rfl)) (fun _ _ _ h => h) (Or.inl ⟨by rfl, ?_⟩) ?_ ?_
           rotate_left
           ·intro w'
            go_simp
            with_reducible rfl
           rotate_left
           ·simp only [Act.put, Sa, Sb, Sc, i64_w, i32_w]
            rfl
           refine pure_ (i := 1) (N := some 63) (v := ?_) (a' := ?_) #[T,T,F,F,F,F,F,F,F,F,F,F,F,F,F,F,F,F,F,F,F,F,F,F,F,F,F] rfl rfl (any_of HT_.out (by kernel_rfl)) (fun _ _ _ h => h) (Or.inl ⟨by rfl, ?_⟩) ?_ ?_
           rotate_left
           ·intro w'
            go_simp
            with_reducible rfl
           rotate_left
           ·simp only [Act.put, Sa, Sb, Sc, i64_w, i32_w]
            rfl
           refine pure_ (i := 2) (N := some 64) (v := ?_) (a' := ?_) #[T,T,T,F,F,F,F,F,F,F,F,F,F,F,F,F,F,F,F,F,F,F,F,F,F,F,F] rfl rfl (any_of HT_.out (by kernel_rfl)) (fun _ _ _ h => h) (Or.inl ⟨by rfl, ?_⟩) ?_ ?_
           rotate_left
           ·intro w'
            go_simp
            with_reducible rfl
           rotate_left
           ·simp only [Act.put, Sa, Sb, Sc, i64_w, i32_w]
            rfl
           refine take_ (i := 3) (N := some 65) (v := ?_) (a' := ?_) #[T,T,T,T,F,F,F,F,F,F,F,F,F,F,F,F,F,F,F,F,F,F,F,F,F,F,F] rfl rfl (take_ofW HT_.out HW_.out (by kernel_rfl)) (fun _ _ _ h => h) (Or.inl ⟨by rfl, ?_⟩) hHeld ?_ ?_
           rotate_left
           ·intro w' s0
            go_simp
            with_reducible rfl
           rotate_left
           ·simp only [Act.put, Sa, Sb, Sc, i64_w, i32_w]
            rfl
           refine one_ (i := 4) (N := some 66) #[T,T,T,T,T,F,F,F,F,F,F,F,F,F,F,F,F,F,F,F,F,F,F,F,F,F,F] rfl rfl (one_of HT_.out (by kernel_rfl)) (by decide) (fun K hK => ?_)
           refine goes_ Try.func26 (by kernel_rfl) rfl #[.int .u64 (rd l1 x11_2)] (by rfl) rfl rfl (by (try simp only [List.map_toArray, List.map_cons, List.map_nil]); first | done | rfl | (simp only [List.length_drop, List.length_take]; rfl)) ?_
           with_reducible refine (croftref11_Power.calls (rd l1 x11_2) false _ A33.out).mono ?_
           rintro e w' ⟨rfl, ⟨nd, rfl⟩⟩
           refine ⟨_, rfl, ?_⟩
           refine hK.out _ _ (((HB.out.cell (World.block_lt_of_cell? w _ hw189_0)).trans hw189_0)) (fun hHeld => ?_)
           clear hK K
           refine norm_ (a' := ?_) ?_ ?_
           rotate_left
           ·show Act.put _ (some 66) _ = _
            simp only [Act.put, Sa, Sb, Sc, i64_w, i32_w]
            rfl
           refine pure_ (i := 5) (N := some 67) (v := ?_) (a' := ?_) #[T,T,T,T,T,T,F,F,F,F,F,F,F,F,F,F,F,F,F,F,F,F,F,F,F,F,F] rfl rfl (any_of HT_.out (by kernel_rfl)) (fun _ _ _ h => h) (Or.inl ⟨by rfl, ?_⟩) ?_ ?_
           rotate_left
           ·intro w'
            go_simp
            with_reducible rfl
           rotate_left
           ·simp only [Act.put, Sa, Sb, Sc, i64_w, i32_w]
            rfl
           refine pure_ (i := 6) (N := some 68) (v := ?_) (a' := ?_) #[T,T,T,T,T,T,T,F,F,F,F,F,F,F,F,F,F,F,F,F,F,F,F,F,F,F,F] rfl rfl (any_of HT_.out (by kernel_rfl)) (fun _ _ _ h => h) (Or.inl ⟨by rfl, ?_⟩) ?_ ?_
           rotate_left
           ·intro w'
            go_simp
            with_reducible rfl
           rotate_left
           ·simp only [Act.put, Sa, Sb, Sc, i64_w, i32_w]
            rfl
           refine pure_ (i := 7) (N := some 69) (v := undef) (a' := ?_) #[T,T,T,T,T,T,T,T,F,F,F,F,F,F,F,F,F,F,F,F,F,F,F,F,F,F,F] rfl rfl (any_of HT_.out (by kernel_rfl)) (fun _ _ _ h => h) (Or.inr ⟨by rfl, rfl⟩) ?_ ?_
           rotate_left
           ·simp only [Act.put, Sa, Sb, Sc, i64_w, i32_w]
            rfl
           refine pure_ (i := 8) (N := some 70) (v := undef) (a' := ?_) #[T,T,T,T,T,T,T,T,T,F,F,F,F,F,F,F,F,F,F,F,F,F,F,F,F,F,F] rfl rfl (any_of HT_.out (by kernel_rfl)) (fun _ _ _ h => h) (Or.inr ⟨by rfl, rfl⟩) ?_ ?_
           rotate_left
           ·simp only [Act.put, Sa, Sb, Sc, i64_w, i32_w]
            rfl
           refine pure_ (i := 9) (N := some 71) (v := undef) (a' := ?_) #[T,T,T,T,T,T,T,T,T,T,F,F,F,F,F,F,F,F,F,F,F,F,F,F,F,F,F] rfl rfl (any_of HT_.out (by kernel_rfl)) (fun _ _ _ h => h) (Or.inr ⟨by rfl, rfl⟩) ?_ ?_
           rotate_left
           ·simp only [Act.put, Sa, Sb, Sc, i64_w, i32_w]
            rfl
           refine pure_ (i := 10) (N := some 72) (v := undef) (a' := ?_) #[T,T,T,T,T,T,T,T,T,T,T,F,F,F,F,F,F,F,F,F,F,F,F,F,F,F,F] rfl rfl (any_of HT_.out (by kernel_rfl)) (fun _ _ _ h => h) (Or.inr ⟨by rfl, rfl⟩) ?_ ?_
           rotate_left
           ·simp only [Act.put, Sa, Sb, Sc, i64_w, i32_w]
            rfl
           refine pure_ (i := 11) (N := some 73) (v := undef) (a' := ?_) #[T,T,T,T,T,T,T,T,T,T,T,T,F,F,F,F,F,F,F,F,F,F,F,F,F,F,F] rfl rfl (any_of HT_.out (by kernel_rfl)) (fun _ _ _ h => h) (Or.inr ⟨by rfl, rfl⟩) ?_ ?_
           rotate_left
           ·simp only [Act.put, Sa, Sb, Sc, i64_w, i32_w]
            rfl
           refine pure_ (i := 12) (N := some 74) (v := ?_) (a' := ?_) #[T,T,T,T,T,T,T,T,T,T,T,T,T,F,F,F,F,F,F,F,F,F,F,F,F,F,F] rfl rfl (any_of HT_.out (by kernel_rfl)) (fun _ _ _ h => h) (Or.inl ⟨by rfl, ?_⟩) ?_ ?_
           rotate_left
           ·intro w'
            go_simp
            with_reducible rfl
           rotate_left
           ·simp only [Act.put, Sa, Sb, Sc, i64_w, i32_w]
            rfl
           refine pure_ (i := 13) (N := some 75) (v := ?_) (a' := ?_) #[T,T,T,T,T,T,T,T,T,T,T,T,T,T,F,F,F,F,F,F,F,F,F,F,F,F,F] rfl rfl (any_of HT_.out (by kernel_rfl)) (fun _ _ _ h => h) (Or.inl ⟨by rfl, ?_⟩) ?_ ?_
           rotate_left
           ·intro w'
            go_simp
            with_reducible rfl
           rotate_left
           ·simp only [Act.put, Sa, Sb, Sc, i64_w, i32_w]
            rfl
           refine pure_ (i := 14) (N := some 76) (v := undef) (a' := ?_) #[T,T,T,T,T,T,T,T,T,T,T,T,T,T,T,F,F,F,F,F,F,F,F,F,F,F,F] rfl rfl (any_of HT_.out (by kernel_rfl)) (fun _ _ _ h => h) (Or.inr ⟨by rfl, rfl⟩) ?_ ?_
           rotate_left
           ·simp only [Act.put, Sa, Sb, Sc, i64_w, i32_w]
            rfl
           refine pure_ (i := 15) (N := some 77) (v := undef) (a' := ?_) #[T,T,T,T,T,T,T,T,T,T,T,T,T,T,T,T,F,F,F,F,F,F,F,F,F,F,F] rfl rfl (any_of HT_.out (by kernel_rfl)) (fun _ _ _ h => h) (Or.inr ⟨by rfl, rfl⟩) ?_ ?_
           rotate_left
           ·simp only [Act.put, Sa, Sb, Sc, i64_w, i32_w]
            rfl
           refine pure_ (i := 16) (N := some 78) (v := ?_) (a' := ?_) #[T,T,T,T,T,T,T,T,T,T,T,T,T,T,T,T,T,F,F,F,F,F,F,F,F,F,F] rfl rfl (any_of HT_.out (by kernel_rfl)) (fun _ _ _ h => h) (Or.inl ⟨by rfl, ?_⟩) ?_ ?_
           rotate_left
           ·intro w'
            go_simp
            with_reducible rfl
           rotate_left
           ·simp only [Act.put, Sa, Sb, Sc, i64_w, i32_w]
            rfl
           refine pure_ (i := 17) (N := some 79) (v := ?_) (a' := ?_) #[T,T,T,T,T,T,T,T,T,T,T,T,T,T,T,T,T,T,F,F,F,F,F,F,F,F,F] rfl rfl (any_of HT_.out (by kernel_rfl)) (fun _ _ _ h => h) (Or.inl ⟨by rfl, ?_⟩) ?_ ?_
           rotate_left
           ·intro w'
            go_simp
            with_reducible rfl
           rotate_left
           ·simp only [Act.put, Sa, Sb, Sc, i64_w, i32_w]
            rfl
           refine pure_ (i := 18) (N := some 80) (v := undef) (a' := ?_) #[T,T,T,T,T,T,T,T,T,T,T,T,T,T,T,T,T,T,T,F,F,F,F,F,F,F,F] rfl rfl (any_of HT_.out (by kernel_rfl)) (fun _ _ _ h => h) (Or.inr ⟨by rfl, rfl⟩) ?_ ?_
           rotate_left
           ·simp only [Act.put, Sa, Sb, Sc, i64_w, i32_w]
            rfl
           refine pure_ (i := 19) (N := some 81) (v := undef) (a' := ?_) #[T,T,T,T,T,T,T,T,T,T,T,T,T,T,T,T,T,T,T,T,F,F,F,F,F,F,F] rfl rfl (any_of HT_.out (by kernel_rfl)) (fun _ _ _ h => h) (Or.inr ⟨by rfl, rfl⟩) ?_ ?_
           rotate_left
           ·simp only [Act.put, Sa, Sb, Sc, i64_w, i32_w]
            rfl
           refine pure_ (i := 20) (N := some 82) (v := undef) (a' := ?_) #[T,T,T,T,T,T,T,T,T,T,T,T,T,T,T,T,T,T,T,T,T,F,F,F,F,F,F] rfl rfl (any_of HT_.out (by kernel_rfl)) (fun _ _ _ h => h) (Or.inr ⟨by rfl, rfl⟩) ?_ ?_
           rotate_left
           ·simp only [Act.put, Sa, Sb, Sc, i64_w, i32_w]
            rfl
           refine pure_ (i := 21) (N := some 83) (v := undef) (a' := ?_) #[T,T,T,T,T,T,T,T,T,T,T,T,T,T,T,T,T,T,T,T,T,T,F,F,F,F,F] rfl rfl (any_of HT_.out (by kernel_rfl)) (fun _ _ _ h => h) (Or.inr ⟨by rfl, rfl⟩) ?_ ?_
           rotate_left
           ·simp only [Act.put, Sa, Sb, Sc, i64_w, i32_w]
            rfl
           refine pure_ (i := 22) (N := some 84) (v := undef) (a' := ?_) #[T,T,T,T,T,T,T,T,T,T,T,T,T,T,T,T,T,T,T,T,T,T,T,F,F,F,F] rfl rfl (any_of HT_.out (by kernel_rfl)) (fun _ _ _ h => h) (Or.inr ⟨by rfl, rfl⟩) ?_ ?_
           rotate_left
           ·simp only [Act.put, Sa, Sb, Sc, i64_w, i32_w]
            rfl
           refine pure_ (i := 23) (N := some 85) (v := undef) (a' := ?_) #[T,T,T,T,T,T,T,T,T,T,T,T,T,T,T,T,T,T,T,T,T,T,T,T,F,F,F] rfl rfl (any_of HT_.out (by kernel_rfl)) (fun _ _ _ h => h) (Or.inr ⟨by rfl, rfl⟩) ?_ ?_
           rotate_left
           ·simp only [Act.put, Sa, Sb, Sc, i64_w, i32_w]
            rfl
           refine pure_ (i := 24) (N := some 86) (v := undef) (a' := ?_) #[T,T,T,T,T,T,T,T,T,T,T,T,T,T,T,T,T,T,T,T,T,T,T,T,T,F,F] rfl rfl (any_of HT_.out (by kernel_rfl)) (fun _ _ _ h => h) (Or.inr ⟨by rfl, rfl⟩) ?_ ?_
           rotate_left
           ·simp only [Act.put, Sa, Sb, Sc, i64_w, i32_w]
            rfl
           refine pure_ (i := 25) (N := some 87) (v := undef) (a' := ?_) #[T,T,T,T,T,T,T,T,T,T,T,T,T,T,T,T,T,T,T,T,T,T,T,T,T,T,F] rfl rfl (any_of HT_.out (by kernel_rfl)) (fun _ _ _ h => h) (Or.inr ⟨by rfl, rfl⟩) ?_ ?_
           rotate_left
           ·simp only [Act.put, Sa, Sb, Sc, i64_w, i32_w]
            rfl
           refine pure_ (i := 26) (N := some 88) (v := ?_) (a' := ?_) #[T,T,T,T,T,T,T,T,T,T,T,T,T,T,T,T,T,T,T,T,T,T,T,T,T,T,T] rfl rfl (any_of HT_.out (by kernel_rfl)) (fun _ _ _ h => h) (Or.inl ⟨by rfl, ?_⟩) ?_ ?_
           rotate_left
           ·intro w'
            go_simp
            with_reducible rfl
           rotate_left
           ·simp only [Act.put, Sa, Sb, Sc, i64_w, i32_w]
            rfl
           refine done_ (done_of HT_.out (by kernel_rfl)) ?_
           try go_wp2
           go_meet
           case rel => exact ⟨_, (true), (by first | rfl | (simp; done) | (simp [*]; done)), H', ⟨by have := HK1.out; have := HK2.out; first | omega | exact Nat.le_refl _⟩, ⟨by (with_reducible repeat (first | refine blk_drewN ?_ _ | refine blk_drew ?_ | refine blk_alloc ?_ _)); exact BK181.out⟩, ⟨by (with_reducible repeat (first | refine blk_drewN ?_ _ | refine blk_drew ?_ | refine blk_alloc ?_ _)); exact BK186.out⟩, ⟨by repeat (first | (with_reducible first | exact HB.out | apply below_alloc | apply pw_below_drewN | apply below_drew1 | refine below_set ?_ GE181.out | refine below_set ?_ GE186.out) | exact HB.out)⟩⟩
         ·rw [if_neg c32] at H
          exact absurd H (by simp)
        case rest =>
         clear HC31
         try clear p1; try clear q1; try clear hx1; try clear c2; try clear p2; try clear c3; try clear p18; try clear q18; try clear hx18; try clear p19; try clear q19; try clear hx19; try clear c24; try clear c26; try clear c32; try clear c34; try clear c37; try clear hx189_0; try clear hx191_0; try clear p189; try clear p191; try clear q189; try clear q191
         obtain ⟨kq, x88_30, rfl, HA, HJ30, BK181, BK186, HB⟩ := hcut
         cases kq with
         | zero => exact absurd HA.out (by simp [croftlaw11_OraclePages.j3])
         | succ kj30 =>
          have H := HA.out
          clear HA
          simp only [croftlaw11_OraclePages.j3] at H
          by_cases c43 : x88_30 = true
          ·subst c43
           have H1 : (croftlaw11_OraclePages.l2 kj30 l1 x6_2 false (wrap64 (x11_2 + 1)) a0_0 a0_1 a0_2 a0_3 l0_4 a0_5 a0_6 t183 t184 t185) = some r := by rw [if_pos rfl] at H; exact H
           clear H
           have H := H1
           clear H1
           have H' := Aside0.mk H
           clear H
           go_wp2
           go_roundg kj30
           case measure => have := HK1.out; have := HK2.out; have := HJ30.out; omega
           case rel => exact ⟨(x6_2), (false), (wrap64 (x11_2 + 1)), (by first | rfl | (simp; done) | (simp [*]; done)), (by first | rfl | (simp; done) | (simp [*]; done)), (by first | rfl | (simp; done) | (simp [*]; done)), H', ⟨by have := HK1.out; have := HK2.out; have := HJ30.out; omega⟩, ⟨by (with_reducible repeat (first | refine blk_drewN ?_ _ | refine blk_drew ?_ | refine blk_alloc ?_ _)); exact BK181.out⟩, ⟨by (with_reducible repeat (first | refine blk_drewN ?_ _ | refine blk_drew ?_ | refine blk_alloc ?_ _)); exact BK186.out⟩, ⟨by repeat (first | (with_reducible first | exact HB.out | apply below_alloc | apply pw_below_drewN | apply below_drew1 | refine below_set ?_ GE181.out | refine below_set ?_ GE186.out) | exact HB.out)⟩⟩
          ·replace c43 := Bool.eq_false_iff.mpr c43
           subst c43
           have H1 : (if 0 ≤ x11_2 then (if x11_2 < (l1.length : Int) then (if (rd l1 x11_2) ≥ 4096 then (croftlaw11_OraclePages.l2 kj30 l1 (wrap64 (x6_2 + (wrap64 (IntKind.u64.wrap (Int.tdiv (rd l1 x11_2) 4096))))) x10_2 (wrap64 (x11_2 + 1)) a0_0 a0_1 a0_2 a0_3 l0_4 a0_5 a0_6 t183 t184 t185) else (croftlaw11_OraclePages.l2 kj30 l1 x6_2 x10_2 (wrap64 (x11_2 + 1)) a0_0 a0_1 a0_2 a0_3 l0_4 a0_5 a0_6 t183 t184 t185)) else (none)) else (none)) = some r := by rw [if_neg (show ¬ (false = true) by decide)] at H; exact H
           clear H
           have H := H1
           clear H1
           by_cases c44 : 0 ≤ x11_2
           ·rw [if_pos c44] at H
            have c44b0 : decide (0 ≤ x11_2) = true := decide_eq_true c44
            clear c44
            by_cases c45 : x11_2 < (l1.length : Int)
            ·rw [if_pos c45] at H
             have c45b0 : decide (x11_2 < (l1.length : Int)) = true := decide_eq_true c45
             clear c45
             by_cases c46 : (rd l1 x11_2) ≥ 4096
             ·rw [if_pos c46] at H
              have c46b0 : decide (4096 ≤ (rd l1 x11_2)) = true := decide_eq_true c46
              clear c46
              have H' := Aside0.mk H
              clear H
              have p194 : 0 ≤ (x11_2 : Int) := of_decide_eq_true (by first | (with_reducible assumption) | assumption)
              have q194 : x11_2 < (l1.length : Int) := of_decide_eq_true (by first | (with_reducible assumption) | assumption)
              obtain ⟨ad194, e194, hx194_0⟩ := Kd.at_int HR1.out x11_2 p194 q194
              cases e194
              replace hx194_0 := (HB.out.cell (World.block_lt_of_cell? w _ hx194_0)).trans hx194_0
              replace p194 := eq_true p194
              replace q194 := eq_true q194
              have p195 : 0 ≤ (x11_2 : Int) := of_decide_eq_true (by first | (with_reducible assumption) | assumption)
              have q195 : x11_2 < (l1.length : Int) := of_decide_eq_true (by first | (with_reducible assumption) | assumption)
              obtain ⟨ad195, e195, hx195_0⟩ := Kd.at_int HR1.out x11_2 p195 q195
              obtain rfl : ad194 = ad195 := (by injection e195)
              replace hx195_0 := (HB.out.cell (World.block_lt_of_cell? w _ hx195_0)).trans hx195_0
              replace p195 := eq_true p195
              replace q195 := eq_true q195
              go_wp2
              go_roundg kj30
              case measure => have := HK1.out; have := HK2.out; have := HJ30.out; omega
              case rel => exact ⟨(wrap64 (x6_2 + (wrap64 (IntKind.u64.wrap (Int.tdiv (rd l1 x11_2) 4096))))), (x10_2), (wrap64 (x11_2 + 1)), (by first | rfl | (simp; done) | (simp [*]; done)), (by first | rfl | (simp; done) | (simp [*]; done)), (by first | rfl | (simp; done) | (simp [*]; done)), H', ⟨by have := HK1.out; have := HK2.out; have := HJ30.out; omega⟩, ⟨by (with_reducible repeat (first | refine blk_drewN ?_ _ | refine blk_drew ?_ | refine blk_alloc ?_ _)); exact BK181.out⟩, ⟨by (with_reducible repeat (first | refine blk_drewN ?_ _ | refine blk_drew ?_ | refine blk_alloc ?_ _)); exact BK186.out⟩, ⟨by repeat (first | (with_reducible first | exact HB.out | apply below_alloc | apply pw_below_drewN | apply below_drew1 | refine below_set ?_ GE181.out | refine below_set ?_ GE186.out) | exact HB.out)⟩⟩
             ·rw [if_neg c46] at H
              have c46b0 : decide (4096 ≤ (rd l1 x11_2)) = false := decide_eq_false c46
              clear c46
              have H' := Aside0.mk H
              clear H
              have p194 : 0 ≤ (x11_2 : Int) := of_decide_eq_true (by first | (with_reducible assumption) | assumption)
              have q194 : x11_2 < (l1.length : Int) := of_decide_eq_true (by first | (with_reducible assumption) | assumption)
              obtain ⟨ad194, e194, hx194_0⟩ := Kd.at_int HR1.out x11_2 p194 q194
              cases e194
              replace hx194_0 := (HB.out.cell (World.block_lt_of_cell? w _ hx194_0)).trans hx194_0
              replace p194 := eq_true p194
              replace q194 := eq_true q194
              go_wp2
              go_roundg kj30
              case measure => have := HK1.out; have := HK2.out; have := HJ30.out; omega
              case rel => exact ⟨(x6_2), (x10_2), (wrap64 (x11_2 + 1)), (by first | rfl | (simp; done) | (simp [*]; done)), (by first | rfl | (simp; done) | (simp [*]; done)), (by first | rfl | (simp; done) | (simp [*]; done)), H', ⟨by have := HK1.out; have := HK2.out; have := HJ30.out; omega⟩, ⟨by (with_reducible repeat (first | refine blk_drewN ?_ _ | refine blk_drew ?_ | refine blk_alloc ?_ _)); exact BK181.out⟩, ⟨by (with_reducible repeat (first | refine blk_drewN ?_ _ | refine blk_drew ?_ | refine blk_alloc ?_ _)); exact BK186.out⟩, ⟨by repeat (first | (with_reducible first | exact HB.out | apply below_alloc | apply pw_below_drewN | apply below_drew1 | refine below_set ?_ GE181.out | refine below_set ?_ GE186.out) | exact HB.out)⟩⟩
            ·rw [if_neg c45] at H
             exact absurd H (by simp)
           ·rw [if_neg c44] at H
            exact absurd H (by simp)
       ·rw [if_neg c30] at H
        have c30b0 : decide (x11_2 < (l1.length : Int)) = false := decide_eq_false c30
        clear c30
        replace H := Option.bind_eq_some_iff.mp H
        obtain ⟨⟨t196, t197⟩, A470, H⟩ := H
        replace H : (if x10_2 = true then (if 0 ≤ (IntKind.u64.wrap (a0_2)) then (if (t197 != (decide ((shr .i64 (wrap64 ((wrap64 (x6_2 + (shl .i64 1 (IntKind.u64.wrap (a0_2))))) - 1)) (IntKind.u64.wrap (a0_2))) ≤ a0_1))) = true then (some false) else (if t197 = true then (if t196 = (shr .i64 (wrap64 ((wrap64 (x6_2 + (shl .i64 1 (IntKind.u64.wrap (a0_2))))) - 1)) (IntKind.u64.wrap (a0_2))) then (croftlaw11_OraclePages.j4 k2 a0_0 a0_1 a0_2 a0_3 l0_4 a0_5 a0_6 t183 t184 t185) else (some false)) else (if t196 = 0 then (croftlaw11_OraclePages.j4 k2 a0_0 a0_1 a0_2 a0_3 l0_4 a0_5 a0_6 t183 t184 t185) else (some false)))) else (none)) else (if t197 = true then (some false) else (croftlaw11_OraclePages.j4 k2 a0_0 a0_1 a0_2 a0_3 l0_4 a0_5 a0_6 t183 t184 t185))) = some r := H
        have A47 := Aside0.mk A470
        clear A470
        have HC48 := Aside0.mk H
        clear H
        have hnb49 := NB186_181.out
        have hnc49 := NB181_186.out
        have hcz50_0 : wr.cell? ⟨gb186, 0, none⟩ = some (.int .u64 t183) := (blk_cell BK186.out 0).trans rfl
        have hcz50_1 : wr.cell? ⟨gb186, 1, none⟩ = some (.int .i64 t184) := (blk_cell BK186.out 1).trans rfl
        have hcz50_2 : wr.cell? ⟨gb186, 2, none⟩ = some (.int .i64 t185) := (blk_cell BK186.out 2).trans rfl
        have hfz50_0 := blk_frozen BK186.out 0
        have hfz50_1 := blk_frozen BK186.out 1
        have hfz50_2 := blk_frozen BK186.out 2
        go_upto_if 108 with (first | ((with_reducible refine gate_callee (f := 20) rfl ?_); refine goesL_ (some 105) rfl rfl Try.func20 (by kernel_rfl) rfl #[.agg #[.int .u64 t183, .int .i64 t184, .int .i64 t185], .slice none 0 0, .slice A1 l1.length c1] rfl (by (try simp only [List.map_toArray, List.map_cons, List.map_nil]); first | done | rfl | (simp only [List.length_drop, List.length_take]; rfl)) ?_; (refine (oracle_Least.calls t183 t184 t185 _ _ ([] : List (S55)) _ _ l1 t196 t197 _ ?side1 ?side2 ?side3 ?side4 A47.out).mono ?_); (case side1 => exact Kd.C_nil _ _); (case side2 => exact Nat.le_refl _); (case side3 => repeat (first | exact (Kd.C_below HR1.out HB.out) | (with_reducible refine Kd.C_alloc ?_ _) | (with_reducible refine Kd.C_drewN ?_ _) | (with_reducible refine Kd.C_drew ?_))); (case side4 => exact HC1.out); rintro e w51 ⟨rfl, hb⟩; refine ⟨_, rfl, ?_⟩; have n0_ := Aside0.mk (blk_below (g := gb181) (o := .cells #[.int .u64 a0_0, .int .i64 a0_1, .int .i64 a0_2, .int .i64 a0_3, .slice A0_4 l0_4.length c0_4, .int .u64 a0_5, .bool a0_6] 44 (0, 0)) (by (with_reducible repeat (first | refine blk_drewN ?_ _ | refine blk_drew ?_ | refine blk_alloc ?_ _)); exact BK181.out) hb); have n1_ := Aside0.mk (blk_below (g := gb186) (o := .cells #[.int .u64 t183, .int .i64 t184, .int .i64 t185] 29 (0, 0)) (by (with_reducible repeat (first | refine blk_drewN ?_ _ | refine blk_drew ?_ | refine blk_alloc ?_ _)); exact BK186.out) hb); have n2_ := Aside0.mk (below_step (by repeat (first | (with_reducible first | exact HB.out | apply below_alloc | apply pw_below_drewN | apply below_drew1 | refine below_set ?_ GE181.out | refine below_set ?_ GE186.out) | exact HB.out)) hb); clear BK181; clear BK186; clear HB; have BK181 := n0_; have BK186 := n1_; have HB := n2_; clear n0_ n1_ n2_; (try clear hb); (try clear hb2); (try clear hk); (try clear hi)))
        (try simp only [Act.put, Sa, Sb, Sc])
        go_cut [] (fun wc => ∃ (kq : Nat), Aside0 (croftlaw11_OraclePages.j4 kq a0_0 a0_1 a0_2 a0_3 l0_4 a0_5 a0_6 t183 t184 t185 = some r) ∧ Aside0 (kq ≤ k2) ∧ Aside0 (wc.heap[gb181]? = some (.cells #[.int .u64 a0_0, .int .i64 a0_1, .int .i64 a0_2, .int .i64 a0_3, (.slice A0_4 l0_4.length c0_4), .int .u64 a0_5, .bool a0_6] 44 (0, 0))) ∧ Aside0 (wc.heap[gb186]? = some (.cells #[.int .u64 t183, .int .i64 t184, .int .i64 t185] 29 (0, 0))) ∧ Aside0 (Below w.heap.size w wc))
        case first =>
         have H := HC48.out
         clear HC48
         by_cases c52 : x10_2 = true
         ·subst c52
          have H1 : (if 0 ≤ (IntKind.u64.wrap (a0_2)) then (if (t197 != (decide ((shr .i64 (wrap64 ((wrap64 (x6_2 + (shl .i64 1 (IntKind.u64.wrap (a0_2))))) - 1)) (IntKind.u64.wrap (a0_2))) ≤ a0_1))) = true then (some false) else (if t197 = true then (if t196 = (shr .i64 (wrap64 ((wrap64 (x6_2 + (shl .i64 1 (IntKind.u64.wrap (a0_2))))) - 1)) (IntKind.u64.wrap (a0_2))) then (croftlaw11_OraclePages.j4 k2 a0_0 a0_1 a0_2 a0_3 l0_4 a0_5 a0_6 t183 t184 t185) else (some false)) else (if t196 = 0 then (croftlaw11_OraclePages.j4 k2 a0_0 a0_1 a0_2 a0_3 l0_4 a0_5 a0_6 t183 t184 t185) else (some false)))) else (none)) = some r := by rw [if_pos rfl] at H; exact H
          clear H
          have H := H1
          clear H1
          obtain ⟨ji53, hji53⟩ : ∃ j_ : Int, (IntKind.u64.wrap (a0_2)) = j_ := ⟨_, rfl⟩
          replace H : (if 0 ≤ (ji53) then (if (t197 != (decide ((shr .i64 (wrap64 ((wrap64 (x6_2 + (shl .i64 1 (ji53)))) - 1)) (ji53)) ≤ a0_1))) = true then (some false) else (if t197 = true then (if t196 = (shr .i64 (wrap64 ((wrap64 (x6_2 + (shl .i64 1 (ji53)))) - 1)) (ji53)) then (croftlaw11_OraclePages.j4 k2 a0_0 a0_1 a0_2 a0_3 l0_4 a0_5 a0_6 t183 t184 t185) else (some false)) else (if t196 = 0 then (croftlaw11_OraclePages.j4 k2 a0_0 a0_1 a0_2 a0_3 l0_4 a0_5 a0_6 t183 t184 t185) else (some false)))) else (none)) = some r := by first | (rw [hji53] at H; exact H) | (simp only [hji53] at H ⊢; exact H)
          by_cases c54 : 0 ≤ (ji53)
          ·rw [if_pos c54] at H
           have c54b0 := eq_true c54
           have c54b1 : decide (0 ≤ (ji53)) = true := decide_eq_true c54
           clear c54
           obtain ⟨ji55, hji55⟩ : ∃ j_ : Int, (shl .i64 1 (ji53)) = j_ := ⟨_, rfl⟩
           replace H : (if (t197 != (decide ((shr .i64 (wrap64 ((wrap64 (x6_2 + (ji55))) - 1)) (ji53)) ≤ a0_1))) = true then (some false) else (if t197 = true then (if t196 = (shr .i64 (wrap64 ((wrap64 (x6_2 + (ji55))) - 1)) (ji53)) then (croftlaw11_OraclePages.j4 k2 a0_0 a0_1 a0_2 a0_3 l0_4 a0_5 a0_6 t183 t184 t185) else (some false)) else (if t196 = 0 then (croftlaw11_OraclePages.j4 k2 a0_0 a0_1 a0_2 a0_3 l0_4 a0_5 a0_6 t183 t184 t185) else (some false)))) = some r := by first | (rw [hji55] at H; exact H) | (simp only [hji55] at H ⊢; exact H)
           have hji55_ : (IntKind.i64.wrap (1 * 2 ^ min (ji53).toNat 64)) = ji55 := hji55
           have hji55z : (ji53) ≤ 64 → (IntKind.i64.wrap (1 * 2 ^ (ji53).toNat)) = ji55 := shl_small hji55
           have hji55u : (IntKind.i64.wrap (2 ^ min (ji53).toNat 64)) = ji55 := by have h_ := hji55_; rw [Int.one_mul] at h_; exact h_
           have hji55v : (ji53) ≤ 64 → (IntKind.i64.wrap (2 ^ (ji53).toNat)) = ji55 := fun hle_ => by have h_ := hji55z hle_; rw [Int.one_mul] at h_; exact h_
           have hji55y : (wrap64 (1 * 2 ^ min (ji53).toNat 64)) = ji55 := (i64_w _).symm.trans hji55_
           have hji55x : (ji53) ≤ 64 → (wrap64 (1 * 2 ^ (ji53).toNat)) = ji55 := fun h_ => (i64_w _).symm.trans (hji55z h_)
           have c56b0 := eq_true (of_decide_eq_true (by first | (with_reducible assumption) | assumption) : 0 ≤ (ji53))
           obtain ⟨ji57, hji57⟩ : ∃ j_ : Int, (shr .i64 (wrap64 ((wrap64 (x6_2 + (ji55))) - 1)) (ji53)) = j_ := ⟨_, rfl⟩
           replace H : (if (t197 != (decide ((ji57) ≤ a0_1))) = true then (some false) else (if t197 = true then (if t196 = (ji57) then (croftlaw11_OraclePages.j4 k2 a0_0 a0_1 a0_2 a0_3 l0_4 a0_5 a0_6 t183 t184 t185) else (some false)) else (if t196 = 0 then (croftlaw11_OraclePages.j4 k2 a0_0 a0_1 a0_2 a0_3 l0_4 a0_5 a0_6 t183 t184 t185) else (some false)))) = some r := by first | (rw [hji57] at H; exact H) | (simp only [hji57] at H ⊢; exact H)
           have hji57_ : ((wrap64 ((wrap64 (x6_2 + (ji55))) - 1)) / 2 ^ min (ji53).toNat 64) = ji57 := hji57
           have hji57z : (ji53) ≤ 64 → ((wrap64 ((wrap64 (x6_2 + (ji55))) - 1)) / 2 ^ (ji53).toNat) = ji57 := shr_small hji57
           by_cases c58 : (t197 != (decide ((ji57) ≤ a0_1))) = true
           ·rw [if_pos c58] at H
            have c58b0 : (t197 != (decide ((ji57) ≤ a0_1))) = true := c58
            (try (have c58b1 : decide (t197 = (decide ((ji57) ≤ a0_1))) = false := by simpa using c58))
            (try (have c58b2 : (t197 == (decide ((ji57) ≤ a0_1))) = false := by simpa using c58))
            (try (have c58b3 : ¬ (t197 = (decide ((ji57) ≤ a0_1))) := by simpa using c58))
            clear c58
            (first | rw [c58b0] | (simp only [i64_w, i32_w]; rw [c58b0]) | skip)
            obtain rfl := Option.some.inj H
            have hnb59 := NB181_186.out
            have hnc59 := NB186_181.out
            have hcz60_0 : w51.cell? ⟨gb181, 0, none⟩ = some (.int .u64 a0_0) := (blk_cell BK181.out 0).trans rfl
            have hcz60_1 : w51.cell? ⟨gb181, 1, none⟩ = some (.int .i64 a0_1) := (blk_cell BK181.out 1).trans rfl
            have hcz60_2 : w51.cell? ⟨gb181, 2, none⟩ = some (.int .i64 a0_2) := (blk_cell BK181.out 2).trans rfl
            have hcz60_3 : w51.cell? ⟨gb181, 3, none⟩ = some (.int .i64 a0_3) := (blk_cell BK181.out 3).trans rfl
            have hcz60_4 : w51.cell? ⟨gb181, 4, none⟩ = some (.slice A0_4 l0_4.length c0_4) := (blk_cell BK181.out 4).trans rfl
            have hcz60_5 : w51.cell? ⟨gb181, 5, none⟩ = some (.int .u64 a0_5) := (blk_cell BK181.out 5).trans rfl
            have hcz60_6 : w51.cell? ⟨gb181, 6, none⟩ = some (.bool a0_6) := (blk_cell BK181.out 6).trans rfl
            have hfz60_0 := blk_frozen BK181.out 0
            have hfz60_1 := blk_frozen BK181.out 1
            have hfz60_2 := blk_frozen BK181.out 2
            have hfz60_3 := blk_frozen BK181.out 3
            have hfz60_4 := blk_frozen BK181.out 4
            have hfz60_5 := blk_frozen BK181.out 5
            have hfz60_6 := blk_frozen BK181.out 6
            go_wp2
            go_ret
            exact ⟨by first | rfl | (simp [errW_none, errW_some] <;> rfl) | (simp only [← hji53, ← hji55, ← hji57]; first | rfl | (simp [errW_none, errW_some] <;> rfl)) | (simp [*, errW_none, errW_some] <;> rfl), by repeat (first | (with_reducible first | exact HB.out | apply below_alloc | apply pw_below_drewN | apply below_drew1 | refine below_set ?_ GE181.out | refine below_set ?_ GE186.out) | exact HB.out)⟩
           ·rw [if_neg c58] at H
            have c58b0 : (t197 != (decide ((ji57) ≤ a0_1))) = false := by simpa using c58
            (try (have c58b1 : decide (t197 = (decide ((ji57) ≤ a0_1))) = true := by simpa using c58))
            (try (have c58b2 : (t197 == (decide ((ji57) ≤ a0_1))) = true := by simpa using c58))
            clear c58
            (first | rw [c58b0] | (simp only [i64_w, i32_w]; rw [c58b0]) | skip)
            by_cases c61 : t197 = true
            ·subst c61
             have H1 : (if t196 = (ji57) then (croftlaw11_OraclePages.j4 k2 a0_0 a0_1 a0_2 a0_3 l0_4 a0_5 a0_6 t183 t184 t185) else (some false)) = some r := by rw [if_pos rfl] at H; exact H
             clear H
             have H := H1
             clear H1
             by_cases c62 : t196 = (ji57)
             ·rw [if_pos c62] at H
              have c62b0 : (t196 == (ji57)) = true := beq_iff_eq.mpr c62
              have c62b1 : (t196 != (ji57)) = false := bne_eq_false_iff_eq.mpr c62
              clear c62
              have H' := Aside0.mk H
              clear H
              have hnb63 := NB181_186.out
              have hnc63 := NB186_181.out
              have hcz64_0 : w51.cell? ⟨gb181, 0, none⟩ = some (.int .u64 a0_0) := (blk_cell BK181.out 0).trans rfl
              have hcz64_1 : w51.cell? ⟨gb181, 1, none⟩ = some (.int .i64 a0_1) := (blk_cell BK181.out 1).trans rfl
              have hcz64_2 : w51.cell? ⟨gb181, 2, none⟩ = some (.int .i64 a0_2) := (blk_cell BK181.out 2).trans rfl
              have hcz64_3 : w51.cell? ⟨gb181, 3, none⟩ = some (.int .i64 a0_3) := (blk_cell BK181.out 3).trans rfl
              have hcz64_4 : w51.cell? ⟨gb181, 4, none⟩ = some (.slice A0_4 l0_4.length c0_4) := (blk_cell BK181.out 4).trans rfl
              have hcz64_5 : w51.cell? ⟨gb181, 5, none⟩ = some (.int .u64 a0_5) := (blk_cell BK181.out 5).trans rfl
              have hcz64_6 : w51.cell? ⟨gb181, 6, none⟩ = some (.bool a0_6) := (blk_cell BK181.out 6).trans rfl
              have hfz64_0 := blk_frozen BK181.out 0
              have hfz64_1 := blk_frozen BK181.out 1
              have hfz64_2 := blk_frozen BK181.out 2
              have hfz64_3 := blk_frozen BK181.out 3
              have hfz64_4 := blk_frozen BK181.out 4
              have hfz64_5 := blk_frozen BK181.out 5
              have hfz64_6 := blk_frozen BK181.out 6
              go_wp2
              go_meet
              case rel => exact ⟨_, H', ⟨by have := HK1.out; have := HK2.out; first | omega | exact Nat.le_refl _⟩, ⟨by (with_reducible repeat (first | refine blk_drewN ?_ _ | refine blk_drew ?_ | refine blk_alloc ?_ _)); exact BK181.out⟩, ⟨by (with_reducible repeat (first | refine blk_drewN ?_ _ | refine blk_drew ?_ | refine blk_alloc ?_ _)); exact BK186.out⟩, ⟨by repeat (first | (with_reducible first | exact HB.out | apply below_alloc | apply pw_below_drewN | apply below_drew1 | refine below_set ?_ GE181.out | refine below_set ?_ GE186.out) | exact HB.out)⟩⟩
             ·rw [if_neg c62] at H
              have c62b0 : (t196 == (ji57)) = false := beq_eq_false_iff_ne.mpr c62
              have c62b1 : (t196 != (ji57)) = true := bne_iff_ne.mpr c62
              obtain rfl := Option.some.inj H
              have hnb65 := NB181_186.out
              have hnc65 := NB186_181.out
              have hcz66_0 : w51.cell? ⟨gb181, 0, none⟩ = some (.int .u64 a0_0) := (blk_cell BK181.out 0).trans rfl
              have hcz66_1 : w51.cell? ⟨gb181, 1, none⟩ = some (.int .i64 a0_1) := (blk_cell BK181.out 1).trans rfl
              have hcz66_2 : w51.cell? ⟨gb181, 2, none⟩ = some (.int .i64 a0_2) := (blk_cell BK181.out 2).trans rfl
              have hcz66_3 : w51.cell? ⟨gb181, 3, none⟩ = some (.int .i64 a0_3) := (blk_cell BK181.out 3).trans rfl
              have hcz66_4 : w51.cell? ⟨gb181, 4, none⟩ = some (.slice A0_4 l0_4.length c0_4) := (blk_cell BK181.out 4).trans rfl
              have hcz66_5 : w51.cell? ⟨gb181, 5, none⟩ = some (.int .u64 a0_5) := (blk_cell BK181.out 5).trans rfl
              have hcz66_6 : w51.cell? ⟨gb181, 6, none⟩ = some (.bool a0_6) := (blk_cell BK181.out 6).trans rfl
              have hfz66_0 := blk_frozen BK181.out 0
              have hfz66_1 := blk_frozen BK181.out 1
              have hfz66_2 := blk_frozen BK181.out 2
              have hfz66_3 := blk_frozen BK181.out 3
              have hfz66_4 := blk_frozen BK181.out 4
              have hfz66_5 := blk_frozen BK181.out 5
              have hfz66_6 := blk_frozen BK181.out 6
              go_wp2
              go_ret
              exact ⟨by first | rfl | (simp [errW_none, errW_some] <;> rfl) | (simp only [← hji53, ← hji55, ← hji57]; first | rfl | (simp [errW_none, errW_some] <;> rfl)) | (simp [*, errW_none, errW_some] <;> rfl), by repeat (first | (with_reducible first | exact HB.out | apply below_alloc | apply pw_below_drewN | apply below_drew1 | refine below_set ?_ GE181.out | refine below_set ?_ GE186.out) | exact HB.out)⟩
            ·replace c61 := Bool.eq_false_iff.mpr c61
             subst c61
             have H1 : (if t196 = 0 then (croftlaw11_OraclePages.j4 k2 a0_0 a0_1 a0_2 a0_3 l0_4 a0_5 a0_6 t183 t184 t185) else (some false)) = some r := by rw [if_neg (show ¬ (false = true) by decide)] at H; exact H
             clear H
             have H := H1
             clear H1
             by_cases c67 : t196 = 0
             ·rw [if_pos c67] at H
              have c67b0 : (t196 == 0) = true := beq_iff_eq.mpr c67
              have c67b1 : (t196 != 0) = false := bne_eq_false_iff_eq.mpr c67
              clear c67
              have H' := Aside0.mk H
              clear H
              have hnb68 := NB181_186.out
              have hnc68 := NB186_181.out
              have hcz69_0 : w51.cell? ⟨gb181, 0, none⟩ = some (.int .u64 a0_0) := (blk_cell BK181.out 0).trans rfl
              have hcz69_1 : w51.cell? ⟨gb181, 1, none⟩ = some (.int .i64 a0_1) := (blk_cell BK181.out 1).trans rfl
              have hcz69_2 : w51.cell? ⟨gb181, 2, none⟩ = some (.int .i64 a0_2) := (blk_cell BK181.out 2).trans rfl
              have hcz69_3 : w51.cell? ⟨gb181, 3, none⟩ = some (.int .i64 a0_3) := (blk_cell BK181.out 3).trans rfl
              have hcz69_4 : w51.cell? ⟨gb181, 4, none⟩ = some (.slice A0_4 l0_4.length c0_4) := (blk_cell BK181.out 4).trans rfl
              have hcz69_5 : w51.cell? ⟨gb181, 5, none⟩ = some (.int .u64 a0_5) := (blk_cell BK181.out 5).trans rfl
              have hcz69_6 : w51.cell? ⟨gb181, 6, none⟩ = some (.bool a0_6) := (blk_cell BK181.out 6).trans rfl
              have hfz69_0 := blk_frozen BK181.out 0
              have hfz69_1 := blk_frozen BK181.out 1
              have hfz69_2 := blk_frozen BK181.out 2
              have hfz69_3 := blk_frozen BK181.out 3
              have hfz69_4 := blk_frozen BK181.out 4
              have hfz69_5 := blk_frozen BK181.out 5
              have hfz69_6 := blk_frozen BK181.out 6
              go_wp2
              go_meet
              case rel => exact ⟨_, H', ⟨by have := HK1.out; have := HK2.out; first | omega | exact Nat.le_refl _⟩, ⟨by (with_reducible repeat (first | refine blk_drewN ?_ _ | refine blk_drew ?_ | refine blk_alloc ?_ _)); exact BK181.out⟩, ⟨by (with_reducible repeat (first | refine blk_drewN ?_ _ | refine blk_drew ?_ | refine blk_alloc ?_ _)); exact BK186.out⟩, ⟨by repeat (first | (with_reducible first | exact HB.out | apply below_alloc | apply pw_below_drewN | apply below_drew1 | refine below_set ?_ GE181.out | refine below_set ?_ GE186.out) | exact HB.out)⟩⟩
             ·rw [if_neg c67] at H
              have c67b0 : (t196 == 0) = false := beq_eq_false_iff_ne.mpr c67
              have c67b1 : (t196 != 0) = true := bne_iff_ne.mpr c67
              obtain rfl := Option.some.inj H
              have hnb70 := NB181_186.out
              have hnc70 := NB186_181.out
              have hcz71_0 : w51.cell? ⟨gb181, 0, none⟩ = some (.int .u64 a0_0) := (blk_cell BK181.out 0).trans rfl
              have hcz71_1 : w51.cell? ⟨gb181, 1, none⟩ = some (.int .i64 a0_1) := (blk_cell BK181.out 1).trans rfl
              have hcz71_2 : w51.cell? ⟨gb181, 2, none⟩ = some (.int .i64 a0_2) := (blk_cell BK181.out 2).trans rfl
              have hcz71_3 : w51.cell? ⟨gb181, 3, none⟩ = some (.int .i64 a0_3) := (blk_cell BK181.out 3).trans rfl
              have hcz71_4 : w51.cell? ⟨gb181, 4, none⟩ = some (.slice A0_4 l0_4.length c0_4) := (blk_cell BK181.out 4).trans rfl
              have hcz71_5 : w51.cell? ⟨gb181, 5, none⟩ = some (.int .u64 a0_5) := (blk_cell BK181.out 5).trans rfl
              have hcz71_6 : w51.cell? ⟨gb181, 6, none⟩ = some (.bool a0_6) := (blk_cell BK181.out 6).trans rfl
              have hfz71_0 := blk_frozen BK181.out 0
              have hfz71_1 := blk_frozen BK181.out 1
              have hfz71_2 := blk_frozen BK181.out 2
              have hfz71_3 := blk_frozen BK181.out 3
              have hfz71_4 := blk_frozen BK181.out 4
              have hfz71_5 := blk_frozen BK181.out 5
              have hfz71_6 := blk_frozen BK181.out 6
              go_wp2
              go_ret
              exact ⟨by first | rfl | (simp [errW_none, errW_some] <;> rfl) | (simp only [← hji53, ← hji55, ← hji57]; first | rfl | (simp [errW_none, errW_some] <;> rfl)) | (simp [*, errW_none, errW_some] <;> rfl), by repeat (first | (with_reducible first | exact HB.out | apply below_alloc | apply pw_below_drewN | apply below_drew1 | refine below_set ?_ GE181.out | refine below_set ?_ GE186.out) | exact HB.out)⟩
          ·rw [if_neg c54] at H
           exact absurd H (by simp)
         ·replace c52 := Bool.eq_false_iff.mpr c52
          subst c52
          have H1 : (if t197 = true then (some false) else (croftlaw11_OraclePages.j4 k2 a0_0 a0_1 a0_2 a0_3 l0_4 a0_5 a0_6 t183 t184 t185)) = some r := by rw [if_neg (show ¬ (false = true) by decide)] at H; exact H
          clear H
          have H := H1
          clear H1
          by_cases c72 : t197 = true
          ·subst c72
           have H1 : (some false) = some r := by rw [if_pos rfl] at H; exact H
           clear H
           have H := H1
           clear H1
           obtain rfl := Option.some.inj H
           go_wp2
           go_ret
           exact ⟨by first | rfl | (simp [errW_none, errW_some] <;> rfl) | (simp [*, errW_none, errW_some] <;> rfl), by repeat (first | (with_reducible first | exact HB.out | apply below_alloc | apply pw_below_drewN | apply below_drew1 | refine below_set ?_ GE181.out | refine below_set ?_ GE186.out) | exact HB.out)⟩
          ·replace c72 := Bool.eq_false_iff.mpr c72
           subst c72
           have H1 : (croftlaw11_OraclePages.j4 k2 a0_0 a0_1 a0_2 a0_3 l0_4 a0_5 a0_6 t183 t184 t185) = some r := by rw [if_neg (show ¬ (false = true) by decide)] at H; exact H
           clear H
           have H := H1
           clear H1
           have H' := Aside0.mk H
           clear H
           go_wp2
           go_meet
           case rel => exact ⟨_, H', ⟨by have := HK1.out; have := HK2.out; first | omega | exact Nat.le_refl _⟩, ⟨by (with_reducible repeat (first | refine blk_drewN ?_ _ | refine blk_drew ?_ | refine blk_alloc ?_ _)); exact BK181.out⟩, ⟨by (with_reducible repeat (first | refine blk_drewN ?_ _ | refine blk_drew ?_ | refine blk_alloc ?_ _)); exact BK186.out⟩, ⟨by repeat (first | (with_reducible first | exact HB.out | apply below_alloc | apply pw_below_drewN | apply below_drew1 | refine below_set ?_ GE181.out | refine below_set ?_ GE186.out) | exact HB.out)⟩⟩
        case rest =>
         clear HC48
         try clear c1; try clear p1; try clear q1; try clear hx1; try clear c2; try clear p2; try clear c3; try clear c4; try clear c5; try clear c6; try clear p6; try clear c7; try clear p18; try clear q18; try clear hx18; try clear p19; try clear q19; try clear hx19; try clear c20; try clear c24; try clear c26; try clear c30; try clear c30b0; try clear c32; try clear c34; try clear c37; try clear c43; try clear c44; try clear c44b0; try clear c45; try clear c45b0; try clear c46; try clear c46b0; try clear c49; try clear c52; try clear c54; try clear c54b0; try clear c54b1; try clear c56; try clear c56b0; try clear c58; try clear c58b0; try clear c58b1; try clear c58b2; try clear c59; try clear c61; try clear c62; try clear c62b0; try clear c62b1; try clear c63; try clear p64; try clear c65; try clear c67; try clear c67b0; try clear c67b1; try clear c68; try clear c70; try clear c72; try clear hcz50_0; try clear hcz50_1; try clear hcz50_2; try clear hcz60_0; try clear hcz60_1; try clear hcz60_2; try clear hcz60_3; try clear hcz60_4; try clear hcz60_5; try clear hcz60_6; try clear hcz64_0; try clear hcz64_1; try clear hcz64_2; try clear hcz64_3; try clear hcz64_4; try clear hcz64_5; try clear hcz64_6; try clear hcz66_0; try clear hcz66_1; try clear hcz66_2; try clear hcz66_3; try clear hcz66_4; try clear hcz66_5; try clear hcz66_6; try clear hcz69_0; try clear hcz69_1; try clear hcz69_2; try clear hcz69_3; try clear hcz69_4; try clear hcz69_5; try clear hcz69_6; try clear hcz71_0; try clear hcz71_1; try clear hcz71_2; try clear hcz71_3; try clear hcz71_4; try clear hcz71_5; try clear hcz71_6; try clear hfz50_0; try clear hfz50_1; try clear hfz50_2; try clear hfz60_0; try clear hfz60_1; try clear hfz60_2; try clear hfz60_3; try clear hfz60_4; try clear hfz60_5; try clear hfz60_6; try clear hfz64_0; try clear hfz64_1; try clear hfz64_2; try clear hfz64_3; try clear hfz64_4; try clear hfz64_5; try clear hfz64_6; try clear hfz66_0; try clear hfz66_1; try clear hfz66_2; try clear hfz66_3; try clear hfz66_4; try clear hfz66_5; try clear hfz66_6; try clear hfz69_0; try clear hfz69_1; try clear hfz69_2; try clear hfz69_3; try clear hfz69_4; try clear hfz69_5; try clear hfz69_6; try clear hfz71_0; try clear hfz71_1; try clear hfz71_2; try clear hfz71_3; try clear hfz71_4; try clear hfz71_5; try clear hfz71_6; try clear hx189_0; try clear hx191_0; try clear hx194_0; try clear hx195_0; try clear p1; try clear p18; try clear p189; try clear p19; try clear p191; try clear p194; try clear p195; try clear p2; try clear q1; try clear q18; try clear q189; try clear q19; try clear q191; try clear q194; try clear q195
         obtain ⟨kq, HA, HJ47, BK181, BK186, HB⟩ := hcut
         cases kq with
         | zero => exact absurd HA.out (by simp [croftlaw11_OraclePages.j4])
         | succ kj47 =>
          have H := HA.out
          clear HA
          simp only [croftlaw11_OraclePages.j4] at H
          replace H := Option.bind_eq_some_iff.mp H
          obtain ⟨t198, A730, H⟩ := H
          replace H : (if t198 = (-1) then (croftlaw11_OraclePages.l3 kj47 ([] : List Int) 0 a0_0 a0_1 a0_2 a0_3 l0_4 a0_5 a0_6 t183 t184 t185) else (some true)) = some r := H
          have A73 := Aside0.mk A730
          clear A730
          by_cases c74 : t198 = (-1)
          ·rw [if_pos c74] at H
           have c74b0 : (t198 == (-1)) = true := beq_iff_eq.mpr c74
           have c74b1 : (t198 != (-1)) = false := bne_eq_false_iff_eq.mpr c74
           clear c74
           have H' := Aside0.mk H
           clear H
           have hnb75 := NB181_186.out
           have hnc75 := NB186_181.out
           have hcz76_0 : wc.cell? ⟨gb181, 0, none⟩ = some (.int .u64 a0_0) := (blk_cell BK181.out 0).trans rfl
           have hcz76_1 : wc.cell? ⟨gb181, 1, none⟩ = some (.int .i64 a0_1) := (blk_cell BK181.out 1).trans rfl
           have hcz76_2 : wc.cell? ⟨gb181, 2, none⟩ = some (.int .i64 a0_2) := (blk_cell BK181.out 2).trans rfl
           have hcz76_3 : wc.cell? ⟨gb181, 3, none⟩ = some (.int .i64 a0_3) := (blk_cell BK181.out 3).trans rfl
           have hcz76_4 : wc.cell? ⟨gb181, 4, none⟩ = some (.slice A0_4 l0_4.length c0_4) := (blk_cell BK181.out 4).trans rfl
           have hcz76_5 : wc.cell? ⟨gb181, 5, none⟩ = some (.int .u64 a0_5) := (blk_cell BK181.out 5).trans rfl
           have hcz76_6 : wc.cell? ⟨gb181, 6, none⟩ = some (.bool a0_6) := (blk_cell BK181.out 6).trans rfl
           have hfz76_0 := blk_frozen BK181.out 0
           have hfz76_1 := blk_frozen BK181.out 1
           have hfz76_2 := blk_frozen BK181.out 2
           have hfz76_3 := blk_frozen BK181.out 3
           have hfz76_4 := blk_frozen BK181.out 4
           have hfz76_5 := blk_frozen BK181.out 5
           have hfz76_6 := blk_frozen BK181.out 6
           go_wp2_with (first | ((with_reducible refine gate_callee (f := 16) rfl ?_); refine goesL_ (some 152) rfl rfl Try.func16 (by kernel_rfl) rfl #[.agg #[.int .u64 a0_0, .int .i64 a0_1, .int .i64 a0_2], .int .i64 a0_3, .slice A0_4 l0_4.length c0_4] rfl (by (try simp only [List.map_toArray, List.map_cons, List.map_nil]); first | done | rfl | (simp only [List.length_drop, List.length_take]; rfl)) ?_; (with_reducible refine (croftref11_Sound.calls kj47 a0_0 a0_1 a0_2 a0_3 _ _ l0_4 t198 _ ?side1 ?side2 A73.out).mono ?_); (case side1 => repeat (first | exact (Kd.C_below HR0_4.out HB.out) | (with_reducible refine Kd.C_alloc ?_ _) | (with_reducible refine Kd.C_drewN ?_ _) | (with_reducible refine Kd.C_drew ?_))); (case side2 => exact HC0_4.out); rintro e w77 ⟨rfl, hb⟩; refine ⟨_, rfl, ?_⟩; have n0_ := Aside0.mk (blk_below (g := gb181) (o := .cells #[.int .u64 a0_0, .int .i64 a0_1, .int .i64 a0_2, .int .i64 a0_3, .slice A0_4 l0_4.length c0_4, .int .u64 a0_5, .bool a0_6] 44 (0, 0)) (by (with_reducible repeat (first | refine blk_drewN ?_ _ | refine blk_drew ?_ | refine blk_alloc ?_ _)); exact BK181.out) hb); have n1_ := Aside0.mk (blk_below (g := gb186) (o := .cells #[.int .u64 t183, .int .i64 t184, .int .i64 t185] 29 (0, 0)) (by (with_reducible repeat (first | refine blk_drewN ?_ _ | refine blk_drew ?_ | refine blk_alloc ?_ _)); exact BK186.out) hb); have n2_ := Aside0.mk (below_step (by repeat (first | (with_reducible first | exact HB.out | apply below_alloc | apply pw_below_drewN | apply below_drew1 | refine below_set ?_ GE181.out | refine below_set ?_ GE186.out) | exact HB.out)) hb); clear BK181; clear BK186; clear HB; have BK181 := n0_; have BK186 := n1_; have HB := n2_; clear n0_ n1_ n2_; (try clear hb); (try clear hb2); (try clear hk); (try clear hi)))
           go_loopg [15, 16] kj47 (fun kq v15 v16 w' => ∃ (x15_4 : List Int) (x16_4 : Int), v16 = .int .i64 x16_4 ∧ Aside0 (croftlaw11_OraclePages.l3 kq x15_4 x16_4 a0_0 a0_1 a0_2 a0_3 l0_4 a0_5 a0_6 t183 t184 t185 = some r) ∧ Aside0 (kq ≤ kj47) ∧ Aside0 (Kd.R (Kd.int .u64) 22 w' w.heap.size (fun _ => True) v15 x15_4) ∧ Aside0 (w'.heap[gb181]? = some (.cells #[.int .u64 a0_0, .int .i64 a0_1, .int .i64 a0_2, .int .i64 a0_3, (.slice A0_4 l0_4.length c0_4), .int .u64 a0_5, .bool a0_6] 44 (0, 0))) ∧ Aside0 (w'.heap[gb186]? = some (.cells #[.int .u64 t183, .int .i64 t184, .int .i64 t185] 29 (0, 0))) ∧ Aside0 (Below w.heap.size w w'))
           case atStart => exact ⟨(([] : List Int)), (0), (by first | rfl | (simp; done) | (simp [*]; done)), H', ⟨Nat.le_refl _⟩, ⟨by first | exact Kd.R_nil _ _ _ _ _ | exact Kd.N_nil _ _ _ _ _ | exact Kd.V_nil _ _ _ _ _ | exact Kd.Q_nil _ _ _ _ _ | exact Kd.S_nil _ _ _ _ _⟩, ⟨by (with_reducible repeat (first | refine blk_drewN ?_ _ | refine blk_drew ?_ | refine blk_alloc ?_ _)); exact BK181.out⟩, ⟨by (with_reducible repeat (first | refine blk_drewN ?_ _ | refine blk_drew ?_ | refine blk_alloc ?_ _)); exact BK186.out⟩, ⟨by repeat (first | (with_reducible first | exact HB.out | apply below_alloc | apply pw_below_drewN | apply below_drew1 | refine below_set ?_ GE181.out | refine below_set ?_ GE186.out) | exact HB.out)⟩⟩
           case round =>
            clear H'
            try clear c1; try clear p1; try clear q1; try clear hx1; try clear c2; try clear p2; try clear c3; try clear c4; try clear c5; try clear c6; try clear p6; try clear c7; try clear c16; try clear p18; try clear q18; try clear hx18; try clear p19; try clear q19; try clear hx19; try clear c20; try clear c24; try clear c26; try clear c30; try clear c30b0; try clear c32; try clear c34; try clear c37; try clear c43; try clear c44; try clear c44b0; try clear c45; try clear c45b0; try clear c46; try clear c46b0; try clear c49; try clear c52; try clear c54; try clear c54b0; try clear c54b1; try clear c56; try clear c56b0; try clear c58; try clear c58b0; try clear c58b1; try clear c58b2; try clear c59; try clear c61; try clear c62; try clear c62b0; try clear c62b1; try clear c63; try clear p64; try clear c65; try clear c67; try clear c67b0; try clear c67b1; try clear c68; try clear c70; try clear c72; try clear c74; try clear c74b0; try clear c74b1; try clear c75; try clear hcz50_0; try clear hcz50_1; try clear hcz50_2; try clear hcz60_0; try clear hcz60_1; try clear hcz60_2; try clear hcz60_3; try clear hcz60_4; try clear hcz60_5; try clear hcz60_6; try clear hcz64_0; try clear hcz64_1; try clear hcz64_2; try clear hcz64_3; try clear hcz64_4; try clear hcz64_5; try clear hcz64_6; try clear hcz66_0; try clear hcz66_1; try clear hcz66_2; try clear hcz66_3; try clear hcz66_4; try clear hcz66_5; try clear hcz66_6; try clear hcz69_0; try clear hcz69_1; try clear hcz69_2; try clear hcz69_3; try clear hcz69_4; try clear hcz69_5; try clear hcz69_6; try clear hcz71_0; try clear hcz71_1; try clear hcz71_2; try clear hcz71_3; try clear hcz71_4; try clear hcz71_5; try clear hcz71_6; try clear hcz76_0; try clear hcz76_1; try clear hcz76_2; try clear hcz76_3; try clear hcz76_4; try clear hcz76_5; try clear hcz76_6; try clear hfz50_0; try clear hfz50_1; try clear hfz50_2; try clear hfz60_0; try clear hfz60_1; try clear hfz60_2; try clear hfz60_3; try clear hfz60_4; try clear hfz60_5; try clear hfz60_6; try clear hfz64_0; try clear hfz64_1; try clear hfz64_2; try clear hfz64_3; try clear hfz64_4; try clear hfz64_5; try clear hfz64_6; try clear hfz66_0; try clear hfz66_1; try clear hfz66_2; try clear hfz66_3; try clear hfz66_4; try clear hfz66_5; try clear hfz66_6; try clear hfz69_0; try clear hfz69_1; try clear hfz69_2; try clear hfz69_3; try clear hfz69_4; try clear hfz69_5; try clear hfz69_6; try clear hfz71_0; try clear hfz71_1; try clear hfz71_2; try clear hfz71_3; try clear hfz71_4; try clear hfz71_5; try clear hfz71_6; try clear hfz76_0; try clear hfz76_1; try clear hfz76_2; try clear hfz76_3; try clear hfz76_4; try clear hfz76_5; try clear hfz76_6; try clear hx189_0; try clear hx191_0; try clear hx194_0; try clear hx195_0; try clear p1; try clear p18; try clear p189; try clear p19; try clear p191; try clear p194; try clear p195; try clear p2; try clear p6; try clear p64; try clear q1; try clear q18; try clear q189; try clear q19; try clear q191; try clear q194; try clear q195
            obtain ⟨x15_4, x16_4, rfl, HA, HK4, HO_15, BK181, BK186, HB⟩ := hrel
            cases gk with
            | zero => exact absurd HA.out (by simp [croftlaw11_OraclePages.l3])
            | succ k4 =>
             have H := HA.out
             clear HA
             simp only [croftlaw11_OraclePages.l3] at H
             by_cases c78 : x16_4 < (l0_4.length : Int)
             ·rw [if_pos c78] at H
              have c78b0 : decide (x16_4 < (l0_4.length : Int)) = true := decide_eq_true c78
              clear c78
              by_cases c79 : 0 ≤ x16_4
              ·rw [if_pos c79] at H
               have c79b0 : decide (0 ≤ x16_4) = true := decide_eq_true c79
               clear c79
               by_cases c80 : x15_4.length < 17592186044416
               ·rw [if_pos c80] at H
                have LMc80 := Aside0.mk c80
                clear c80
                obtain ⟨y200, hy200⟩ : ∃ y_ : List Int, y_ = (x15_4 ++ [(rd_T49 l0_4 x16_4).f1]) := ⟨_, rfl⟩
                replace H : (croftlaw11_OraclePages.l3 k4 y200 (wrap64 (x16_4 + 1)) a0_0 a0_1 a0_2 a0_3 l0_4 a0_5 a0_6 t183 t184 t185) = some r := by first | (rw [hy200]; with_reducible exact H) | (have H2_ := (Option.bind_some _ _).symm.trans H; rw [hy200]; with_reducible exact H2_) | (have H2_ := (Option.bind_some _ _).symm.trans H; with_reducible exact H2_) | with_reducible exact H | (rw [hy200]; exact H) | exact H
                have Ny200 := Aside0.mk hy200
                clear hy200
                have H' := Aside0.mk H
                clear H
                have hnb81 := NB181_186.out
                have hnc81 := NB186_181.out
                have hcz82_0 : wr.cell? ⟨gb181, 0, none⟩ = some (.int .u64 a0_0) := (blk_cell BK181.out 0).trans rfl
                have hcz82_1 : wr.cell? ⟨gb181, 1, none⟩ = some (.int .i64 a0_1) := (blk_cell BK181.out 1).trans rfl
                have hcz82_2 : wr.cell? ⟨gb181, 2, none⟩ = some (.int .i64 a0_2) := (blk_cell BK181.out 2).trans rfl
                have hcz82_3 : wr.cell? ⟨gb181, 3, none⟩ = some (.int .i64 a0_3) := (blk_cell BK181.out 3).trans rfl
                have hcz82_4 : wr.cell? ⟨gb181, 4, none⟩ = some (.slice A0_4 l0_4.length c0_4) := (blk_cell BK181.out 4).trans rfl
                have hcz82_5 : wr.cell? ⟨gb181, 5, none⟩ = some (.int .u64 a0_5) := (blk_cell BK181.out 5).trans rfl
                have hcz82_6 : wr.cell? ⟨gb181, 6, none⟩ = some (.bool a0_6) := (blk_cell BK181.out 6).trans rfl
                have hfz82_0 := blk_frozen BK181.out 0
                have hfz82_1 := blk_frozen BK181.out 1
                have hfz82_2 := blk_frozen BK181.out 2
                have hfz82_3 := blk_frozen BK181.out 3
                have hfz82_4 := blk_frozen BK181.out 4
                have hfz82_5 := blk_frozen BK181.out 5
                have hfz82_6 := blk_frozen BK181.out 6
                have p199 : 0 ≤ (x16_4 : Int) := of_decide_eq_true (by first | (with_reducible assumption) | assumption)
                have q199 : x16_4 < (l0_4.length : Int) := of_decide_eq_true (by first | (with_reducible assumption) | assumption)
                obtain ⟨ad199, e199, hx199_0, hx199_1⟩ := at_T49 HR0_4.out x16_4 p199 q199
                cases e199
                replace hx199_0 := (HB.out.cell (World.block_lt_of_cell? w _ hx199_0)).trans hx199_0
                replace hx199_1 := (HB.out.cell (World.block_lt_of_cell? w _ hx199_1)).trans hx199_1
                replace p199 := eq_true p199
                replace q199 := eq_true q199
                go_wp2_with (first | ((with_reducible refine gate_builtin (b := .append) (xs := #[.tmp 161, .tmp 168]) rfl ?_); at_builtin; refine Kd.R_append (Kd.int .u64) (w0 := w) w.heap.size rfl (.tmp 161) (.tmp 168) 35 22 (.int .u64 0) 8 rfl Try.underlying35 info22 rfl (by decide) (by omega) u15 x15_4 ((rd_T49 l0_4 x16_4).f1) [.int .u64 ((rd_T49 l0_4 x16_4).f1)] (fun _ => True) (fun _ => False) rfl rfl ?aP (fun _ hk => hk.elim) ?aF ?aO ?aB ?aS ?aL ?_; (case aP => exact rfl); (case aB => exact (by repeat (first | (with_reducible first | exact HB.out | apply below_alloc | apply pw_below_drewN | apply below_drew1 | refine below_set ?_ GE181.out | refine below_set ?_ GE186.out) | exact HB.out))); (case aF => exact (fun _ _ => trivial)); (case aO => exact (by (with_reducible repeat (first | apply Kd.R_alloc | apply Kd.R_drewN | apply Kd.R_drew)); exact HO_15.out)); (case aS => exact (below_size (by repeat (first | (with_reducible first | exact HB.out | apply below_alloc | apply pw_below_drewN | apply below_drew1 | refine below_set ?_ GE181.out | refine below_set ?_ GE186.out) | exact HB.out)))); (case aL => have := LMc80.out; omega); intro v201 w83 ho hb hg hat; rw [← Ny200.out] at ho; have n0_ := Aside0.mk (blk_grown (g := gb181) (o := .cells #[.int .u64 a0_0, .int .i64 a0_1, .int .i64 a0_2, .int .i64 a0_3, .slice (some ad199) l0_4.length c0_4, .int .u64 a0_5, .bool a0_6] 44 (0, 0)) (by (with_reducible repeat (first | refine blk_drewN ?_ _ | refine blk_drew ?_ | refine blk_alloc ?_ _)); exact BK181.out) hg (Kd.R_ne HO_15.out BK181.out (by decide))); have n1_ := Aside0.mk (blk_grown (g := gb186) (o := .cells #[.int .u64 t183, .int .i64 t184, .int .i64 t185] 29 (0, 0)) (by (with_reducible repeat (first | refine blk_drewN ?_ _ | refine blk_drew ?_ | refine blk_alloc ?_ _)); exact BK186.out) hg (Kd.R_ne HO_15.out BK186.out (by decide))); have n2_ := Aside0.mk (hb); have n3_ := Aside0.mk (ho); clear BK181; clear BK186; clear HB; clear HO_15; have BK181 := n0_; have BK186 := n1_; have HB := n2_; have HO202 := n3_; clear n0_ n1_ n2_ n3_; clear ho hb hg hat))
                go_roundg k4
                case measure => have := HK1.out; have := HK2.out; have := HJ47.out; have := HK4.out; omega
                case rel => exact ⟨(y200), (wrap64 (x16_4 + 1)), (by first | rfl | (simp; done) | (simp [*]; done)), H', ⟨by have := HK1.out; have := HK2.out; have := HJ47.out; have := HK4.out; omega⟩, ⟨by (with_reducible repeat (first | apply Kd.R_alloc | apply Kd.R_drewN | apply Kd.R_drew)); exact HO202.out⟩, ⟨by (with_reducible repeat (first | refine blk_drewN ?_ _ | refine blk_drew ?_ | refine blk_alloc ?_ _)); exact BK181.out⟩, ⟨by (with_reducible repeat (first | refine blk_drewN ?_ _ | refine blk_drew ?_ | refine blk_alloc ?_ _)); exact BK186.out⟩, ⟨by repeat (first | (with_reducible first | exact HB.out | apply below_alloc | apply pw_below_drewN | apply below_drew1 | refine below_set ?_ GE181.out | refine below_set ?_ GE186.out) | exact HB.out)⟩⟩
               ·rw [if_neg c80] at H
                exact absurd H (by simp)
              ·rw [if_neg c79] at H
               exact absurd H (by simp)
             ·rw [if_neg c78] at H
              have c78b0 : decide (x16_4 < (l0_4.length : Int)) = false := decide_eq_false c78
              clear c78
              replace H := Option.bind_eq_some_iff.mp H
              obtain ⟨⟨t203, t204⟩, A840, H⟩ := H
              replace H : (if t204 = true then (some (decide (t203 ≤ a0_3))) else (some false)) = some r := H
              have A84 := Aside0.mk A840
              clear A840
              by_cases c85 : t204 = true
              ·subst c85
               have H1 : (some (decide (t203 ≤ a0_3))) = some r := by rw [if_pos rfl] at H; exact H
               clear H
               have H := H1
               clear H1
               obtain rfl := Option.some.inj H
               have hnb86 := NB181_186.out
               have hnc86 := NB186_181.out
               have hcz87_0 : wr.cell? ⟨gb181, 0, none⟩ = some (.int .u64 a0_0) := (blk_cell BK181.out 0).trans rfl
               have hcz87_1 : wr.cell? ⟨gb181, 1, none⟩ = some (.int .i64 a0_1) := (blk_cell BK181.out 1).trans rfl
               have hcz87_2 : wr.cell? ⟨gb181, 2, none⟩ = some (.int .i64 a0_2) := (blk_cell BK181.out 2).trans rfl
               have hcz87_3 : wr.cell? ⟨gb181, 3, none⟩ = some (.int .i64 a0_3) := (blk_cell BK181.out 3).trans rfl
               have hcz87_4 : wr.cell? ⟨gb181, 4, none⟩ = some (.slice A0_4 l0_4.length c0_4) := (blk_cell BK181.out 4).trans rfl
               have hcz87_5 : wr.cell? ⟨gb181, 5, none⟩ = some (.int .u64 a0_5) := (blk_cell BK181.out 5).trans rfl
               have hcz87_6 : wr.cell? ⟨gb181, 6, none⟩ = some (.bool a0_6) := (blk_cell BK181.out 6).trans rfl
               have hfz87_0 := blk_frozen BK181.out 0
               have hfz87_1 := blk_frozen BK181.out 1
               have hfz87_2 := blk_frozen BK181.out 2
               have hfz87_3 := blk_frozen BK181.out 3
               have hfz87_4 := blk_frozen BK181.out 4
               have hfz87_5 := blk_frozen BK181.out 5
               have hfz87_6 := blk_frozen BK181.out 6
               have hcz88_0 : wr.cell? ⟨gb186, 0, none⟩ = some (.int .u64 t183) := (blk_cell BK186.out 0).trans rfl
               have hcz88_1 : wr.cell? ⟨gb186, 1, none⟩ = some (.int .i64 t184) := (blk_cell BK186.out 1).trans rfl
               have hcz88_2 : wr.cell? ⟨gb186, 2, none⟩ = some (.int .i64 t185) := (blk_cell BK186.out 2).trans rfl
               have hfz88_0 := blk_frozen BK186.out 0
               have hfz88_1 := blk_frozen BK186.out 1
               have hfz88_2 := blk_frozen BK186.out 2
               obtain ⟨Ao89, co89, eo89⟩ := Kd.R_slice HO_15.out
               subst eo89
               go_wp2_with (first | ((with_reducible refine gate_callee (f := 20) rfl ?_); refine goesL_ (some 173) rfl rfl Try.func20 (by kernel_rfl) rfl #[.agg #[.int .u64 t183, .int .i64 t184, .int .i64 t185], .slice none 0 0, .slice Ao89 x15_4.length co89] rfl (by (try simp only [List.map_toArray, List.map_cons, List.map_nil]); first | done | rfl | (simp only [List.length_drop, List.length_take]; rfl)) ?_; (refine (oracle_Least.calls t183 t184 t185 _ _ ([] : List (S55)) _ _ x15_4 t203 true _ ?side1 ?side2 ?side3 ?side4 A84.out).mono ?_); (case side1 => exact Kd.C_nil _ _); (case side2 => exact Nat.le_refl _); (case side3 => repeat (first | exact (Kd.R_reads' HO_15.out).2.2 | (with_reducible refine Kd.C_alloc ?_ _) | (with_reducible refine Kd.C_drewN ?_ _) | (with_reducible refine Kd.C_drew ?_))); (case side4 => exact (Kd.R_reads' HO_15.out).2.1); rintro e w90 ⟨rfl, hb⟩; refine ⟨_, rfl, ?_⟩; have n0_ := Aside0.mk (Kd.R_below (by (with_reducible repeat (first | apply Kd.R_alloc | apply Kd.R_drewN | apply Kd.R_drew)); exact HO_15.out) hb); have n1_ := Aside0.mk (blk_below (g := gb181) (o := .cells #[.int .u64 a0_0, .int .i64 a0_1, .int .i64 a0_2, .int .i64 a0_3, .slice A0_4 l0_4.length c0_4, .int .u64 a0_5, .bool a0_6] 44 (0, 0)) (by (with_reducible repeat (first | refine blk_drewN ?_ _ | refine blk_drew ?_ | refine blk_alloc ?_ _)); exact BK181.out) hb); have n2_ := Aside0.mk (blk_below (g := gb186) (o := .cells #[.int .u64 t183, .int .i64 t184, .int .i64 t185] 29 (0, 0)) (by (with_reducible repeat (first | refine blk_drewN ?_ _ | refine blk_drew ?_ | refine blk_alloc ?_ _)); exact BK186.out) hb); have n3_ := Aside0.mk (below_step (by repeat (first | (with_reducible first | exact HB.out | apply below_alloc | apply pw_below_drewN | apply below_drew1 | refine below_set ?_ GE181.out | refine below_set ?_ GE186.out) | exact HB.out)) hb); clear HO_15; clear BK181; clear BK186; clear HB; have HO_15 := n0_; have BK181 := n1_; have BK186 := n2_; have HB := n3_; clear n0_ n1_ n2_ n3_; (try clear hb); (try clear hb2); (try clear hk); (try clear hi); have hcz91_0 : w90.cell? ⟨gb181, 0, none⟩ = some (.int .u64 a0_0) := (blk_cell BK181.out 0).trans rfl; have hcz91_1 : w90.cell? ⟨gb181, 1, none⟩ = some (.int .i64 a0_1) := (blk_cell BK181.out 1).trans rfl; have hcz91_2 : w90.cell? ⟨gb181, 2, none⟩ = some (.int .i64 a0_2) := (blk_cell BK181.out 2).trans rfl; have hcz91_3 : w90.cell? ⟨gb181, 3, none⟩ = some (.int .i64 a0_3) := (blk_cell BK181.out 3).trans rfl; have hcz91_4 : w90.cell? ⟨gb181, 4, none⟩ = some (.slice A0_4 l0_4.length c0_4) := (blk_cell BK181.out 4).trans rfl; have hcz91_5 : w90.cell? ⟨gb181, 5, none⟩ = some (.int .u64 a0_5) := (blk_cell BK181.out 5).trans rfl; have hcz91_6 : w90.cell? ⟨gb181, 6, none⟩ = some (.bool a0_6) := (blk_cell BK181.out 6).trans rfl; have hfz91_0 := blk_frozen BK181.out 0; have hfz91_1 := blk_frozen BK181.out 1; have hfz91_2 := blk_frozen BK181.out 2; have hfz91_3 := blk_frozen BK181.out 3; have hfz91_4 := blk_frozen BK181.out 4; have hfz91_5 := blk_frozen BK181.out 5; have hfz91_6 := blk_frozen BK181.out 6))
               go_ret
               exact ⟨by first | rfl | (simp [errW_none, errW_some] <;> rfl) | (simp [*, errW_none, errW_some] <;> rfl), by repeat (first | (with_reducible first | exact HB.out | apply below_alloc | apply pw_below_drewN | apply below_drew1 | refine below_set ?_ GE181.out | refine below_set ?_ GE186.out) | exact HB.out)⟩
              ·replace c85 := Bool.eq_false_iff.mpr c85
               subst c85
               have H1 : (some false) = some r := by rw [if_neg (show ¬ (false = true) by decide)] at H; exact H
               clear H
               have H := H1
               clear H1
               obtain rfl := Option.some.inj H
               have hnb92 := NB181_186.out
               have hnc92 := NB186_181.out
               have hcz93_0 : wr.cell? ⟨gb181, 0, none⟩ = some (.int .u64 a0_0) := (blk_cell BK181.out 0).trans rfl
               have hcz93_1 : wr.cell? ⟨gb181, 1, none⟩ = some (.int .i64 a0_1) := (blk_cell BK181.out 1).trans rfl
               have hcz93_2 : wr.cell? ⟨gb181, 2, none⟩ = some (.int .i64 a0_2) := (blk_cell BK181.out 2).trans rfl
               have hcz93_3 : wr.cell? ⟨gb181, 3, none⟩ = some (.int .i64 a0_3) := (blk_cell BK181.out 3).trans rfl
               have hcz93_4 : wr.cell? ⟨gb181, 4, none⟩ = some (.slice A0_4 l0_4.length c0_4) := (blk_cell BK181.out 4).trans rfl
               have hcz93_5 : wr.cell? ⟨gb181, 5, none⟩ = some (.int .u64 a0_5) := (blk_cell BK181.out 5).trans rfl
               have hcz93_6 : wr.cell? ⟨gb181, 6, none⟩ = some (.bool a0_6) := (blk_cell BK181.out 6).trans rfl
               have hfz93_0 := blk_frozen BK181.out 0
               have hfz93_1 := blk_frozen BK181.out 1
               have hfz93_2 := blk_frozen BK181.out 2
               have hfz93_3 := blk_frozen BK181.out 3
               have hfz93_4 := blk_frozen BK181.out 4
               have hfz93_5 := blk_frozen BK181.out 5
               have hfz93_6 := blk_frozen BK181.out 6
               have hcz94_0 : wr.cell? ⟨gb186, 0, none⟩ = some (.int .u64 t183) := (blk_cell BK186.out 0).trans rfl
               have hcz94_1 : wr.cell? ⟨gb186, 1, none⟩ = some (.int .i64 t184) := (blk_cell BK186.out 1).trans rfl
               have hcz94_2 : wr.cell? ⟨gb186, 2, none⟩ = some (.int .i64 t185) := (blk_cell BK186.out 2).trans rfl
               have hfz94_0 := blk_frozen BK186.out 0
               have hfz94_1 := blk_frozen BK186.out 1
               have hfz94_2 := blk_frozen BK186.out 2
               obtain ⟨Ao95, co95, eo95⟩ := Kd.R_slice HO_15.out
               subst eo95
               go_wp2_with (first | ((with_reducible refine gate_callee (f := 20) rfl ?_); refine goesL_ (some 173) rfl rfl Try.func20 (by kernel_rfl) rfl #[.agg #[.int .u64 t183, .int .i64 t184, .int .i64 t185], .slice none 0 0, .slice Ao95 x15_4.length co95] rfl (by (try simp only [List.map_toArray, List.map_cons, List.map_nil]); first | done | rfl | (simp only [List.length_drop, List.length_take]; rfl)) ?_; (refine (oracle_Least.calls t183 t184 t185 _ _ ([] : List (S55)) _ _ x15_4 t203 false _ ?side1 ?side2 ?side3 ?side4 A84.out).mono ?_); (case side1 => exact Kd.C_nil _ _); (case side2 => exact Nat.le_refl _); (case side3 => repeat (first | exact (Kd.R_reads' HO_15.out).2.2 | (with_reducible refine Kd.C_alloc ?_ _) | (with_reducible refine Kd.C_drewN ?_ _) | (with_reducible refine Kd.C_drew ?_))); (case side4 => exact (Kd.R_reads' HO_15.out).2.1); rintro e w96 ⟨rfl, hb⟩; refine ⟨_, rfl, ?_⟩; have n0_ := Aside0.mk (Kd.R_below (by (with_reducible repeat (first | apply Kd.R_alloc | apply Kd.R_drewN | apply Kd.R_drew)); exact HO_15.out) hb); have n1_ := Aside0.mk (blk_below (g := gb181) (o := .cells #[.int .u64 a0_0, .int .i64 a0_1, .int .i64 a0_2, .int .i64 a0_3, .slice A0_4 l0_4.length c0_4, .int .u64 a0_5, .bool a0_6] 44 (0, 0)) (by (with_reducible repeat (first | refine blk_drewN ?_ _ | refine blk_drew ?_ | refine blk_alloc ?_ _)); exact BK181.out) hb); have n2_ := Aside0.mk (blk_below (g := gb186) (o := .cells #[.int .u64 t183, .int .i64 t184, .int .i64 t185] 29 (0, 0)) (by (with_reducible repeat (first | refine blk_drewN ?_ _ | refine blk_drew ?_ | refine blk_alloc ?_ _)); exact BK186.out) hb); have n3_ := Aside0.mk (below_step (by repeat (first | (with_reducible first | exact HB.out | apply below_alloc | apply pw_below_drewN | apply below_drew1 | refine below_set ?_ GE181.out | refine below_set ?_ GE186.out) | exact HB.out)) hb); clear HO_15; clear BK181; clear BK186; clear HB; have HO_15 := n0_; have BK181 := n1_; have BK186 := n2_; have HB := n3_; clear n0_ n1_ n2_ n3_; (try clear hb); (try clear hb2); (try clear hk); (try clear hi)))
               go_ret
               exact ⟨by first | rfl | (simp [errW_none, errW_some] <;> rfl) | (simp [*, errW_none, errW_some] <;> rfl), by repeat (first | (with_reducible first | exact HB.out | apply below_alloc | apply pw_below_drewN | apply below_drew1 | refine below_set ?_ GE181.out | refine below_set ?_ GE186.out) | exact HB.out)⟩
          ·rw [if_neg c74] at H
           have c74b0 : (t198 == (-1)) = false := beq_eq_false_iff_ne.mpr c74
           have c74b1 : (t198 != (-1)) = true := bne_iff_ne.mpr c74
           obtain rfl := Option.some.inj H
           have hnb97 := NB181_186.out
           have hnc97 := NB186_181.out
           have hcz98_0 : wc.cell? ⟨gb181, 0, none⟩ = some (.int .u64 a0_0) := (blk_cell BK181.out 0).trans rfl
           have hcz98_1 : wc.cell? ⟨gb181, 1, none⟩ = some (.int .i64 a0_1) := (blk_cell BK181.out 1).trans rfl
           have hcz98_2 : wc.cell? ⟨gb181, 2, none⟩ = some (.int .i64 a0_2) := (blk_cell BK181.out 2).trans rfl
           have hcz98_3 : wc.cell? ⟨gb181, 3, none⟩ = some (.int .i64 a0_3) := (blk_cell BK181.out 3).trans rfl
           have hcz98_4 : wc.cell? ⟨gb181, 4, none⟩ = some (.slice A0_4 l0_4.length c0_4) := (blk_cell BK181.out 4).trans rfl
           have hcz98_5 : wc.cell? ⟨gb181, 5, none⟩ = some (.int .u64 a0_5) := (blk_cell BK181.out 5).trans rfl
           have hcz98_6 : wc.cell? ⟨gb181, 6, none⟩ = some (.bool a0_6) := (blk_cell BK181.out 6).trans rfl
           have hfz98_0 := blk_frozen BK181.out 0
           have hfz98_1 := blk_frozen BK181.out 1
           have hfz98_2 := blk_frozen BK181.out 2
           have hfz98_3 := blk_frozen BK181.out 3
           have hfz98_4 := blk_frozen BK181.out 4
           have hfz98_5 := blk_frozen BK181.out 5
           have hfz98_6 := blk_frozen BK181.out 6
           go_wp2_with (first | ((with_reducible refine gate_callee (f := 16) rfl ?_); refine goesL_ (some 152) rfl rfl Try.func16 (by kernel_rfl) rfl #[.agg #[.int .u64 a0_0, .int .i64 a0_1, .int .i64 a0_2], .int .i64 a0_3, .slice A0_4 l0_4.length c0_4] rfl (by (try simp only [List.map_toArray, List.map_cons, List.map_nil]); first | done | rfl | (simp only [List.length_drop, List.length_take]; rfl)) ?_; (with_reducible refine (croftref11_Sound.calls kj47 a0_0 a0_1 a0_2 a0_3 _ _ l0_4 t198 _ ?side1 ?side2 A73.out).mono ?_); (case side1 => repeat (first | exact (Kd.C_below HR0_4.out HB.out) | (with_reducible refine Kd.C_alloc ?_ _) | (with_reducible refine Kd.C_drewN ?_ _) | (with_reducible refine Kd.C_drew ?_))); (case side2 => exact HC0_4.out); rintro e w99 ⟨rfl, hb⟩; refine ⟨_, rfl, ?_⟩; have n0_ := Aside0.mk (blk_below (g := gb181) (o := .cells #[.int .u64 a0_0, .int .i64 a0_1, .int .i64 a0_2, .int .i64 a0_3, .slice A0_4 l0_4.length c0_4, .int .u64 a0_5, .bool a0_6] 44 (0, 0)) (by (with_reducible repeat (first | refine blk_drewN ?_ _ | refine blk_drew ?_ | refine blk_alloc ?_ _)); exact BK181.out) hb); have n1_ := Aside0.mk (blk_below (g := gb186) (o := .cells #[.int .u64 t183, .int .i64 t184, .int .i64 t185] 29 (0, 0)) (by (with_reducible repeat (first | refine blk_drewN ?_ _ | refine blk_drew ?_ | refine blk_alloc ?_ _)); exact BK186.out) hb); have n2_ := Aside0.mk (below_step (by repeat (first | (with_reducible first | exact HB.out | apply below_alloc | apply pw_below_drewN | apply below_drew1 | refine below_set ?_ GE181.out | refine below_set ?_ GE186.out) | exact HB.out)) hb); clear BK181; clear BK186; clear HB; have BK181 := n0_; have BK186 := n1_; have HB := n2_; clear n0_ n1_ n2_; (try clear hb); (try clear hb2); (try clear hk); (try clear hi)))
           go_ret
           exact ⟨by first | rfl | (simp [errW_none, errW_some] <;> rfl) | (simp [*, errW_none, errW_some] <;> rfl), by repeat (first | (with_reducible first | exact HB.out | apply below_alloc | apply pw_below_drewN | apply below_drew1 | refine below_set ?_ GE181.out | refine below_set ?_ GE186.out) | exact HB.out)⟩
 ·replace c4 := Bool.eq_false_iff.mpr c4
  subst c4
  have H1 : (some false) = some r := by rw [if_neg (show ¬ (false = true) by decide)] at H; exact H
  clear H
  have H := H1
  clear H1
  obtain rfl := Option.some.inj H
  go_enter Try.func7, Try.ntmps7
  go_wp2_with (first | ((with_reducible refine gate_dst (N := 2) rfl ?_); refine box_event ?hg (N := 2) ?hd (cs := #[.int .u64 a0_0, .int .i64 a0_1, .int .i64 a0_2, .int .i64 a0_3, .slice A0_4 l0_4.length c0_4, .int .u64 a0_5, .bool a0_6]) (t := 44) ?hr ?_; (case hd => rfl); (case hg => rfl); (case hr => first | (go_simp; done) | (go_simp; rfl)); intro gb181 hg w100 hbox hb; have n0_ := Aside0.mk (below_step (by repeat (first | (with_reducible first | exact HB.out | apply below_alloc | apply pw_below_drewN | apply below_drew1) | exact HB.out)) hb); have n1_ := Aside0.mk (hbox); have n2_ := Aside0.mk ((by rw [hg]; exact (below_size (by repeat (first | (with_reducible first | exact HB.out | apply below_alloc | apply pw_below_drewN | apply below_drew1) | exact HB.out))) : w.heap.size ≤ gb181)); have n3_ := Aside0.mk ((by rw [hg]; exact (below_size (by repeat (first | (with_reducible first | exact HB.out | apply below_alloc | apply pw_below_drewN | apply below_drew1) | exact HB.out))) : w.heap.size ≤ gb181)); clear HB; have HB := n0_; have BK181 := n1_; have GW181 := n2_; have GE181 := n3_; clear n0_ n1_ n2_ n3_; clear hb hbox hg) | ((with_reducible refine gate_callee (f := 18) rfl ?_); refine goesL_ (some 17) rfl rfl Try.func18 (by kernel_rfl) rfl #[] rfl (by (try simp only [List.map_toArray, List.map_cons, List.map_nil]); first | done | rfl | (simp only [List.length_drop, List.length_take]; rfl)) ?_; (with_reducible refine (croftlaw11_awake.calls k  false _ A3.out).mono ?_); rintro e w101 ⟨rfl, hb⟩; refine ⟨_, rfl, ?_⟩; have n0_ := Aside0.mk (blk_below (g := gb181) (o := .cells #[.int .u64 a0_0, .int .i64 a0_1, .int .i64 a0_2, .int .i64 a0_3, .slice A0_4 l0_4.length c0_4, .int .u64 a0_5, .bool a0_6] 44 (0, 0)) (by (with_reducible repeat (first | refine blk_drewN ?_ _ | refine blk_drew ?_ | refine blk_alloc ?_ _)); exact BK181.out) hb); have n1_ := Aside0.mk (below_step (by repeat (first | (with_reducible first | exact HB.out | apply below_alloc | apply pw_below_drewN | apply below_drew1 | refine below_set ?_ GE181.out) | exact HB.out)) hb); clear BK181; clear HB; have BK181 := n0_; have HB := n1_; clear n0_ n1_; (try clear hb); (try clear hb2); (try clear hk); (try clear hi)))
  go_ret
  exact ⟨by first | rfl | (simp [errW_none, errW_some] <;> rfl) | (simp [*, errW_none, errW_some] <;> rfl), by repeat (first | (with_reducible first | exact HB.out | apply below_alloc | apply pw_below_drewN | apply below_drew1 | refine below_set ?_ GE181.out) | exact HB.out)⟩


end Go.Proofs.Ytihfblnjgaalcaa.R
