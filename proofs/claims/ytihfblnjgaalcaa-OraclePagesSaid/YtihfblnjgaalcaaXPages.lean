/- OraclePages, plain. -/
import Derived.Test.YtihfblnjgaalcaaRPa1
import Derived.Test.YtihfblnjgaalcaaXPg0
namespace Go.Proofs.Ytihfblnjgaalcaa.OX
open Go Go.RowKit Go.Proofs.YtihfblnjgaalcaaW.PrintWords Go.Proofs.YtihfblnjgaalcaaW.PrintLast Go.Proofs.YtihfblnjgaalcaaW.PrintMore Go.Proofs.Ytihfblnjgaalcaa.R Go.Proofs.Ytihfblnjgaalcaa.OP Go.Proofs.Ytihfblnjgaalcaa.OB Go.Proofs.Ytihfblnjgaalcaa.OV Go.Proofs.Ytihfblnjgaalcaa.OS Go.Proofs.Ytihfblnjgaalcaa.OW Go.Proofs.Ytihfblnjgaalcaa.OF Go.Proofs.Ytihfblnjgaalcaa.ON Go.Proofs.Ytihfblnjgaalcaa.OC
set_option linter.unusedVariables false
set_option linter.unusedSimpArgs false
theorem kfacts (k : Nat) (hk : k < 8) : IntKind.u64.wrap (k : Int) = k ∧ shl .u64 16 (k : Int) = sz8 k ∧ shr .i64 255 (k : Int) = 4096 / sz8 k - 1 ∧ shr .i64 256 (k : Int) = 4096 / sz8 k ∧ wrap64 ((k : Int) + 1) = ((k + 1 : Nat) : Int) := by
  have h : k = 0 ∨ k = 1 ∨ k = 2 ∨ k = 3 ∨ k = 4 ∨ k = 5 ∨ k = 6 ∨ k = 7 := by omega
  rcases h with rfl | rfl | rfl | rfl | rfl | rfl | rfl | rfl <;> exact ⟨by decide, by decide, by decide, by decide, inc64 (by decide)⟩
theorem ofacts {o : Int} (h0 : 0 ≤ o) (h8 : o ≤ 8) : IntKind.u64.wrap o = o ∧ shl .i64 1 o = 2 ^ o.toNat ∧ (∀ x, shr .i64 x o = x / 2 ^ o.toNat) ∧ (1 : Int) ≤ 2 ^ o.toNat ∧ (2 : Int) ^ o.toNat ≤ 256 := by
  rcases ord_cases h0 h8 with rfl | rfl | rfl | rfl | rfl | rfl | rfl | rfl | rfl <;> refine ⟨by decide, by decide, fun x => rfl, by decide, by decide⟩
theorem cnt_take (z : List Int) (s : Int) {i : Nat} (h : i < z.length) : cnt (z.take (i + 1)) s = cnt (z.take i) s + if rd z (i : Int) = s then 1 else 0 := by
  rw [List.take_succ_eq_append_getElem h, cnt_snoc, rdI h]
theorem pfor_eq {k n : Nat} (hk : k < 8) (hn : n ≤ 17592186043904) : wrap64 (Int.tdiv (wrap64 ((n : Int) + (4096 / sz8 k - 1))) (4096 / sz8 k)) = pagesFor (n : Int) (sz8 k) ∧ 0 ≤ pagesFor (n : Int) (sz8 k) ∧ pagesFor (n : Int) (sz8 k) ≤ 17592186044416 := by
  unfold pagesFor
  rw [show max (n : Int) 0 = (n : Int) by omega]
  have h8 := sz8_cases ⟨k, hk, rfl⟩
  generalize sz8 k = s at *
  have hw : wrap64 ((n : Int) + (4096 / s - 1)) = (n : Int) + 4096 / s - 1 := by
    rcases h8 with rfl | rfl | rfl | rfl | rfl | rfl | rfl | rfl <;> (unfold wrap64; omega)
  rw [hw]
  have hnn : 0 ≤ (n : Int) + 4096 / s - 1 := by rcases h8 with rfl | rfl | rfl | rfl | rfl | rfl | rfl | rfl <;> omega
  rw [Int.tdiv_eq_ediv_of_nonneg hnn]
  have hb : 0 ≤ ((n : Int) + 4096 / s - 1) / (4096 / s) ∧ ((n : Int) + 4096 / s - 1) / (4096 / s) ≤ 17592186044416 := by
    rcases h8 with rfl | rfl | rfl | rfl | rfl | rfl | rfl | rfl <;> omega
  refine ⟨?_, hb⟩
  generalize ((n : Int) + 4096 / s - 1) / (4096 / s) = q at *
  unfold wrap64; omega
section
variable {base limit order n r : Int} {dn : Bool} {l : List S49} {z : List Int}
theorem pg_l1 {P : Int} {k0 K : Nat} (hk0 : k0 < 8) (hz : z.length ≤ 17592186043904) (hP : 0 ≤ P ∧ P ≤ 8 * 17592186044416)
    (hV : ∀ k, K ≤ k → croftlaw11_OraclePages.l0 k z (P + pagesFor (cnt z (sz8 k0) : Int) (sz8 k0)) ((k0 + 1 : Nat) : Int) base limit order n l r dn base limit order = some true) (d : Nat) :
    ∀ (k i : Nat), i + d = z.length → K + d < k → croftlaw11_OraclePages.l1 k z P (k0 : Int) (cnt (z.take i) (sz8 k0) : Int) (i : Int) base limit order n l r dn base limit order = some true := by
  obtain ⟨f1, f2, f3, f4, f5⟩ := kfacts k0 hk0
  obtain ⟨c1, c2, c3, c4⟩ := sz8_cells hk0
  induction d with
  | zero =>
    intro k i hi hk
    obtain ⟨k, rfl⟩ : ∃ m, k = m + 1 := ⟨k - 1, by omega⟩
    obtain rfl : i = z.length := hi
    have hc := cnt_le z (sz8 k0)
    obtain ⟨p1, p2, p3⟩ := pfor_eq (k := k0) (n := cnt z (sz8 k0)) hk0 (by omega)
    rw [croftlaw11_OraclePages.l1, if_neg (by omega), f1, if_pos (by omega), f4, if_neg (by omega), f3, List.take_length, p1, f5]
    have e : wrap64 (P + pagesFor (cnt z (sz8 k0) : Int) (sz8 k0)) = P + pagesFor (cnt z (sz8 k0) : Int) (sz8 k0) := by unfold wrap64; omega
    rw [e]
    exact hV k (by omega)
  | succ d ih =>
    intro k i hi hk
    obtain ⟨k, rfl⟩ : ∃ m, k = m + 1 := ⟨k - 1, by omega⟩
    have hil : i < z.length := by omega
    have hnext := ih k (i + 1) (by omega) (by omega)
    rw [cnt_take z _ hil] at hnext
    have hc := cnt_le (z.take i) (sz8 k0)
    rw [List.length_take] at hc
    rw [croftlaw11_OraclePages.l1, if_pos (by omega), if_pos (by omega), f1, if_pos (by omega), f2, inc64 (i := i) (by omega), inc64 (i := cnt (z.take i) (sz8 k0)) (by omega)]
    by_cases he : rd z (i : Int) = sz8 k0
    · rw [if_pos he]
      rw [if_pos he] at hnext
      exact hnext
    · rw [if_neg he]
      rw [if_neg he, Nat.add_zero] at hnext
      exact hnext
/-- The last part. -/
theorem pg_l3 (hm : mayB base limit order = true) (hb0 : 0 ≤ base) (hb : base < 18446744073709551616) (hw : Wd49 l) (hl : l.length ≤ 8796093021952) (hs : soundI base limit order n (cv l) = -1) (d : Nat) :
    ∀ (k i : Nat), i + d = l.length → d < k → croftlaw11_OraclePages.l3 k (sizesOf (cv (l.take i))) (i : Int) base limit order n l r dn base limit order = some true := by
  induction d with
  | zero =>
    intro k i hi hk
    obtain ⟨k, rfl⟩ : ∃ m, k = m + 1 := ⟨k - 1, by omega⟩
    obtain rfl : i = l.length := hi
    obtain ⟨-, h0, hn, m, hsc, hrun, ht, hf, hall⟩ := sound_says (cv_wd hw) hs
    have hwd := cv_wd hw
    have hz : ∀ s ∈ sizesOf (cv l), 0 ≤ s ∧ s < 18446744073709551616 ∧ sizeB order s = true := by
      intro s hs
      obtain ⟨b, hb, rfl⟩ := List.mem_map.1 hs
      exact ⟨(hwd b hb).2.1, (hwd b hb).2.2, (okB_iff.1 (hall b hb).1).1⟩
    have hlen : (sizesOf (cv l)).length = l.length := by unfold sizesOf; rw [List.length_map, cv_length]
    have hmm := mayB_iff.1 hm
    have hsp := sound_pages hwd hs
    have hT := tot_eq hm h0 hn
    rw [croftlaw11_OraclePages.l3, if_neg (by omega), List.take_length]
    have hlf := least_fr (base := base) (limit := limit) (order := order) (l := []) (z := sizesOf (cv l)) hb0 hb (fun b hb => by cases hb) (by simp) (by omega) (fun s hs => ⟨(hz s hs).1, (hz s hs).2.1⟩)
    rw [show cv ([] : List S49) = [] from rfl] at hlf
    rw [hlf, Option.bind_some]
    obtain ⟨-, -, -, o1, o2⟩ := ofacts hmm.1 hmm.2.1
    have hr : regsOf (pagesP (sizesOf (cv l))) order.toNat ≤ n := by
      unfold regsOf
      generalize (2 : Int) ^ order.toNat = c at *
      have h1 : pagesP (sizesOf (cv l)) + c - 1 < (n + 1) * c := by rw [Int.add_mul, Int.one_mul]; omega
      have := Int.ediv_lt_of_lt_mul (show 0 < c by omega) h1
      omega
    have hln : leastI base limit order [] (sizesOf (cv l)) = (regsOf (pagesP (sizesOf (cv l))) order.toNat, true) := by rw [least_none hm hz, if_pos (show regsOf (pagesP (sizesOf (cv l))) order.toNat ≤ limit from Int.le_trans hr hn)]
    rw [hln]
    show (if (true : Bool) = true then some (decide (regsOf (pagesP (sizesOf (cv l))) order.toNat ≤ n)) else some false) = some true
    rw [if_pos rfl, decide_eq_true hr]
  | succ d ih =>
    intro k i hi hk
    obtain ⟨k, rfl⟩ : ∃ m, k = m + 1 := ⟨k - 1, by omega⟩
    have hil : i < l.length := by omega
    have hlen : (sizesOf (cv (l.take i))).length = i := by unfold sizesOf; rw [List.length_map, cv_length, List.length_take]; omega
    have hsn : sizesOf (cv (l.take i)) ++ [(rd_T49 l (i : Int)).f1] = sizesOf (cv (l.take (i + 1))) := by
      rw [← cv_snoc hil]
      unfold sizesOf
      rw [List.map_append]; rfl
    rw [croftlaw11_OraclePages.l3, if_pos (by omega), if_pos (by omega), if_pos (by omega), hsn, inc64 (by omega)]
    exact ih k (i + 1) (by omega) (by omega)
theorem pg_j4 (hb0 : 0 ≤ base) (hb : base < 18446744073709551616) (hw : Wd49 l) (hl : l.length ≤ 8796093021952) {k : Nat} (hk : l.length * (l.length + 2) + l.length + 4 < k) :
    croftlaw11_OraclePages.j4 k base limit order n l r dn base limit order = some true := by
  obtain ⟨k, rfl⟩ : ∃ m, k = m + 1 := ⟨k - 1, by omega⟩
  rw [croftlaw11_OraclePages.j4, refSound_f hb0 hb hw hl (by omega), Option.bind_some]
  by_cases hs : soundI base limit order n (cv l) = -1
  · rw [if_pos hs]
    exact pg_l3 (sound_says (cv_wd hw) hs).1 hb0 hb hw hl hs l.length k 0 (by omega) (by omega)
  · rw [if_neg hs]
/-- Are the sizes so far good? -/
def goodTo (base limit order : Int) (z : List Int) (i : Nat) : Bool := mayB base limit order && (z.take i).all (sizeB order)
theorem good_step {i : Nat} (h : i < z.length) : goodTo base limit order z (i + 1) = (goodTo base limit order z i && sizeB order (rd z (i : Int))) := by
  unfold goodTo
  rw [List.take_succ_eq_append_getElem h, List.all_append, rdI h, Bool.and_assoc]
  simp
theorem bigP_snoc (x : Int) : ∀ l : List Int, bigP (l ++ [x]) = bigP l + (if x < 4096 then 0 else x / 4096)
  | [] => by show (if x < 4096 then 0 else x / 4096) + 0 = 0 + _; omega
  | y :: l => by rw [List.cons_append, bigP, bigP_snoc x l, bigP]; omega
theorem bigP_bd {order : Int} (h0 : 0 ≤ order) (h8 : order ≤ 8) : ∀ {l : List Int}, (∀ s ∈ l, 0 ≤ s ∧ sizeB order s = true) → 0 ≤ bigP l ∧ bigP l ≤ 256 * l.length
  | [], _ => ⟨Int.le_refl 0, by simp [bigP]⟩
  | s :: l, h => by
    have h1 := bigP_bd h0 h8 (l := l) (fun x hx => h x (List.mem_cons_of_mem _ hx))
    have h2 := h s (List.mem_cons_self ..)
    have h3 := (sizeB_iff.1 h2.2).2.2
    have h4 := RR_bd h0 h8
    rw [bigP, List.length_cons]
    split <;> omega
theorem pg_l2 (hb0 : 0 ≤ base) (hb : base < 18446744073709551616) (hw : Wd49 l) (hl : l.length ≤ 8796093021952) (hz : z.length ≤ 17592186043904) (hzw : ∀ x ∈ z, 0 ≤ x ∧ x < 18446744073709551616) (hsp : 0 ≤ smallP z ∧ smallP z ≤ 8 * 17592186044416) (d : Nat) :
    ∀ (k i : Nat) (P : Int) (g : Bool), i + d = z.length → l.length * (l.length + 2) + l.length + 6 + 2 * d < k → g = goodTo base limit order z i → (g = true → P = smallP z + bigP (z.take i)) → croftlaw11_OraclePages.l2 k z P g (i : Int) base limit order n l r dn base limit order = some true := by
  induction d with
  | zero =>
    intro k i P g hi hk hg hP
    obtain ⟨k, rfl⟩ : ∃ m, k = m + 1 := ⟨k - 1, by omega⟩
    obtain rfl : i = z.length := hi
    have hj := pg_j4 (limit := limit) (order := order) (n := n) (r := r) (dn := dn) hb0 hb hw hl (k := k) (by omega)
    have hlf := least_fr (base := base) (limit := limit) (order := order) (l := []) (z := z) hb0 hb (fun b hb => by cases hb) (by simp) (by omega) hzw
    rw [show cv ([] : List S49) = [] from rfl] at hlf
    rw [croftlaw11_OraclePages.l2, if_neg (by omega), hlf, Option.bind_some]
    unfold goodTo at hg
    rw [List.take_length] at hg hP
    by_cases hgt : g = true
    · rw [if_pos hgt]
      have hP := hP hgt
      rw [hgt] at hg
      have hg := (Bool.and_eq_true _ _).mp hg.symm
      have hm := hg.1
      have hall := List.all_eq_true.1 hg.2
      have hmm := mayB_iff.1 hm
      obtain ⟨o1, o2, o3, o4, o5⟩ := ofacts hmm.1 hmm.2.1
      have hbb := bigP_bd hmm.1 hmm.2.1 (fun s hs => ⟨(hzw s hs).1, hall s hs⟩)
      have hPP : P = pagesP z := hP
      rw [o1, if_pos hmm.1, o3, o2]
      have e : wrap64 (wrap64 (P + 2 ^ order.toNat) - 1) / 2 ^ order.toNat = regsOf (pagesP z) order.toNat := by
        unfold regsOf
        rw [← hPP]
        congr 1
        generalize (2 : Int) ^ order.toNat = c at *
        unfold wrap64; omega
      rw [e, least_none hm (fun s hs => ⟨(hzw s hs).1, (hzw s hs).2, hall s hs⟩)]
      by_cases hle : regsOf (pagesP z) order.toNat ≤ limit
      · rw [if_pos hle, decide_eq_true hle]
        simp only [bne_self_eq_false]
        rw [if_neg (by decide), if_pos trivial, if_pos trivial]
        exact hj
      · rw [if_neg hle, decide_eq_false hle]
        simp only [bne_self_eq_false]
        rw [if_neg (by decide), if_neg (by decide), if_pos trivial]
        exact hj
    · rw [if_neg hgt]
      have hbad : (leastI base limit order [] z).2 = false := least_bad (fun h => hgt (by rw [hg, h.1, List.all_eq_true.2 h.2]; rfl))
      rw [hbad, if_neg (by decide)]
      exact hj
  | succ d ih =>
    intro k i P g hi hk hg hP
    obtain ⟨k, rfl⟩ : ∃ m, k = m + 1 := ⟨k - 1, by omega⟩
    obtain ⟨k', rfl⟩ : ∃ m, k = m + 1 := ⟨k - 1, by omega⟩
    have hil : i < z.length := by omega
    have hx : 0 ≤ rd z (i : Int) ∧ rd z (i : Int) < 18446744073709551616 := by rw [rdI hil]; exact hzw _ (List.getElem_mem hil)
    have hgs := good_step (base := base) (limit := limit) (order := order) hil
    rw [← hg] at hgs
    have hbad : (g && sizeB order (rd z (i : Int))) = false → croftlaw11_OraclePages.j3 (k' + 1) z P g (i : Int) true base limit order n l r dn base limit order = some true := by
      intro h
      rw [croftlaw11_OraclePages.j3, if_pos rfl, inc64 (by omega)]
      exact ih k' (i + 1) P false (by omega) (by omega) (by rw [hgs, h]) (fun h => by cases h)
    rw [croftlaw11_OraclePages.l2, if_pos (by omega), if_pos (by omega), sPower_f, Option.bind_some]
    generalize hxe : rd z (i : Int) = x at *
    by_cases hp : powB x = true
    · rw [if_pos hp]
      by_cases h16 : x < 16
      · rw [if_pos h16]
        refine hbad ?_
        rw [Bool.and_eq_false_iff]
        right
        unfold sizeB
        rw [decide_eq_false (show ¬ 16 ≤ x by omega)]; simp
      · rw [if_neg h16]
        by_cases hgt : g = true
        · rw [if_pos hgt]
          have hm : mayB base limit order = true := by
            rw [hgt] at hg
            exact ((Bool.and_eq_true _ _).mp hg.symm).1
          have hmm := mayB_iff.1 hm
          rw [sR_f base limit hmm.1 hmm.2.1, Option.bind_some]
          by_cases hR : x > RR order
          · rw [decide_eq_true hR]
            refine hbad ?_
            rw [Bool.and_eq_false_iff]
            right
            unfold sizeB
            rw [decide_eq_false (show ¬ x ≤ RR order by omega)]; simp
          · have hsz : sizeB order x = true := sizeB_iff.2 ⟨hp, by omega, by omega⟩
            rw [decide_eq_false hR, croftlaw11_OraclePages.j3, if_neg (by decide), if_pos (by omega), if_pos (by omega), hxe, inc64 (by omega)]
            have hP := hP hgt
            have hRR := RR_bd hmm.1 hmm.2.1
            have hall : ∀ s ∈ z.take i, 0 ≤ s ∧ sizeB order s = true := fun s hs => by
              refine ⟨(hzw s (List.mem_of_mem_take hs)).1, ?_⟩
              rw [hgt] at hg
              exact List.all_eq_true.1 ((Bool.and_eq_true _ _).mp hg.symm).2 s hs
            have hbb := bigP_bd hmm.1 hmm.2.1 hall
            rw [List.length_take] at hbb
            have htk : bigP (z.take (i + 1)) = bigP (z.take i) + (if x < 4096 then 0 else x / 4096) := by
              rw [List.take_succ_eq_append_getElem hil, bigP_snoc, ← rdI hil, hxe]
            by_cases h4 : x ≥ 4096
            · rw [if_pos h4, Int.tdiv_eq_ediv_of_nonneg hx.1, u64_in (x := x / 4096) (by omega) (by omega)]
              have e1 : wrap64 (P + wrap64 (x / 4096)) = P + x / 4096 := by unfold wrap64; omega
              rw [e1]
              refine ih k' (i + 1) _ g (by omega) (by omega) (by rw [hgs, hsz, Bool.and_true]) (fun _ => ?_)
              rw [htk, if_neg (by omega)]; omega
            · rw [if_neg h4]
              refine ih k' (i + 1) _ g (by omega) (by omega) (by rw [hgs, hsz, Bool.and_true]) (fun _ => ?_)
              rw [htk, if_pos (by omega)]; omega
        · rw [if_neg hgt]
          refine hbad ?_
          rw [Bool.and_eq_false_iff]
          exact Or.inl (by simpa using hgt)
    · rw [if_neg hp]
      refine hbad ?_
      rw [Bool.and_eq_false_iff]
      right
      unfold sizeB
      rw [show powB x = false by simpa using hp]; rfl
/-- Enough rounds. -/
def pgRounds (a b : Nat) : Nat := a * (a + 2) + a + 100 + 11 * b
theorem smallP_bd (hz : z.length ≤ 17592186043904) : ∀ j, j ≤ 8 → 0 ≤ sumR (fun k => pagesFor (cnt z (sz8 k) : Int) (sz8 k)) j ∧ sumR (fun k => pagesFor (cnt z (sz8 k) : Int) (sz8 k)) j ≤ j * 17592186044416
  | 0, _ => ⟨Int.le_refl 0, by simp [sumR]⟩
  | j + 1, h => by
    have h1 := smallP_bd hz j (by omega)
    have hc := cnt_le z (sz8 j)
    have h2 := pfor_eq (k := j) (n := cnt z (sz8 j)) (by omega) (by omega)
    rw [sumR]; omega
theorem pg_l0 (hb0 : 0 ≤ base) (hb : base < 18446744073709551616) (hw : Wd49 l) (hl : l.length ≤ 8796093021952) (hz : z.length ≤ 17592186043904) (hzw : ∀ x ∈ z, 0 ≤ x ∧ x < 18446744073709551616) (d : Nat) :
    ∀ (k j : Nat), j + d = 8 → l.length * (l.length + 2) + l.length + 10 + 2 * z.length + d * (z.length + 2) < k → croftlaw11_OraclePages.l0 k z (sumR (fun k => pagesFor (cnt z (sz8 k) : Int) (sz8 k)) j) (j : Int) base limit order n l r dn base limit order = some true := by
  induction d with
  | zero =>
    intro k j hj hk
    obtain ⟨k, rfl⟩ : ∃ m, k = m + 2 := ⟨k - 2, by omega⟩
    obtain rfl : j = 8 := hj
    have hbd := smallP_bd hz 8 (Nat.le_refl _)
    rw [croftlaw11_OraclePages.l0, if_neg (by decide), sMay_f k hb0 hb, Option.bind_some]
    refine pg_l2 hb0 hb hw hl hz hzw hbd z.length (k + 1) 0 _ _ (by omega) (by omega) ?_ (fun _ => ?_)
    · unfold goodTo
      rw [List.take_zero]; simp
    · rw [List.take_zero, bigP, Int.add_zero]; rfl
  | succ d ih =>
    intro k j hj hk
    obtain ⟨k, rfl⟩ : ∃ m, k = m + 1 := ⟨k - 1, by omega⟩
    rw [show (d + 1) * (z.length + 2) = d * (z.length + 2) + (z.length + 2) from Nat.succ_mul ..] at hk
    have hbd := smallP_bd hz j (by omega)
    rw [croftlaw11_OraclePages.l0, if_pos (by omega)]
    have h := pg_l1 (base := base) (limit := limit) (order := order) (n := n) (r := r) (dn := dn) (l := l) (z := z) (P := sumR (fun k => pagesFor (cnt z (sz8 k) : Int) (sz8 k)) j) (k0 := j) (K := l.length * (l.length + 2) + l.length + 11 + 2 * z.length + d * (z.length + 2)) (by omega) hz (by omega) (fun k hk => ih k (j + 1) (by omega) (by omega)) z.length k 0 (by omega) (by omega)
    rw [List.take_zero] at h
    exact h
theorem pages_f (hb0 : 0 ≤ base) (hb : base < 18446744073709551616) (hw : Wd49 l) (hl : l.length ≤ 8796093021952) (hz : z.length ≤ 17592186043904) (hzw : ∀ x ∈ z, 0 ≤ x ∧ x < 18446744073709551616) :
    croftlaw11_OraclePages.f (pgRounds l.length z.length) base limit order n l r dn z = some true := by
  unfold croftlaw11_OraclePages.f
  rw [awake_ge (by unfold pgRounds; omega), Option.bind_some, if_pos rfl]
  unfold croftlaw11_config.f
  rw [Option.bind_some]
  exact pg_l0 hb0 hb hw hl hz hzw 8 (pgRounds l.length z.length) 0 rfl (by unfold pgRounds; omega)
end
end Go.Proofs.Ytihfblnjgaalcaa.OX
