/- More of the document's functions on lists of truths: what they come to (plain), and their contracts. -/
import Derived.Test.YtccpoflhmooanaaDoorSet2
import Derived.Test.YtccpoflhmooanaaDoorRefC
import Derived.Test.YtccpoflhmooanaaDoorApp
namespace Go.Proofs.YtccpoflhmooanaaDoor.Ref2
open Go.RowKit Go.Proofs.YtccpoflhmooanaaDoorW.PrintWords Go.Proofs.YtccpoflhmooanaaDoorW.PrintLast Go.Proofs.YtccpoflhmooanaaDoorW.PrintMore Go.Proofs.YtccpoflhmooanaaDoor.Nums Go.Proofs.YtccpoflhmooanaaDoor.NumF Go.Proofs.YtccpoflhmooanaaDoor.Sets Go.Proofs.YtccpoflhmooanaaDoor.SetF Go.Proofs.YtccpoflhmooanaaDoor.Mem Go.Proofs.YtccpoflhmooanaaDoor.Kept Go.Proofs.YtccpoflhmooanaaDoor.Tz Go.Proofs.YtccpoflhmooanaaDoor.R
set_option linter.unusedVariables false
set_option linter.unusedSimpArgs false

theorem rd_tbl (m : Nat) (f : Nat → Bool) (i : Nat) (hi : i < m) : rdOf false (tbl m f) (i : Int) = f i := by
  unfold rdOf; rw [Int.toNat_natCast]; exact tbl_get m f i hi
/-- Get's answer. -/
def inT (m : Nat) (f : Nat → Bool) (i : Int) : Bool := decide (0 ≤ i) && (decide (i < (m : Int)) && f i.toNat)
theorem refGet (m : Nat) (f : Nat → Bool) (i : Int) : croftref1_Get.f (tbl m f) i = some (inT m f i) := by
  unfold croftref1_Get.f inT
  rw [tbl_length]
  by_cases h : i ≥ 0
  · rw [if_pos h]
    obtain ⟨j, rfl⟩ := Int.eq_ofNat_of_zero_le h
    by_cases h2 : (j : Int) < (m : Int)
    · rw [if_pos h2, if_pos h, rd_tbl m f j (by omega)]
      simp [h2]
    · rw [if_neg h2]; simp [h2]
  · rw [if_neg h]; simp; omega
theorem refPut_in (m : Nat) (f : Nat → Bool) (i : Nat) (hi : i < m) (v : Bool) : croftref1_Put.f (tbl m f) (i : Int) v = some ((tbl m f).set i v, true) := by
  unfold croftref1_Put.f
  rw [tbl_length, if_neg (by omega), if_neg (by omega), if_pos (by omega), if_pos (by omega), Int.toNat_natCast]
theorem refPut_out (m : Nat) (f : Nat → Bool) (i : Int) (hi : ¬ (0 ≤ i ∧ i < (m : Int))) (v : Bool) : croftref1_Put.f (tbl m f) i v = some (tbl m f, false) := by
  unfold croftref1_Put.f
  rw [tbl_length]
  by_cases h : i < 0
  · rw [if_pos h]
  · rw [if_neg h, if_pos (by omega)]
theorem refNext_tells (m : Nat) (hm : m ≤ 1048576) (f : Nat → Bool) (d : Nat) : ∀ (k i : Nat), m - i = d → d + 1 < k → croftref1_Next.l0 k (tbl m f) (i : Int) = some (nxt f m i) := by
  induction d with
  | zero =>
    intro k i hd hk
    obtain ⟨k, rfl⟩ : ∃ q, k = q + 1 := ⟨k - 1, by omega⟩
    simp only [croftref1_Next.l0]
    rw [tbl_length, if_neg (by omega), nxt_end _ _ _ (by omega)]
  | succ d ih =>
    intro k i hd hk
    obtain ⟨k, rfl⟩ : ∃ q, k = q + 1 := ⟨k - 1, by omega⟩
    simp only [croftref1_Next.l0]
    rw [tbl_length, if_pos (by omega), if_pos (by omega), rd_tbl m f i (by omega)]
    cases hf : f i with
    | true => rw [if_pos rfl, nxt_hit f m i (by omega) hf]
    | false =>
      rw [if_neg (by simp), nxt_step f m i hf, wrap64_id (by omega)]
      exact ih k (i + 1) (by omega) (by omega)
theorem refNext (m : Nat) (hm : m ≤ 1048576) (f : Nat → Bool) (i : Int) (k : Nat) (hk : 1048700 < k) : croftref1_Next.f k (tbl m f) i = some (nxt f m i.toNat) := by
  unfold croftref1_Next.f
  obtain ⟨k, rfl⟩ : ∃ q, k = q + 1 := ⟨k - 1, by omega⟩
  have h := refNext_tells m hm f (m - i.toNat) k i.toNat rfl (by omega)
  by_cases h0 : i < 0
  · rw [if_pos h0]
    simp only [croftref1_Next.j0]
    rw [show i.toNat = 0 by omega] at h ⊢
    exact h
  · rw [if_neg h0]
    simp only [croftref1_Next.j0]
    rw [show ((i.toNat : Nat) : Int) = i by omega] at h
    exact h
theorem refSize_tells (m : Nat) (hm : m ≤ 1048576) (f : Nat → Bool) (d : Nat) : ∀ (k i : Nat), i + d = m → d + 1 < k → croftref1_Size.l0 k (tbl m f) (cn f i : Int) (i : Int) = some (cn f m : Int) := by
  induction d with
  | zero =>
    intro k i hd hk
    obtain ⟨k, rfl⟩ : ∃ q, k = q + 1 := ⟨k - 1, by omega⟩
    simp only [croftref1_Size.l0]
    rw [tbl_length, if_neg (by omega), show i = m by omega]
  | succ d ih =>
    intro k i hd hk
    obtain ⟨k, rfl⟩ : ∃ q, k = q + 1 := ⟨k - 1, by omega⟩
    simp only [croftref1_Size.l0]
    rw [tbl_length, if_pos (by omega), if_pos (by omega), rd_tbl m f i (by omega)]
    have hl := cn_le f i
    have h := ih k (i + 1) (by omega) (by omega)
    have e1 : wrap64 ((i : Int) + 1) = ((i + 1 : Nat) : Int) := wrap64_id (by omega)
    rw [e1]
    cases hf : f i with
    | true =>
      rw [if_pos rfl]
      have e2 : wrap64 ((cn f i : Int) + 1) = (cn f (i + 1) : Int) := by
        rw [cn, hf, if_pos rfl]; unfold wrap64; omega
      rw [e2]; exact h
    | false =>
      rw [if_neg (by simp)]
      have e2 : cn f (i + 1) = cn f i := by rw [cn, hf, if_neg (by simp)]; rfl
      rw [e2] at h; exact h
theorem refSize (m : Nat) (hm : m ≤ 1048576) (f : Nat → Bool) (k : Nat) (hk : 1048700 < k) : croftref1_Size.f k (tbl m f) = some (cn f m : Int) := by
  unfold croftref1_Size.f
  exact refSize_tells m hm f m k 0 (by omega) (by omega)
/-- What a resized set holds. -/
def cutB (m : Nat) (f : Nat → Bool) (j : Nat) : Bool := decide (j < m) && f j
theorem refResize_tells (m : Nat) (hm : m ≤ 1048576) (f : Nat → Bool) (M : Nat) (hM : M ≤ 1048576) (d : Nat) : ∀ (k i : Nat) (t : List Bool), i + d = M → t.length = M → (∀ j, j < M → t.getD j false = if j < i then cutB m f j else false) → d + 1 < k →
    croftref1_Resize.l0 k (tbl m f) t (i : Int) = some (tbl M (cutB m f)) := by
  induction d with
  | zero =>
    intro k i t hi hl ht hk
    obtain ⟨k, rfl⟩ : ∃ q, k = q + 1 := ⟨k - 1, by omega⟩
    simp only [croftref1_Resize.l0]; rw [if_neg (by omega)]
    congr 1
    exact tbl_ext hl (fun j hj => by rw [ht j hj, if_pos (by omega)])
  | succ d ih =>
    intro k i t hi hl ht hk
    obtain ⟨k, rfl⟩ : ∃ q, k = q + 1 := ⟨k - 1, by omega⟩
    simp only [croftref1_Resize.l0]; rw [if_pos (by omega), tbl_length]
    by_cases hlen : i < m
    · rw [if_pos (by omega), if_pos (by omega), rd_tbl m f i hlen, wrap64_id (by omega), Int.toNat_natCast]
      refine ih k (i + 1) _ (by omega) (by simpa using hl) (fun j hj => ?_) (by omega)
      simp only [List.getD_eq_getElem?_getD, List.getElem?_set]
      by_cases e : i = j
      · subst e
        rw [if_pos rfl, if_pos (by omega), if_pos (by omega)]
        unfold cutB
        simp [hlen]
      · rw [if_neg e]
        have := ht j hj
        rw [List.getD_eq_getElem?_getD] at this
        rw [this]
        by_cases h1 : j < i
        · rw [if_pos h1, if_pos (by omega)]
        · rw [if_neg h1, if_neg (by omega)]
    · rw [if_neg (by omega)]
      congr 1
      refine tbl_ext hl (fun j hj => ?_)
      rw [ht j hj]
      by_cases h1 : j < i
      · rw [if_pos h1]
      · rw [if_neg h1]; unfold cutB; rw [decide_eq_false (by omega)]; rfl
theorem refResize (m : Nat) (hm : m ≤ 1048576) (f : Nat → Bool) (n : Int) (M : Nat) (hM : fitN n = M) (k : Nat) (hk : 1048700 < k) : croftref1_Resize.f k (tbl m f) n = some (tbl M (cutB m f)) := by
  have hb := fitN_bd n
  unfold croftref1_Resize.f
  rw [refFit, hM]
  simp only [Option.bind_some]
  rw [if_pos (by omega), Int.toNat_natCast, if_pos (by omega)]
  exact refResize_tells m hm f M (by omega) M k 0 _ (by omega) (by simp) (fun j hj => by rw [if_neg (by omega), List.getD_eq_getElem?_getD, List.getElem?_replicate, if_pos hj]; rfl) (by omega)
/-- The resized words' bits are the document's. -/
theorem resize_tbl {ws : List Int} (hw : Wd ws) (m : Nat) (hc : SetF.Clean m ws) (n : Int) (M : Nat) (hM : fitN n = M) : tbl M (cutB m (bitN ws)) = tbl M (bitN (ofW ws n)) := by
  rw [ofW_tbl hw n M hM]
  apply List.map_congr_left
  intro j hj
  unfold cutB
  by_cases h : j < m
  · simp [h]
  · rw [hc j (by omega)]; simp
/-! ### contracts -/
theorem get_c {m : Nat} (f : Nat → Bool) (i : Int) {w : World} {A : Option Addr} {c : Nat} (hC : Kd.bool.C w A m (tbl m f)) (hc : m ≤ c) :
    Calls Tryd.prog 39 #[.slice A m c, .int .i64 i] w fun e w' => e = .returned (.bool (inT m f i)) ∧ Drawn0 w w' := by
  have := croftref1_Get.calls A c (tbl m f) i _ w (by rw [tbl_length]; exact hC) (by rw [tbl_length]; exact hc) (refGet m f i)
  rw [tbl_length] at this
  exact this
theorem next_c {m : Nat} (hm : m ≤ 1048576) (f : Nat → Bool) (i : Int) {w : World} {A : Option Addr} {c : Nat} (hC : Kd.bool.C w A m (tbl m f)) (hc : m ≤ c) :
    Calls Tryd.prog 40 #[.slice A m c, .int .i64 i] w fun e w' => e = .returned (.int .i64 (nxt f m i.toNat)) ∧ Drawn0 w w' := by
  have := croftref1_Next.calls 1048800 A c (tbl m f) i _ w (by rw [tbl_length]; exact hC) (by rw [tbl_length]; exact hc) (refNext m hm f i _ (by omega))
  rw [tbl_length] at this
  exact this
theorem size_c {m : Nat} (hm : m ≤ 1048576) (f : Nat → Bool) {w : World} {A : Option Addr} {c : Nat} (hC : Kd.bool.C w A m (tbl m f)) (hc : m ≤ c) :
    Calls Tryd.prog 21 #[.slice A m c] w fun e w' => e = .returned (.int .i64 (cn f m)) ∧ Drawn0 w w' := by
  have := croftref1_Size.calls 1048800 A c (tbl m f) _ w (by rw [tbl_length]; exact hC) (by rw [tbl_length]; exact hc) (refSize m hm f _ (by omega))
  rw [tbl_length] at this
  exact this
/-- A list of truths of its own, its block in G. -/
def TR (G : Nat → Prop) (w : World) (A : Option Addr) (m c : Nat) (t : List Bool) : Prop := t.length = m ∧ m ≤ c ∧ Kd.bool.R 4 w 0 G (.slice A m c) t
theorem TR.C {G : Nat → Prop} {w : World} {A : Option Addr} {m c : Nat} {t : List Bool} (h : TR G w A m c t) : Kd.bool.C w A m t := by
  obtain ⟨h1, h2, h3⟩ := h
  obtain ⟨A', c', e, h4, h5⟩ := Kd.R_reads h3
  injection e with e1 e2 e3
  subst e1
  rw [h1] at h5
  exact h5
theorem resize_c {m : Nat} (hm : m ≤ 1048576) (f : Nat → Bool) (n : Int) (M : Nat) (hM : fitN n = M) {w : World} {A : Option Addr} {c : Nat} (hC : Kd.bool.C w A m (tbl m f)) (hc : m ≤ c) :
    Calls Tryd.prog 41 #[.slice A m c, .int .i64 n] w fun e w' => ∃ A' c', e = .returned (.slice A' M c') ∧ TR (New w) w' A' M c' (tbl M (cutB m f)) ∧ Below w.heap.size w w' := by
  have := croftref1_Resize.calls 1048800 A c (tbl m f) n _ w (by rw [tbl_length]; exact hC) (by rw [tbl_length]; exact hc) (refResize m hm f n M hM _ (by omega))
  rw [tbl_length] at this
  refine this.mono ?_
  rintro e w' ⟨v, rfl, hr, hb⟩
  have hbase := Kd.R_base hr
  have hr2 : Kd.bool.R 4 w' 0 (New w) v (tbl M (cutB m f)) := Kd.R_lower (row_ok hr (fun k hk => hbase k hk)) (Nat.zero_le _)
  obtain ⟨A', c', rfl, hle, hC'⟩ := Kd.R_reads hr
  rw [tbl_length] at hr2 hle ⊢
  exact ⟨A', c', rfl, ⟨tbl_length _ _, hle, hr2⟩, hb⟩
theorem TR.upd {F G : Nat → Prop} {w w' : World} {A : Option Addr} {m c : Nat} {t : List Bool} (h : TR G w A m c t) (hu : Upd F w w') (hn : ∀ k, G k → ¬ F k) : TR G w' A m c t := ⟨h.1, h.2.1, hu.row h.2.2 hn⟩
theorem TR.mono {F G : Nat → Prop} {w : World} {A : Option Addr} {m c : Nat} {t : List Bool} (h : TR F w A m c t) (hs : ∀ k, F k → G k) : TR G w A m c t := ⟨h.1, h.2.1, Kd.R_mono h.2.2 hs⟩
theorem put_out_c {m : Nat} (i : Int) (hi : ¬ (0 ≤ i ∧ i < (m : Int))) (v : Bool) (w : World) (A : Option Addr) (c : Nat) :
    Calls Tryd.prog 38 #[.slice A m c, .int .i64 i, .bool v] w fun e w' => e = .returned (.tuple #[.slice A m c, .bool false]) ∧ w = w' := by
  by_cases h : i < 0
  · have hd : decide (i < 0) = true := decide_eq_true h
    clear hi h
    go_enter Tryd.func38, Tryd.ntmps38
    go_wp2
    go_ret2
    exact ⟨rfl, rfl⟩
  · have hd : decide (i < 0) = false := decide_eq_false h
    have hd2 : decide (i ≥ (m : Int)) = true := decide_eq_true (by omega)
    clear hi h
    go_enter Tryd.func38, Tryd.ntmps38
    go_wp2
    go_ret2
    exact ⟨rfl, rfl⟩
theorem TR.at_ {G : Nat → Prop} {w : World} {A : Option Addr} {m c : Nat} {t : List Bool} (h : TR G w A m c t) (k : Nat) (hk : k < m) : ∃ ga, A = some ⟨ga, 0, none⟩ ∧ w.cell? ⟨ga, k, none⟩ = some (.bool (t.getD k false)) ∧ w.frozen? ⟨ga, k, none⟩ = false ∧
    ∀ x : Bool, TR G (w.setCell ⟨ga, k, none⟩ (.bool x)) A m c (t.set k x) ∧ Upd G w (w.setCell ⟨ga, k, none⟩ (.bool x)) := by
  obtain ⟨h1, h2, h3⟩ := h
  subst h1
  obtain ⟨ga, cap, e, -, hg, -⟩ := Kd.R_form h3 (by omega)
  injection e with e1 e2 e3
  subst e1
  obtain ⟨c1, c2⟩ := Kd.R_cell false h3 (k : Int) (by omega) (by omega)
  refine ⟨ga, rfl, c1, c2, fun x => ?_⟩
  obtain ⟨p1, p2⟩ := Kd.R_put h3 (k : Int) x
  refine ⟨⟨List.length_set .., h2, p1⟩, ?_⟩
  exact (Upd.refl G w).grown p2 (fun q hq => by injection hq with hq; subst hq; exact .inl (h3.1 ga (by simp [Value.ownBlock])))
theorem put_in_c {G : Nat → Prop} {w : World} {A : Option Addr} {m c : Nat} {t : List Bool} (h : TR G w A m c t) (i : Nat) (hi : i < m) (v : Bool) :
    Calls Tryd.prog 38 #[.slice A m c, .int .i64 (i : Int), .bool v] w fun e w' => e = .returned (.tuple #[.slice A m c, .bool true]) ∧ TR G w' A m c (t.set i v) ∧ Upd G w w' := by
  obtain ⟨ga, rfl, c1, c2, hput⟩ := h.at_ i hi
  have HP := Lib.hid (hput v)
  have hd : decide ((i : Int) < 0) = false := decide_eq_false (by omega)
  have hd2 : decide ((i : Int) ≥ (m : Int)) = false := decide_eq_false (by omega)
  have hd3 : decide (m ≤ i) = false := decide_eq_false (by omega)
  clear hput h
  go_enter Tryd.func38, Tryd.ntmps38
  go_wp2
  go_ret2
  exact ⟨rfl, HP.out.1, HP.out.2⟩
end Go.Proofs.YtccpoflhmooanaaDoor.Ref2
