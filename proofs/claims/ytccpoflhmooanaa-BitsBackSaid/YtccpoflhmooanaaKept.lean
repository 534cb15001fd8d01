/- BitsKept, walked. -/
import Derived.Test.YtccpoflhmooanaaSetF
import Derived.Test.YtccpoflhmooanaaAwake
import Derived.Test.YtccpoflhmooanaaApp
namespace Go.Proofs.Ytccpoflhmooanaa.Kept
open Go.RowKit Go.Proofs.YtccpoflhmooanaaW.PrintWords Go.Proofs.YtccpoflhmooanaaW.PrintLast Go.Proofs.YtccpoflhmooanaaW.PrintMore Go.Proofs.Ytccpoflhmooanaa.Nums Go.Proofs.Ytccpoflhmooanaa.Sets Go.Proofs.Ytccpoflhmooanaa.SetF Go.Proofs.Ytccpoflhmooanaa.Mem
set_option linter.unusedVariables false
set_option linter.unusedSimpArgs false

/-- The document's words of a list and a length: what both calls together come to. -/
theorem refOf_c {l : List Int} (hw : Wd l) (n : Int) (m : Nat) (hm : fitN n = m) {w : World} {A : Option Addr} {c : Nat} (hC : (Kd.int .u64).C w A l.length l) (hc : l.length ≤ c) :
    Calls Try.prog 20 #[.slice A l.length c, .int .i64 n] w fun e w' => ∃ A' c', e = .returned (.slice A' (tbl m (bitN l)).length c') ∧ (tbl m (bitN l)).length ≤ c' ∧ Kd.bool.C w' A' (tbl m (bitN l)).length (tbl m (bitN l)) ∧ Below w.heap.size w w' := by
  refine (Go.Proofs.Ytccpoflhmooanaa.R.croftref1_Of.calls 1048800 A c l n _ w hC hc (refOf hw n m hm _ (by omega))).mono ?_
  rintro e w' ⟨v, rfl, hr, hb⟩
  obtain ⟨A', c', rfl, hle, hC'⟩ := Kd.R_reads hr
  exact ⟨A', c', rfl, hle, hC', hb⟩
theorem refWords_c {t : List Bool} (ht : t.length ≤ 1048576) {w : World} {A : Option Addr} {c : Nat} (hC : Kd.bool.C w A t.length t) (hc : t.length ≤ c) :
    Calls Try.prog 19 #[.slice A t.length c] w fun e w' => ∃ A' c', e = .returned (.slice A' (wordsOf t).length c') ∧ (Kd.int .u64).R 22 w' w.heap.size (fun _ => True) (.slice A' (wordsOf t).length c') (wordsOf t) ∧ Below w.heap.size w w' := by
  refine (Go.Proofs.Ytccpoflhmooanaa.R.croftref1_Words.calls 1048800 A c t _ w hC hc (refWords t ht _ (by omega))).mono ?_
  rintro e w' ⟨v, rfl, hr, hb⟩
  obtain ⟨A', c', rfl, hle, hC'⟩ := Kd.R_reads hr
  exact ⟨A', c', rfl, hr, hb⟩
theorem same_c (l : List Int) (hl : l.length ≤ 1048576) {w : World} {A A' : Option Addr} {c c' : Nat} (hC : (Kd.int .u64).C w A l.length l) (hc : l.length ≤ c) (hC' : (Kd.int .u64).C w A' l.length l) (hc' : l.length ≤ c') :
    Calls Try.prog 21 #[.slice A l.length c, .slice A' l.length c'] w fun e w' => e = .returned (.bool true) ∧ Drawn0 w w' :=
  Go.Proofs.Ytccpoflhmooanaa.R.croftref1_Same.calls 1048800 A c l A' c' l true w hC hc hC' hc' (by rw [refSame l l hl _ (by omega)]; simp)

/-- What stands beside the first answer. -/
def Rest (Fa : Nat → Prop) (w : World) (b : Nat) (n : Int) (ws : List Int) (vb vw : Value) : Prop :=
  SetR (fun k => ¬ Fa k) w b n ws ∧ (Kd.int .u64).R 22 w 0 (fun k => ¬ Fa k) vb ws ∧ (Kd.int .u64).R 22 w 0 (fun k => ¬ Fa k) vw ws
theorem Rest.upd {Fa : Nat → Prop} {w w' : World} {b : Nat} {n : Int} {ws : List Int} {vb vw : Value} (h : Rest Fa w b n ws vb vw) (hu : Upd Fa w w') : Rest Fa w' b n ws vb vw :=
  ⟨h.1.upd hu (fun _ h => h), hu.row h.2.1 (fun _ h => h), hu.row h.2.2 (fun _ h => h)⟩

theorem rest_made {w1 w2 w3 w4 w5 w6 : World} {b : Nat} {n : Int} {ws : List Int} {va vb vw : Value} (h2 : SetR (New w1) w2 b n ws) (ha : (Kd.int .u64).R 22 w3 w2.heap.size (fun _ => True) va ws) (b3 : Below w2.heap.size w2 w3)
    (hb : (Kd.int .u64).R 22 w4 w3.heap.size (fun _ => True) vb ws) (b4 : Below w3.heap.size w3 w4) (b5 : Below w4.heap.size w4 w5) (hw : (Kd.int .u64).R 22 w6 w5.heap.size (fun _ => True) vw ws) (b6 : Below w5.heap.size w5 w6) :
    (Kd.int .u64).R 22 w6 0 (fun k => va.ownBlock = some k ∧ w1.heap.size ≤ k) va ws ∧ Rest (fun k => va.ownBlock = some k) w6 b n ws vb vw := by
  have s3 := b3.size
  have s4 := b4.size
  have s5 := b5.size
  have a1 := Kd.R_lt ha
  have a2 := Kd.R_base ha
  have hS := h2.2.2.2.2
  have b36 : Below w3.heap.size w3 w6 := (b4.trans (b5.mono (by omega))).trans (b6.mono (by omega))
  have b26 : Below w2.heap.size w2 w6 := b3.trans (b36.mono s3)
  have b46 : Below w4.heap.size w4 w6 := b5.trans (b6.mono s5)
  have l1 : w1.heap.size ≤ w2.heap.size := by
    have hb1 := h2.1
    obtain ⟨v, h5, -⟩ := hS
    have := blk_lt h5
    unfold New at hb1; omega
  refine ⟨?_, ?_, ?_, ?_⟩
  · have := Kd.R_below ha b36
    exact Kd.R_lower (row_ok this (fun k hk => ⟨hk, by have := a2 k hk; omega⟩)) (Nat.zero_le _)
  · exact (h2.bound.step (fun k hk _ => b26.block k hk.2)).mono (fun k hk he => by have := a2 k he; have := hk.2; omega)
  · have h := Kd.R_below hb b46
    have l := Kd.R_base hb
    exact Kd.R_lower (row_ok h (fun k hk he => by have := a1 k he; have := l k hk; omega)) (Nat.zero_le _)
  · have l := Kd.R_base hw
    exact Kd.R_lower (row_ok hw (fun k hk he => by have := a1 k he; have := l k hk; omega)) (Nat.zero_le _)

theorem fill_set (ws : List Int) (k : Nat) (hk : k < ws.length) : (List.replicate k (77 : Int) ++ ws.drop k).set k 77 = List.replicate (k + 1) 77 ++ ws.drop (k + 1) := by
  apply List.ext_getElem?
  intro i
  rw [List.getElem?_set]
  simp only [List.getElem?_append, List.length_replicate, List.getElem?_replicate, List.getElem?_drop, List.length_append, List.length_drop]
  by_cases h1 : k = i
  · subst h1
    simp; omega
  · rw [if_neg h1]
    by_cases h2 : i < k
    · simp [h2, show i < k + 1 by omega]
    · rw [if_neg h2, if_neg (by omega)]
      congr 1; omega
theorem fill_len (ws : List Int) (k : Nat) (hk : k ≤ ws.length) : (List.replicate k (77 : Int) ++ ws.drop k).length = ws.length := by simp; omega
/-- The first answer's row while it is written over. -/
def RowA (wr : World) (B : Nat) (Aa : Option Addr) (L ca : Nat) (xs : List Int) : Prop :=
  (Kd.int .u64).R 22 wr 0 (fun k => Value.ownBlock (.slice Aa L ca) = some k ∧ B ≤ k) (.slice Aa L ca) xs
theorem RowA.at_ {wr : World} {B : Nat} {Aa : Option Addr} {L ca : Nat} {xs : List Int} (h : RowA wr B Aa L ca xs) (hl : xs.length = L) (k : Nat) (hk : k < L) : ∃ ga, Aa = some ⟨ga, 0, none⟩ ∧ wr.cell? ⟨ga, k, none⟩ = some (.int .u64 (xs.getD k 0)) ∧ wr.frozen? ⟨ga, k, none⟩ = false ∧
    ∀ x : Int, RowA (wr.setCell ⟨ga, k, none⟩ (.int .u64 x)) B Aa L ca (xs.set k x) ∧ Upd (fun k => Value.ownBlock (.slice Aa L ca) = some k) wr (wr.setCell ⟨ga, k, none⟩ (.int .u64 x)) := by
  subst hl
  obtain ⟨ga, cap, e, -, -, -⟩ := Kd.R_form h (by omega)
  injection e with e1 e2 e3
  subst e1
  obtain ⟨c1, c2⟩ := Kd.R_cell 0 h (k : Int) (by omega) (by omega)
  refine ⟨ga, rfl, c1, c2, fun x => ?_⟩
  obtain ⟨p1, p2⟩ := Kd.R_put h (k : Int) x
  refine ⟨p1, ?_⟩
  have := (Upd.refl (fun k => Value.ownBlock (.slice (some ⟨ga, 0, none⟩) xs.length ca) = some k) wr).grown p2 (fun q hq => by injection hq with hq; exact .inl (by simp [Value.ownBlock, hq]))
  exact this
theorem C_block {w w' : World} {g L : Nat} {xs : List Int} (h : (Kd.int .u64).C w (some ⟨g, 0, none⟩) L xs) (hb : g < w.heap.size → w'.heap[g]? = w.heap[g]?) : (Kd.int .u64).C w' (some ⟨g, 0, none⟩) L xs := by
  have hr := Kd.reads_of_C (enc := Value.int .u64) (d := (0 : Int)) h
  refine Kd.C_of_reads (enc := Value.int .u64) (d := (0 : Int)) ⟨hr.1, hr.2.1, fun hL => ?_⟩
  obtain ⟨ad, e, hc⟩ := hr.2.2 hL
  injection e with e
  subst e
  refine ⟨_, rfl, fun j hj => ?_⟩
  have h1 := hc j hj
  rw [add_at] at h1 ⊢
  exact (World.cell?_of_block (hb (World.block_lt_of_cell? w _ h1))).trans h1
theorem keep_C {W w' : World} {Aa A' : Option Addr} {L c' : Nat} {l0 xs : List Int} {ok : Nat → Prop} (hA : L = 0 ∨ ∃ ga, Aa = some ⟨ga, 0, none⟩) (hc : (Kd.int .u64).C W Aa L l0) (hR : (Kd.int .u64).R 22 W 0 ok (.slice A' xs.length c') xs)
    (hL : L ≤ xs.length) (ht : xs.take L = l0) (hg : W.grownBy w' (Value.ownBlock (.slice A' xs.length c'))) (hC : (Kd.int .u64).C w' A' xs.length xs) : (Kd.int .u64).C w' Aa L l0 := by
  rcases hA with h0 | ⟨ga, rfl⟩
  · subst h0
    exact ⟨hc.1, hc.2.1, fun h => absurd h (by omega)⟩
  · by_cases h0 : L = 0
    · subst h0
      exact ⟨hc.1, hc.2.1, fun h => absurd h (by omega)⟩
    · obtain ⟨g', cap, e, -, -, -⟩ := Kd.R_form hR (by omega)
      injection e with e1 e2 e3
      subst e1
      by_cases hgg : ga = g'
      · subst hgg
        have := ReadsOf.take_ (Kd.reads_of_C (enc := Value.int .u64) (d := (0 : Int)) hC) L hL
        rw [ht] at this
        exact Kd.C_of_reads (enc := Value.int .u64) (d := (0 : Int)) this
      · exact C_block hc (fun hlt => hg.block ga hlt (by simp [Value.ownBlock, hgg]))
theorem new_cell (w : World) (x : Int) : (w.alloc (.cells #[.int .u64 x] 22)).cell? ⟨w.heap.size, 0, none⟩ = some (.int .u64 x) := blk_cell (blk_new w _) 0
theorem fresh_ok {F G : Nat → Prop} {w6 wr : World} (h : Upd F w6 wr) (q : Nat) {o : Obj} (hq : (wr.alloc o).heap.size ≤ q) : Or G w6 q := by
  have := h.size
  simp at hq
  exact .inr (by omega)
theorem upd_app {F : Nat → Prop} {B : Nat} {w6 wr w2 : World} {v : Value} {xs : List Int} {o : Obj} (h : Upd F w6 wr) (hR : (Kd.int .u64).R 22 wr 0 (Or (fun k => F k ∧ B ≤ k) w6) v xs) (hg : (wr.alloc o).grownBy w2 v.ownBlock) : Upd F w6 w2 :=
  (h.alloc o).grown hg (fun k hk => (hR.1 k hk).imp (fun h => h.1) id)
theorem set_drewN {F : Nat → Prop} {w : World} {b : Nat} {n : Int} {ws : List Int} (h : SetR F w b n ws) (k : Nat) : SetR F (w.drewN k) b n ws := h.step (fun _ _ _ => rfl)
theorem read77 {w : World} {g L : Nat} (h : (Kd.int .u64).C w (some ⟨g, 0, none⟩) L (List.replicate L 77)) (k : Nat) (hk : k < L) : w.cell? ⟨g, k, none⟩ = some (.int .u64 77) := by
  obtain ⟨ad, e, hc⟩ := Kd.at_int h (k : Int) (by omega) (by omega)
  injection e with e
  subst e
  rw [Int.toNat_natCast, add_at, Nat.zero_add] at hc
  rw [hc]
  unfold rd
  rw [Int.toNat_natCast, List.getD_eq_getElem?_getD, List.getElem?_replicate, if_pos hk]; rfl
theorem info_u64 : (Try.prog.info? 22).map (fun i => (i.zero, i.size, i.bytes)) = some (some (.int .u64 0), 1, 8) := Go.Proofs.Ytccpoflhmooanaa.R.info22
set_option maxHeartbeats 4000000 in
set_option maxRecDepth 100000 in
theorem kept_calls {l : List Int} (hw : Wd l) (n : Int) (w : World) {A : Option Addr} {c : Nat} (hC : (Kd.int .u64).C w A l.length l) (hc : l.length ≤ c) :
    Calls Try.prog 4 #[.slice A l.length c, .int .i64 n] w fun e w' => e = .returned (.bool true) ∧ Below w.heap.size w w' := by
  obtain ⟨m, hm, hm2⟩ := fitN_nat n
  have hws := ref_words_of hw n m hm
  have hlen : (ofW l n).length ≤ 16384 := by rw [ofW_length]; unfold wdsN; omega
  have htl : (tbl m (bitN l)).length ≤ 1048576 := by rw [tbl_length]; exact hm2
  have HW := Lib.hid hw
  have HM := Lib.hid hm
  have HC := Lib.hid hC
  have HWS := Lib.hid hws
  have HTL := Lib.hid htl
  have Hc := Lib.hid hc
  clear hw hm hC hws htl hm2 hc
  go_enter Try.func4, Try.ntmps4
  go_wp2_with (first
    | (go_at_call 16; refine (awake_calls _).mono ?_; rintro e w1 ⟨rfl, hb1⟩)
    | (go_at_call 17; refine (Of_calls n (Kd.C_below HC.out hb1) HW.out).mono ?_; rintro e w2 ⟨b, rfl, hs2, hu2⟩; have hb2 := hb1.trans (hu2.fresh.mono hb1.size))
    | (go_at_call 20; refine (refOf_c HW.out n m HM.out (Kd.C_below HC.out hb4) Hc.out).mono ?_; rintro e w5 ⟨At, ct, rfl, lt, hCt, hu5⟩)
    | (go_at_call 19; refine (refWords_c HTL.out hCt lt).mono ?_; rintro e w6 ⟨Aw, cw, rfl, hRw, hu6⟩; rw [HWS.out] at hRw ⊢; obtain ⟨hA6, hR6⟩ := rest_made HS2.out hRa hu3 hRb hu4 hu5 hRw hu6; have hb6 := hb4.trans ((hu5.mono hb4.size).trans (hu6.mono (Nat.le_trans hb4.size hu5.size))); have lw := (Kd.R_reads' hRw).2.1; have CA := Lib.hid (Kd.R_reads' hA6).2.2; have CB := Lib.hid (Kd.R_reads' hR6.2.1).2.2; have CW := Lib.hid (Kd.R_reads' hR6.2.2).2.2)
    | (go_at_call 18; refine (Words_calls hs2).mono ?_; rintro e w3 ⟨va, rfl, hRa, hu3⟩; obtain ⟨Aa, ca, rfl, hla, hCa⟩ := Kd.R_reads hRa; have hb3 := hb2.trans (hu3.mono hb2.size); have hs3 := hs2.upd (Upd.of_below (F := No) hu3) (fun _ _ h => h); have tok : True := trivial; have HS2 := Lib.hid hs2; clear hs2)
    | (go_at_call 18; have _t := tok; refine (Words_calls hs3).mono ?_; rintro e w4 ⟨vb, rfl, hRb, hu4⟩; obtain ⟨Ab, cb, rfl, hlb, hCb⟩ := Kd.R_reads hRb; have hb4 := hb3.trans (hu4.mono hb3.size); clear tok)
    | (go_at_call 21; (with_reducible refine (same_c (ofW l n) (by omega) CA.out hla CW.out lw).mono ?_); rintro e w7 ⟨rfl, ⟨n7, rfl⟩⟩)
    | (go_at_call 21; (with_reducible refine (same_c (ofW l n) (by omega) (Kd.C_drewN CB.out _) hlb (Kd.C_drewN CW.out _) lw).mono ?_); rintro e w8 ⟨rfl, ⟨n8, rfl⟩⟩))
  generalize ofW l n = ws at *
  go_loopw [9] (fun i wr => ∃ k : Nat, k ≤ ws.length ∧ i = .int .i64 k ∧ Aside0 (RowA wr w1.heap.size Aa ws.length ca (List.replicate k 77 ++ ws.drop k)) ∧ Aside0 (Upd (fun k => Value.ownBlock (.slice Aa ws.length ca) = some k) w6 wr)) (fun i _ => ws.length - (intOf i).toNat)
  case atStart => exact ⟨0, by omega, rfl, ⟨by rw [List.replicate_zero, List.nil_append, List.drop_zero]; exact Kd.R_drewN hA6 _⟩, ⟨(Upd.refl _ _).drewN _⟩⟩
  case round =>
    obtain ⟨k, hk, rfl, hrow, hupd⟩ := hrel
    by_cases hlt : k < ws.length
    · obtain ⟨ga, rfl, c1, c2, hput⟩ := hrow.out.at_ (fill_len ws k hk) k hlt
      have HP := Lib.hid (hput 77)
      clear hput
      go_wp2
      go_roundw
      case rel => exact ⟨k + 1, by omega, by go_num, ⟨by rw [← fill_set ws k hlt]; exact HP.out.1⟩, ⟨hupd.out.trans HP.out.2 (fun _ h _ => h)⟩⟩
      case measure => simp [intOf]; omega
    · obtain rfl : k = ws.length := by omega
      have hrow1 := hrow.out
      rw [List.drop_length, List.append_nil] at hrow1
      have HFa : Hid (ws.length = 0 ∨ ∃ ga, Aa = some ⟨ga, 0, none⟩) := by
        by_cases h0 : ws.length = 0
        · exact Or.inl h0
        · obtain ⟨ga, cap, e, -, -, -⟩ := Kd.R_form hrow1 (by simp; omega)
          injection e with e1 e2 e3
          exact Or.inr ⟨ga, e1⟩
      have HR1 := Lib.hid hrow1
      have HU1 := Lib.hid hupd.out
      clear hrow hrow1 hupd
      go_wp2_with fail
      obtain ⟨wo, rfl⟩ : ∃ wo : World, wo = wr := ⟨_, rfl⟩
      go_loopw [10, 11, 50, 51, 52] (fun g i s1 s2 s3 wr => ∃ j : Nat, j ≤ 5 ∧ i = .int .i64 j ∧ ∃ (A' : Option Addr) (c' : Nat), g = .slice A' (List.replicate (ws.length + j) (77 : Int)).length c' ∧
          Aside0 ((Kd.int .u64).R 22 wr 0 (Or (fun k => Value.ownBlock (.slice Aa ws.length ca) = some k ∧ w1.heap.size ≤ k) w6) (.slice A' (List.replicate (ws.length + j) (77 : Int)).length c') (List.replicate (ws.length + j) 77)) ∧
          Aside0 ((Kd.int .u64).C wr Aa ws.length (List.replicate ws.length 77)) ∧ Aside0 (Upd (fun k => Value.ownBlock (.slice Aa ws.length ca) = some k) w6 wr)) (fun g i _ _ _ _ => 5 - (intOf i).toNat)
      case atStart =>
        have e0 : (List.replicate (ws.length + 0) (77 : Int)).length = ws.length := by simp
        refine ⟨0, by omega, rfl, Aa, ca, by rw [e0], ⟨?_⟩, ⟨?_⟩, ⟨HU1.out⟩⟩
        · rw [e0]; exact Kd.R_mono HR1.out (fun q hq => .inl hq)
        · have := (Kd.R_reads' HR1.out).2.2
          rwa [List.length_replicate] at this
      case round =>
        obtain ⟨j, hj, rfl, A', c', rfl, hRg, hCa, hupd⟩ := hrel
        by_cases hlt2 : j < 5
        · go_wp2_with ((with_reducible refine gate_dst (N := 52) rfl ?_); refine append_keeps (enc := Value.int .u64) (h1 := fun _ => rfl) (0 : Int) _ rfl _ _ 29 22 (.int .u64 0) 8 rfl Try.underlying29 info_u64 rfl A' c' (List.replicate (ws.length + j) 77) 77 (Or (fun k => Value.ownBlock (.slice Aa ws.length ca) = some k ∧ w1.heap.size ≤ k) w6) rfl _ 1 rfl (new_cell _ 77) (Kd.R_alloc hRg.out _) (fun q hq => fresh_ok hupd.out q hq) (by simp; omega) (by simp [maxLen]; omega) ?_; intro A2 c2 w2 hR2 hg2 hC2)
          have e2 : List.replicate (ws.length + j) (77 : Int) ++ [77] = List.replicate (ws.length + (j + 1)) 77 := by rw [← List.replicate_succ']; rfl
          rw [e2] at hR2
          have HR2 := Lib.hid hR2
          have HC2 := Lib.hid (keep_C HFa.out (Kd.C_alloc hCa.out _) (Kd.R_alloc hRg.out _) (by simp) (by simp) hg2 hC2)
          have HU2 := Lib.hid (upd_app hupd.out hRg.out hg2)
          clear hR2 hg2 hC2
          exact ⟨⟨j + 1, by omega, by go_num, A2, c2, by simp [Nat.add_assoc], ⟨HR2.out⟩, ⟨HC2.out⟩, ⟨HU2.out⟩⟩, by simp [intOf]; omega⟩
        · obtain rfl : j = 5 := by omega
          have hr := hR6.upd hupd.out
          have CB2 := Lib.hid (Kd.R_reads' hr.2.1).2.2
          have CW2 := Lib.hid (Kd.R_reads' hr.2.2).2.2
          have HS6 := Lib.hid hr.1
          have HU2 := Lib.hid hupd.out
          have CA2 := Lib.hid hCa.out
          clear hr hupd hCa hRg
          go_wp2_with (first
            | (go_at_call 21; (with_reducible refine (same_c ws (by omega) CB2.out hlb CW2.out lw).mono ?_); rintro e w7 ⟨rfl, ⟨n9, rfl⟩⟩)
            | (go_at_call 18; refine (Words_calls (set_drewN HS6.out n9)).mono ?_; rintro e wz ⟨vz, rfl, hRz, hbz⟩; obtain ⟨Az, cz, rfl, hlz, hCz⟩ := Kd.R_reads hRz)
            | (go_at_call 21; (with_reducible refine (same_c ws (by omega) hCz hlz (Kd.C_below (Kd.C_drewN CW2.out _) hbz) lw).mono ?_); rintro e w8 ⟨rfl, ⟨n10, rfl⟩⟩))
          have hbt := Upd.below_trans hb6 HU2.out (fun q hq => Nat.le_trans hb1.size (HR1.out.1 q hq).2) hb6.size
          have HB := Lib.hid (pw_below_drewN ((pw_below_drewN hbt n9).trans (hbz.mono (Nat.le_trans hbt.size (Nat.le_refl _)))) n10)
          have HCz := Lib.hid (Kd.C_drewN (Kd.C_below (Kd.C_drewN CA2.out n9) hbz) n10)
          clear hbt
          go_loop [12] (fun i => ∃ k : Nat, k ≤ ws.length ∧ i = .int .i64 k) (fun i => ws.length - (intOf i).toNat)
          case atStart => exact ⟨0, by omega, rfl⟩
          case round =>
            obtain ⟨k, hk3, rfl⟩ := hrel
            by_cases hlt3 : k < ws.length
            · obtain ⟨ga, rfl⟩ : ∃ ga, Aa = some ⟨ga, 0, none⟩ := by
                rcases HFa.out with h | h
                · omega
                · exact h
              have c77 := read77 HCz.out k hlt3
              go_wp2
              go_round
              case rel => exact ⟨k + 1, by omega, by go_num⟩
              case measure => simp [intOf]; omega
            · go_wp2
              go_ret
              exact ⟨rfl, HB.out⟩

theorem wd_wf {l : List Int} (h : ∀ x ∈ l, (Lit.int .u64 x).wf = true) : Wd l := by
  intro i
  by_cases hi : i < l.length
  · rw [List.getD_eq_getElem?_getD, List.getElem?_eq_getElem hi]
    have := bounds_u64 (h _ (List.getElem_mem hi))
    exact ⟨this.1, by simp only [Option.getD_some]; omega⟩
  · rw [List.getD_eq_getElem?_getD, List.getElem?_eq_none (by omega)]; simp
theorem kept_walk (a0 : Option Addr) (len0 cap0 : Nat) (z0 : List Int) (a1 : Int) (w : World)
    (w0 : (a0 = none ∧ len0 = 0 ∧ cap0 = 0 ∧ z0 = []) ∨ ∃ x, a0 = some x ∧ len0 ≤ cap0 ∧ cap0 ≤ maxLen ∧ z0.length = cap0 ∧ (∀ i, i < z0.length → w.cell? (x.add i) = some (.int .u64 (z0.getD i 0))) ∧ ∀ n ∈ z0, (Lit.int .u64 n).wf = true) :
    Calls Try.prog 4 #[.slice a0 len0 cap0, .int .i64 a1] w fun e w' => e = .returned (.bool true) ∧ Below w.heap.size w w' := by
  obtain ⟨l0, rfl, hr0, hm0, hw0, hc0⟩ := ReadsInt.ofRowC w0
  exact kept_calls (wd_wf hw0) a1 w (Kd.C_of_reads (d := (0 : Int)) (h1 := fun _ => rfl) hr0) hc0

end Go.Proofs.Ytccpoflhmooanaa.Kept
