/- BitsPlays, walked: calls one after the other. -/
import Derived.Test.YtccpoflhmooanaaDoorPlayed3
import Derived.Test.YtccpoflhmooanaaDoorOfs
import Derived.Deep.Slices
import Derived.Deep.Strs
namespace Go.Proofs.YtccpoflhmooanaaDoor.Ref2
open Go.RowKit Go.Proofs.YtccpoflhmooanaaDoorW.PrintWords Go.Proofs.YtccpoflhmooanaaDoorW.PrintLast Go.Proofs.YtccpoflhmooanaaDoorW.PrintMore Go.Proofs.YtccpoflhmooanaaDoor.Nums Go.Proofs.YtccpoflhmooanaaDoor.NumF Go.Proofs.YtccpoflhmooanaaDoor.Sets Go.Proofs.YtccpoflhmooanaaDoor.SetF Go.Proofs.YtccpoflhmooanaaDoor.Mem Go.Proofs.YtccpoflhmooanaaDoor.Kept Go.Proofs.YtccpoflhmooanaaDoor.Tz Go.Proofs.YtccpoflhmooanaaDoor.R Go.Proofs.YtccpoflhmooanaaDoor.Walks
set_option linter.unusedVariables false
set_option linter.unusedSimpArgs false
theorem succ_w2 (k : Nat) (h : k < maxLen) : wrap64 ((k : Int) + 1) = ((k + 1 : Nat) : Int) := by simp only [maxLen] at h; unfold wrap64; omega
def intAt (w : World) (p : Addr) : Int := match w.cell? p with
  | some (.int _ x) => x
  | _ => 0
def boolAt (w : World) (p : Addr) : Bool := match w.cell? p with
  | some (.bool x) => x
  | _ => false
/-- The calls as they lie in memory. -/
def ROps (w : World) (a : Option Addr) (len : Nat) (K I : Nat → Int) (B : Nat → Bool) : Prop :=
  ∀ k, k < len → ∃ ad : Addr, a = some ad ∧ w.cell? (ad.add (k * 3)) = some (.int .i64 (K k)) ∧ w.cell? ⟨(ad.add (k * 3)).block, (ad.add (k * 3)).off + 1, none⟩ = some (.int .i64 (I k)) ∧ w.cell? ⟨(ad.add (k * 3)).block, (ad.add (k * 3)).off + 2, none⟩ = some (.bool (B k))
theorem cells42 : Tryd.prog.cellsOf 42 = 3 := by kernel_rfl
theorem cellsI : Tryd.prog.cellsOf 3 = 1 := by kernel_rfl
theorem cellsB : Tryd.prog.cellsOf 4 = 1 := by kernel_rfl
/-- A slice of calls, opened. -/
theorem ops_open {H : Type} {enc : TypeId × Value → H} {W : World} {base : Nat} {spare : Nat → Bool} {held : Bool} {a : Option Addr} {len cap : Nat} {d : DataW H} {p : List MemPlace} (h : DataW.Trod enc Tryd.prog W base spare held 38 (.slice a len cap) d p) :
    len ≤ maxLen ∧ ∃ (K I : Nat → Int) (B : Nat → Bool), ROps W a len K I B := by
  obtain ⟨fuel, hf⟩ := h
  rcases Go.Deep.open_slice Tryd.underlying38 hf with ⟨hcs, _⟩ | ⟨ad, l, c, m, n, D, Pl, hcs, hb, hl, hm, hmm, -, hx⟩
  · simp [Value.cells] at hcs
    obtain ⟨rfl, rfl, rfl⟩ := hcs
    exact ⟨Nat.zero_le _, fun _ => 0, fun _ => 0, fun _ => false, fun k hk => absurd hk (Nat.not_lt_zero k)⟩
  · simp [Value.cells] at hcs
    obtain ⟨rfl, rfl, rfl⟩ := hcs
    refine ⟨Nat.le_trans hl hm, fun k => intAt W (ad.add (k * 3)), fun k => intAt W ⟨(ad.add (k * 3)).block, (ad.add (k * 3)).off + 1, none⟩, fun k => boolAt W ⟨(ad.add (k * 3)).block, (ad.add (k * 3)).off + 2, none⟩, fun k hk => ⟨ad, rfl, ?_⟩⟩
    have hkm : k < m := by rw [hmm]; split <;> omega
    obtain ⟨cs', h1, h2⟩ := hx k hkm
    rw [cells42] at h1
    obtain ⟨_, hlen, hcell⟩ := World.cells?_some h1
    obtain ⟨y0, y1, y2, q, -, -, t0, t1, t2⟩ := Go.Deep.trod_struct3 Tryd.underlying42 h2
    match cs', hlen with
    | [v0, v1, v2], _ =>
      rw [show Tryd.prog.cellsOf 3 = 1 from cellsI] at t0 t1
      rw [show Tryd.prog.cellsOf 4 = 1 from cellsB] at t2
      obtain ⟨n0, e0, -, -⟩ := DataW.trod_int Tryd.underlying3 t0
      obtain ⟨n1, e1, -, -⟩ := DataW.trod_int Tryd.underlying3 t1
      obtain ⟨b2, e2, -⟩ := DataW.trod_bool Tryd.underlying4 t2
      simp at e0 e1 e2
      subst e0 e1 e2
      have c0 := hcell 0 (by omega)
      have c1 := hcell 1 (by omega)
      have c2 := hcell 2 (by omega)
      have c0' : W.cell? (ad.add (k * 3)) = some (.int .i64 n0) := by rw [Addr.add_zero'] at c0; exact c0
      have c1' : W.cell? ⟨(ad.add (k * 3)).block, (ad.add (k * 3)).off + 1, none⟩ = some (.int .i64 n1) := c1
      have c2' : W.cell? ⟨(ad.add (k * 3)).block, (ad.add (k * 3)).off + 2, none⟩ = some (.bool b2) := c2
      refine ⟨?_, ?_, ?_⟩
      · simp only [intAt, c0']
      · simp only [intAt, c1']
      · simp only [boolAt, c2']
theorem ROps.below {w w' : World} {a : Option Addr} {len : Nat} {K I : Nat → Int} {B : Nat → Bool} (h : ROps w a len K I B) (hb : Below w.heap.size w w') : ROps w' a len K I B := by
  intro k hk
  obtain ⟨ad, e, h1, h2, h3⟩ := h k hk
  refine ⟨ad, e, ?_, ?_, ?_⟩
  · exact (World.cell?_of_block (hb.block _ (World.block_lt_of_cell? w _ h1))).trans h1
  · exact (World.cell?_of_block (hb.block _ (World.block_lt_of_cell? w _ h2))).trans h2
  · exact (World.cell?_of_block (hb.block _ (World.block_lt_of_cell? w _ h3))).trans h3
theorem fg_from {F G : Nat → Prop} {w : World} (hF : ∀ k, F k → w.heap.size ≤ k) (hG : ∀ k, G k → w.heap.size ≤ k) : ∀ k, FG F G k → w.heap.size ≤ k := fun k h => h.elim (hF k) (hG k)
theorem or_from {F : Nat → Prop} {w wr : World} (hF : ∀ k, F k → w.heap.size ≤ k) (hs : w.heap.size ≤ wr.heap.size) : ∀ k, Or F wr k → w.heap.size ≤ k := fun k h => h.elim (hF k) (fun h2 => Nat.le_trans hs h2)
/-- The document's set of words, as a list of its own. -/
theorem refOf_t {l : List Int} (hw : Wd l) (n : Int) (m : Nat) (hm : fitN n = m) {w : World} {A : Option Addr} {c : Nat} (hC : (Kd.int .u64).C w A l.length l) (hc : l.length ≤ c) :
    Calls Tryd.prog 11 #[.slice A l.length c, .int .i64 n] w fun e w' => ∃ A' c', e = .returned (.slice A' m c') ∧ TR (New w) w' A' m c' (tbl m (bitN (ofW l n))) ∧ Below w.heap.size w w' := by
  refine (Go.Proofs.YtccpoflhmooanaaDoor.R.croftref1_Of.calls 1048800 A c l n _ w hC hc (refOf hw n m hm _ (by omega))).mono ?_
  rintro e w' ⟨v, rfl, hr, hb⟩
  rw [← ofW_tbl hw n m hm] at hr
  have hbase := Kd.R_base hr
  have hr2 : Kd.bool.R 4 w' 0 (New w) v (tbl m (bitN (ofW l n))) := Kd.R_lower (row_ok hr (fun k hk => hbase k hk)) (Nat.zero_le _)
  obtain ⟨A', c', rfl, hle, hC'⟩ := Kd.R_reads hr
  rw [tbl_length] at hr2 hle ⊢
  exact ⟨A', c', rfl, ⟨tbl_length _ _, hle, hr2⟩, hb⟩
/-- Both as they are made. -/
theorem both_made {l : List Int} (hw : Wd l) (n : Int) (m : Nat) (hm : fitN n = m) {w1 w2 w3 : World} {b : Nat} (hs : SetR (New w1) w2 b (m : Int) (ofW l n)) {A : Option Addr} {c : Nat} (ht : TR (New w2) w3 A m c (tbl m (bitN (ofW l n)))) (hb : Below w2.heap.size w2 w3) :
    Both (fun k => New w1 k ∧ k < w2.heap.size) (fun k => New w2 k ∧ k < w3.heap.size) w3 b m (ofW l n) A c := by
  have s := hb.size
  refine ⟨hs.bound.upd (Upd.of_below (F := No) hb) (fun _ _ h => h), ofW_clean hw n m hm, ht.bound, ?_, ?_, fun k hk => hk.2⟩
  · rintro k ⟨-, h1⟩ ⟨h2, -⟩
    unfold New at h2; omega
  · rintro k ⟨-, h1⟩; omega
set_option maxHeartbeats 4000000 in
set_option maxRecDepth 100000 in
theorem plays_calls {l : List Int} (hw : Wd l) (n : Int) (w : World) (hT : Tab w) {A : Option Addr} {c : Nat} (hC : (Kd.int .u64).C w A l.length l) (hc : l.length ≤ c)
    (ao : Option Addr) (lo co : Nat) (K I : Nat → Int) (B : Nat → Bool) (ho : ROps w ao lo K I B) (hlo : lo ≤ maxLen) :
    Calls Tryd.prog 5 #[.slice A l.length c, .int .i64 n, .slice ao lo co] w fun e w' => e = .returned (.bool true) ∧ Below w.heap.size w w' := by
  obtain ⟨m, hm, hm2⟩ := fitN_nat n
  have HW := Lib.hid hw
  have HM := Lib.hid hm
  have HC := Lib.hid hC
  have Hc := Lib.hid hc
  have HT := Lib.hid hT
  have HO := Lib.hid ho
  have HS1 := Lib.hid (fun k (h : k < lo) => succ_w2 k (Nat.lt_of_lt_of_le h hlo))
  clear hw hm hC hc hT hm2 ho hlo
  go_enter Tryd.func5, Tryd.ntmps5
  go_wp2_with (first
    | (go_at_call 8; refine (awake_calls _).mono ?_; rintro e w1 ⟨rfl, hb1⟩)
    | (go_at_call 9; refine (Of_calls n (Kd.C_below HC.out hb1) HW.out).mono ?_; rintro e w2 ⟨b, rfl, hs2, hu2⟩; have hb2 := hb1.trans (hu2.fresh.mono hb1.size); rw [HM.out] at hs2)
    | (go_at_call 11; refine (refOf_t HW.out n m HM.out (Kd.C_below HC.out hb2) Hc.out).mono ?_; rintro e w3 ⟨At, ct, rfl, ht3, hb3⟩))
  have HB3 := Lib.hid (hb2.trans (hb3.mono hb2.size))
  have HBO := Lib.hid (both_made HW.out n m HM.out hs2 ht3 hb3)
  have HG1 := Lib.hid hb1.size
  have HG2 := Lib.hid hb2.size
  clear hb1 hb2 hb3 hs2 ht3 hu2
  go_loopw [8, 9] (fun t i wr => ∃ k : Nat, k ≤ lo ∧ i = .int .i64 k ∧ ∃ (A' : Option Addr) (c' m' : Nat), t = .slice A' m' c' ∧ ∃ (ws : List Int) (F G : Nat → Prop), Aside0 (Both F G wr b m' ws A' c') ∧ Aside0 (∀ k, F k → w.heap.size ≤ k) ∧ Aside0 (∀ k, G k → w.heap.size ≤ k) ∧ Aside0 (Below w.heap.size w wr)) (fun _ i _ => lo - (intOf i).toNat)
  case atStart => exact ⟨0, Nat.zero_le _, rfl, At, ct, m, rfl, ofW l n, _, _, ⟨HBO.out⟩, ⟨fun k hk => Nat.le_trans HG1.out hk.1⟩, ⟨fun k hk => Nat.le_trans HG2.out hk.1⟩, ⟨HB3.out⟩⟩
  case round =>
    obtain ⟨k, hk, rfl, A', c', m', rfl, ws, F, G, hbo, hF, hG, hbr⟩ := hrel
    by_cases hlt : k < lo
    · obtain ⟨ad, rfl, o1, o2, o3⟩ := HO.out.below hbr.out k hlt
      go_wp2_with (go_at_call 20; refine (played_c hbo.out (tab_below HT.out hbr.out) (K k) (I k) (B k)).mono ?_; rintro e w4 ⟨A2, c2, m2, ws2, F2, G2, rfl, hbo2, hF2, hG2, hu2⟩; have HB4 := Lib.hid (Upd.below_trans hbr.out hu2 (fg_from hF.out hG.out) hbr.out.size); have HF2 := Lib.hid (fun q hq => or_from hF.out hbr.out.size q (hF2 q hq)); have HG2' := Lib.hid (fun q hq => or_from hG.out hbr.out.size q (hG2 q hq)); have HBO2 := Lib.hid hbo2; clear hF2 hG2 hu2 hbo2)
      go_roundw
      case rel => exact ⟨k + 1, hlt, congrArg (Value.int .i64) (HS1.out k hlt), A2, c2, m2, rfl, ws2, F2, G2, ⟨HBO2.out⟩, ⟨HF2.out⟩, ⟨HG2'.out⟩, ⟨HB4.out⟩⟩
      case measure => exact meas2 _ _ hlt (HS1.out k hlt)
    · have hd : decide (k < lo) = false := decide_eq_false hlt
      clear hlt hk
      have HBr := Lib.hid hbr.out
      have HBo := Lib.hid hbo.out
      clear hbr hbo
      go_wp2_with (first
        | (go_at_call 15; refine (Len_calls HBo.out.s).mono ?_; rintro e w5 ⟨rfl, rfl⟩)
        | (go_at_call 16; refine (Count_calls HBo.out.s HBo.out.clean).mono ?_; rintro e w6 ⟨rfl, ⟨d6, rfl⟩⟩)
        | (go_at_call 21; refine (size_c HBo.out.le (bitN ws) (HBo.out.drewN _).t.C HBo.out.t.2.1).mono ?_; rintro e w7 ⟨rfl, ⟨d7, rfl⟩⟩)
        | (go_at_call 13; refine (Words_calls (HBo.out.drewN _).s).mono ?_; rintro e w8 ⟨va, rfl, hRa, hb8⟩; obtain ⟨Aa, ca, rfl, hla, hCa⟩ := Kd.R_reads hRa; have HT8 := Lib.hid ((HBo.out.drewN _).t.upd (Upd.of_below (F := No) hb8) (fun _ _ h => h)); have HB8 := Lib.hid ((below_drewN HBr.out _).trans (hb8.mono (below_drewN HBr.out _).size)); have HCa := Lib.hid hCa; clear hRa hCa hb8)
        | (go_at_call 14; refine (rwords_c HBo.out HT8.out.C).mono ?_; rintro e w9 ⟨Aw, cw, rfl, hlw, hCw, hb9⟩; have HCa2 := Lib.hid (Kd.C_below HCa.out hb9); have HB9 := Lib.hid (HB8.out.trans (hb9.mono HB8.out.size)); clear hb9)
        | (go_at_call 12; refine (same_c ws HBo.out.len HCa2.out hla hCw hlw).mono ?_; rintro e w10 ⟨rfl, ⟨d10, rfl⟩⟩))
      go_ret
      exact ⟨rfl, below_drewN HB9.out _⟩
theorem plays_walk (a0 : Option Addr) (len0 cap0 : Nat) (z0 : List Int) (a1 : Int) (w : World) (hT : Tab w)
    (w0 : (a0 = none ∧ len0 = 0 ∧ cap0 = 0 ∧ z0 = []) ∨ ∃ x, a0 = some x ∧ len0 ≤ cap0 ∧ cap0 ≤ maxLen ∧ z0.length = cap0 ∧ (∀ i, i < z0.length → w.cell? (x.add i) = some (.int .u64 (z0.getD i 0))) ∧ ∀ n ∈ z0, (Lit.int .u64 n).wf = true)
    (ao : Option Addr) (lo co : Nat) (K I : Nat → Int) (B : Nat → Bool) (ho : ROps w ao lo K I B) (hlo : lo ≤ maxLen) :
    Calls Tryd.prog 5 #[.slice a0 len0 cap0, .int .i64 a1, .slice ao lo co] w fun e w' => e = .returned (.bool true) ∧ Below w.heap.size w w' := by
  obtain ⟨l0, rfl, hr0, hm0, hw0, hc0⟩ := ReadsInt.ofRowC w0
  exact plays_calls (wd_wf hw0) a1 w hT (Kd.C_of_reads (d := (0 : Int)) (h1 := fun _ => rfl) hr0) hc0 ao lo co K I B ho hlo
end Go.Proofs.YtccpoflhmooanaaDoor.Ref2
