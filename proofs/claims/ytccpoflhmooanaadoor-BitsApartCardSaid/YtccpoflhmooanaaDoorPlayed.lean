/- One call on both sets, the answers held against each other. -/
import Derived.Test.YtccpoflhmooanaaDoorRef2
import Derived.Deep.QuietTactic
import Derived.BigQuiet
namespace Go.Proofs.YtccpoflhmooanaaDoor.Ref2
open Go.RowKit Go.Proofs.YtccpoflhmooanaaDoorW.PrintWords Go.Proofs.YtccpoflhmooanaaDoorW.PrintLast Go.Proofs.YtccpoflhmooanaaDoorW.PrintMore Go.Proofs.YtccpoflhmooanaaDoor.Nums Go.Proofs.YtccpoflhmooanaaDoor.NumF Go.Proofs.YtccpoflhmooanaaDoor.Sets Go.Proofs.YtccpoflhmooanaaDoor.SetF Go.Proofs.YtccpoflhmooanaaDoor.Mem Go.Proofs.YtccpoflhmooanaaDoor.Kept Go.Proofs.YtccpoflhmooanaaDoor.Tz Go.Proofs.YtccpoflhmooanaaDoor.R
set_option linter.unusedVariables false
set_option linter.unusedSimpArgs false
/-- Both sets, the same, apart from each other. -/
structure Both (F G : Nat → Prop) (w : World) (b m : Nat) (ws : List Int) (A : Option Addr) (c : Nat) : Prop where
  s : SetR F w b (m : Int) ws
  clean : SetF.Clean m ws
  t : TR G w A m c (tbl m (bitN ws))
  apart : ∀ k, F k → ¬ G k
  f : ∀ k, F k → k < w.heap.size
  g : ∀ k, G k → k < w.heap.size
def FG (F G : Nat → Prop) (k : Nat) : Prop := F k ∨ G k
/-- What a call leaves. -/
def After (F G : Nat → Prop) (w : World) (b : Nat) (e : Ending) (w' : World) : Prop :=
  ∃ (A' : Option Addr) (c' m' : Nat) (ws' : List Int) (F' G' : Nat → Prop), e = .returned (.tuple #[.slice A' m' c', .bool true]) ∧ Both F' G' w' b m' ws' A' c' ∧
    (∀ k, F' k → Or F w k) ∧ (∀ k, G' k → Or G w k) ∧ Upd (FG F G) w w'
theorem box_cell {F : Nat → Prop} {w w1 : World} {cs : Array Value} {t : TypeId} (hu : Upd F (w.alloc (.cells cs t)) w1) (hn : ¬ F w.heap.size) (j : Nat) : w1.cell? ⟨w.heap.size, j, none⟩ = (w.alloc (.cells cs t)).cell? ⟨w.heap.size, j, none⟩ :=
  World.cell?_of_block (hu.block _ (by simp) hn)
def op (K i : Int) (v : Bool) : Array Value := #[.int .i64 K, .int .i64 i, .bool v]
theorem Both.alloc {F G : Nat → Prop} {w : World} {b m : Nat} {ws : List Int} {A : Option Addr} {c : Nat} (h : Both F G w b m ws A c) (o : Obj) : Both F G (w.alloc o) b m ws A c :=
  ⟨h.s.upd ((Upd.refl No w).alloc o) (fun _ _ h => h), h.clean, h.t.upd ((Upd.refl No w).alloc o) (fun _ _ h => h), h.apart, fun k hk => Nat.lt_of_lt_of_le (h.f k hk) (by simp), fun k hk => Nat.lt_of_lt_of_le (h.g k hk) (by simp)⟩
theorem Both.same {F G : Nat → Prop} {w w' : World} {b m : Nat} {ws : List Int} {A : Option Addr} {c : Nat} (h : Both F G w b m ws A c) (hu : Upd No w w') : After F G w b (.returned (.tuple #[.slice A m c, .bool true])) w' :=
  ⟨A, c, m, ws, F, G, rfl, ⟨h.s.upd hu (fun _ _ h => h), h.clean, h.t.upd hu (fun _ _ h => h), h.apart, fun k hk => Nat.lt_of_lt_of_le (h.f k hk) hu.size, fun k hk => Nat.lt_of_lt_of_le (h.g k hk) hu.size⟩, fun k hk => .inl hk, fun k hk => .inl hk, hu.mono (fun _ h => h.elim)⟩
theorem put_tbl {ws : List Int} {m i : Nat} (hi : i < m) (hl : i / 64 < ws.length) (v : Bool) : tbl m (bitN (putW ws i v)) = (tbl m (bitN ws)).set i v := by
  unfold putW
  by_cases h : bitN ws i = v
  · rw [if_pos h, ← h, tbl_set_same]
  · rw [if_neg h, flip_tbl ws m i hi hl]
    congr 1
    cases hb : bitN ws i <;> cases v <;> simp_all
theorem put_clean {ws : List Int} {m i : Nat} (hc : SetF.Clean m ws) (hi : i < m) (hl : i / 64 < ws.length) (v : Bool) : SetF.Clean m (putW ws i v) := by
  unfold putW
  split
  · exact hc
  · exact flip_clean hc i hi hl
theorem Both.idx {F G : Nat → Prop} {w : World} {b m : Nat} {ws : List Int} {A : Option Addr} {c : Nat} (h : Both F G w b m ws A c) (i : Nat) (hi : i < m) : i / 64 < ws.length := by
  have := h.s.2.2.1
  omega
/-- Both are put alike. -/
theorem Both.put {F G : Nat → Prop} {w wa w1 w2 : World} {b m : Nat} {ws ws' : List Int} {A : Option Addr} {c : Nat} (h : Both F G w b m ws A c) (ha : Upd No w wa) (i : Nat) (hi : i < m) (hs : SetR F w1 b (m : Int) ws') (hc : SetF.Clean m ws') (hu : Upd F wa w1)
    {t : List Bool} (ht : TR G w2 A m c t) (he : t = tbl m (bitN ws')) (hv : Upd G w1 w2) : After F G w b (.returned (.tuple #[.slice A m c, .bool true])) w2 := by
  subst he
  have s1 := ha.size
  have s2 := hu.size
  have s3 := hv.size
  refine ⟨A, c, m, ws', F, G, rfl, ⟨hs.upd hv h.apart, hc, ht, h.apart, fun k hk => Nat.lt_of_lt_of_le (h.f k hk) (by omega), fun k hk => Nat.lt_of_lt_of_le (h.g k hk) (by omega)⟩, fun k hk => .inl hk, fun k hk => .inl hk, ?_⟩
  exact (((ha.mono (fun _ h => h.elim)).trans (hu.mono (fun k hk => Or.inl hk)) (fun _ h _ => h)).trans (hv.mono (fun k hk => Or.inr hk)) (fun _ h _ => h) : Upd (FG F G) w w2)
set_option maxHeartbeats 4000000 in
theorem played1 {F G : Nat → Prop} {w : World} {b m : Nat} {ws : List Int} {A : Option Addr} {c : Nat} (h : Both F G w b m ws A c) (i : Int) (v : Bool) :
    Calls Tryd.prog 20 #[.pointer (some ⟨b, 0, none⟩), .slice A m c, .agg #[.int .i64 1, .int .i64 i, .bool v]] w fun e w' => After F G w b e w' := by
  have HH := Lib.hid h
  have hn := Lib.hid (fun hk : F w.heap.size => Nat.lt_irrefl _ (h.f _ hk))
  by_cases hi : 0 ≤ i ∧ i < (m : Int)
  · obtain ⟨j, rfl⟩ := Int.eq_ofNat_of_zero_le hi.1
    have hj : (j : Int) < (m : Int) := hi.2
    have HJ := Lib.hid hj
    have HJ2 := Lib.hid (Int.ofNat_lt.1 hj)
    clear h hi hj
    go_enter Tryd.func20, Tryd.ntmps20
    have HL := Lib.hid (HH.out.idx j HJ2.out)
    go_wp2_with (first
      | (go_at_call 30; refine (Put_in (HH.out.alloc _).s j HJ.out v).mono ?_; rintro e w1 ⟨rfl, hs1, hu1⟩; have HS1 := Lib.hid hs1; have HU1 := Lib.hid hu1; have HT1 := Lib.hid ((HH.out.alloc _).t.upd hu1 (fun k hk hf => HH.out.apart k hf hk)); have q1 : w1.cell? ⟨w.heap.size, 1, none⟩ = some (.int .i64 (j : Int)) := (box_cell hu1 hn.out 1).trans (blk_cell (blk_new w _) 1); have q2 : w1.cell? ⟨w.heap.size, 2, none⟩ = some (.bool v) := (box_cell hu1 hn.out 2).trans (blk_cell (blk_new w _) 2); clear hs1 hu1)
      | (go_at_call 38; refine (put_in_c HT1.out j HJ2.out v).mono ?_; rintro e w2 ⟨rfl, ht2, hu2⟩))
    go_ret2
    exact Both.put HH.out ((Upd.refl No w).alloc _) j HJ2.out HS1.out (put_clean HH.out.clean HJ2.out HL.out v) HU1.out ht2 (put_tbl HJ2.out HL.out v).symm hu2
  · have HI := Lib.hid hi
    clear h hi
    go_enter Tryd.func20, Tryd.ntmps20
    go_wp2_with (first
      | (go_at_call 30; refine (Put_out (HH.out.alloc _).s i HI.out v).mono ?_; rintro e w1 ⟨rfl, rfl⟩)
      | (go_at_call 38; refine (put_out_c i HI.out v _ _ _).mono ?_; rintro e w2 ⟨rfl, rfl⟩))
    go_ret2
    exact Both.same HH.out ((Upd.refl No w).alloc _)
theorem Both.drewN {F G : Nat → Prop} {w : World} {b m : Nat} {ws : List Int} {A : Option Addr} {c : Nat} (h : Both F G w b m ws A c) (n : Nat) : Both F G (w.drewN n) b m ws A c :=
  ⟨h.s.upd ((Upd.refl No w).drewN n) (fun _ _ h => h), h.clean, h.t.upd ((Upd.refl No w).drewN n) (fun _ _ h => h), h.apart, h.f, h.g⟩
theorem Both.le {F G : Nat → Prop} {w : World} {b m : Nat} {ws : List Int} {A : Option Addr} {c : Nat} (h : Both F G w b m ws A c) : m ≤ 1048576 := by have := h.s.2.1; omega
theorem tab_alloc {w : World} (h : Tab w) (o : Obj) : Tab (w.alloc o) := h.step ((Upd.refl No w).alloc o |>.block 0 h.pos (fun h => h))
theorem tab_drewN {w : World} (h : Tab w) (n : Nat) : Tab (w.drewN n) := h.step rfl
theorem After.of {F G : Nat → Prop} {w w' : World} {b : Nat} {A : Option Addr} {m c : Nat} {x : Bool} (hx : x = true) (h : After F G w b (.returned (.tuple #[.slice A m c, .bool true])) w') : After F G w b (.returned (.tuple #[.slice A m c, .bool x])) w' := by subst hx; exact h
theorem next_q {F G : Nat → Prop} {w : World} {b m : Nat} {ws : List Int} {A : Option Addr} {c : Nat} (h : Both F G w b m ws A c) (hT : Tab w) (i : Int) (n : Nat) :
    Calls Tryd.prog 17 #[.pointer (some ⟨b, 0, none⟩), .int .i64 i] (w.drewN n) fun e w'' => e = .returned (.int .i64 (nxt (bitN ws) m i.toNat)) ∧ ∃ q, w'' = w.drewN q :=
  Calls.quiet_of_same ((Next_calls (h.drewN n).s h.clean (tab_drewN hT n) i).mono (by rintro e w1 ⟨rfl, rfl⟩; exact ⟨rfl, rfl⟩))
theorem rnext_q {F G : Nat → Prop} {w : World} {b m : Nat} {ws : List Int} {A : Option Addr} {c : Nat} (h : Both F G w b m ws A c) (i : Int) (n : Nat) :
    Calls Tryd.prog 40 #[.slice A m c, .int .i64 i] (w.drewN n) fun e w'' => e = .returned (.int .i64 (nxt (bitN ws) m i.toNat)) ∧ ∃ q, w'' = w.drewN q :=
  Calls.quiet_of ((next_c h.le (bitN ws) i (h.drewN n).t.C h.t.2.1).mono (by rintro e w1 ⟨rfl, hd⟩; exact ⟨rfl, hd.out⟩))
theorem get_bit {ws : List Int} (hw : Wd ws) (m : Nat) (i : Int) (v : Bool) (h : v = if 0 ≤ i ∧ i < (m : Int) then bitI ws i else false) : v = inT m (bitN ws) i := by
  subst h
  unfold inT
  by_cases h1 : 0 ≤ i
  · obtain ⟨j, rfl⟩ := Int.eq_ofNat_of_zero_le h1
    by_cases h2 : (j : Int) < (m : Int)
    · rw [if_pos ⟨h1, h2⟩, bitI_bitN hw]; simp [h2]
    · rw [if_neg (fun h => h2 h.2)]; simp [h2]
  · rw [if_neg (fun h => h1 h.1)]; simp [h1]
theorem Get_c {F : Nat → Prop} {w : World} {b m : Nat} {ws : List Int} (h : SetR F w b (m : Int) ws) (i : Int) :
    Calls Tryd.prog 18 #[.pointer (some ⟨b, 0, none⟩), .int .i64 i] w fun e w' => e = .returned (.bool (inT m (bitN ws) i)) ∧ w = w' := by
  by_cases hi : 0 ≤ i ∧ i < (m : Int)
  · have := Get_in h i hi.1 hi.2
    rw [get_bit h.2.2.2.1 m i (bitI ws i) (by rw [if_pos hi])] at this
    exact this
  · have := Get_out h i hi
    rw [get_bit h.2.2.2.1 m i false (by rw [if_neg hi])] at this
    exact this
theorem get_q {F G : Nat → Prop} {w : World} {b m : Nat} {ws : List Int} {A : Option Addr} {c : Nat} (h : Both F G w b m ws A c) (i : Int) (n : Nat) :
    Calls Tryd.prog 18 #[.pointer (some ⟨b, 0, none⟩), .int .i64 i] (w.drewN n) fun e w'' => e = .returned (.bool (inT m (bitN ws) i)) ∧ ∃ q, w'' = w.drewN q :=
  Calls.quiet_of_same ((Get_c (h.drewN n).s i).mono (by rintro e w1 ⟨rfl, rfl⟩; exact ⟨rfl, rfl⟩))
theorem rget_q {F G : Nat → Prop} {w : World} {b m : Nat} {ws : List Int} {A : Option Addr} {c : Nat} (h : Both F G w b m ws A c) (i : Int) (n : Nat) :
    Calls Tryd.prog 39 #[.slice A m c, .int .i64 i] (w.drewN n) fun e w'' => e = .returned (.bool (inT m (bitN ws) i)) ∧ ∃ q, w'' = w.drewN q :=
  Calls.quiet_of ((get_c (bitN ws) i (h.drewN n).t.C h.t.2.1).mono (by rintro e w1 ⟨rfl, hd⟩; exact ⟨rfl, hd.out⟩))
set_option maxHeartbeats 4000000 in
theorem played3 {F G : Nat → Prop} {w : World} {b m : Nat} {ws : List Int} {A : Option Addr} {c : Nat} (h : Both F G w b m ws A c) (hT : Tab w) (i : Int) (v : Bool) :
    Calls Tryd.prog 20 #[.pointer (some ⟨b, 0, none⟩), .slice A m c, .agg #[.int .i64 3, .int .i64 i, .bool v]] w fun e w' => After F G w b e w' := by
  have HH := Lib.hid h
  have HT := Lib.hid hT
  clear h hT
  go_enter Tryd.func20, Tryd.ntmps20
  go_wp2
  go_quiet (first
    | (go_at_call 17; exact next_q (HH.out.alloc _) (tab_alloc HT.out _) i _)
    | (go_at_call 40; exact rnext_q (HH.out.alloc _) i _))
  go_wp2
  go_ret2
  exact After.of (by simp) (Both.same HH.out (((Upd.refl No w).alloc _).drewN _))
set_option maxHeartbeats 4000000 in
theorem played4 {F G : Nat → Prop} {w : World} {b m : Nat} {ws : List Int} {A : Option Addr} {c : Nat} (h : Both F G w b m ws A c) (i : Int) (v : Bool) :
    Calls Tryd.prog 20 #[.pointer (some ⟨b, 0, none⟩), .slice A m c, .agg #[.int .i64 4, .int .i64 i, .bool v]] w fun e w' => After F G w b e w' := by
  have HH := Lib.hid h
  clear h
  go_enter Tryd.func20, Tryd.ntmps20
  go_wp2_with (first
    | (go_at_call 16; refine (Count_calls (HH.out.alloc _).s HH.out.clean).mono ?_; rintro e w1 ⟨rfl, ⟨d1, rfl⟩⟩)
    | (go_at_call 21; refine (size_c HH.out.le (bitN ws) ((HH.out.alloc _).drewN _).t.C HH.out.t.2.1).mono ?_; rintro e w1 ⟨rfl, ⟨d2, rfl⟩⟩))
  go_ret2
  exact After.of (by simp) (Both.same HH.out (((Upd.refl No w).alloc _).drewN _))
set_option maxHeartbeats 4000000 in
theorem played5 {F G : Nat → Prop} {w : World} {b m : Nat} {ws : List Int} {A : Option Addr} {c : Nat} (h : Both F G w b m ws A c) (i : Int) (v : Bool) :
    Calls Tryd.prog 20 #[.pointer (some ⟨b, 0, none⟩), .slice A m c, .agg #[.int .i64 5, .int .i64 i, .bool v]] w fun e w' => After F G w b e w' := by
  have HH := Lib.hid h
  clear h
  go_enter Tryd.func20, Tryd.ntmps20
  go_wp2_with (go_at_call 15; refine (Len_calls (HH.out.alloc _).s).mono ?_; rintro e w1 ⟨rfl, rfl⟩)
  go_ret2
  exact After.of (by simp) (Both.same HH.out ((Upd.refl No w).alloc _))
theorem ne_tests (K : Int) (h : K ≠ 1 ∧ K ≠ 2 ∧ K ≠ 3 ∧ K ≠ 4 ∧ K ≠ 5 ∧ K ≠ 6 ∧ K ≠ 7) : (K == 1) = false ∧ (K == 2) = false ∧ (K == 3) = false ∧ (K == 4) = false ∧ (K == 5) = false ∧ (K == 6) = false ∧ (K == 7) = false := by
  obtain ⟨h1, h2, h3, h4, h5, h6, h7⟩ := h
  simp [h1, h2, h3, h4, h5, h6, h7]
set_option maxHeartbeats 4000000 in
theorem played0 {F G : Nat → Prop} {w : World} {b m : Nat} {ws : List Int} {A : Option Addr} {c : Nat} (h : Both F G w b m ws A c) (K : Int) (hK : K ≠ 1 ∧ K ≠ 2 ∧ K ≠ 3 ∧ K ≠ 4 ∧ K ≠ 5 ∧ K ≠ 6 ∧ K ≠ 7) (i : Int) (v : Bool) :
    Calls Tryd.prog 20 #[.pointer (some ⟨b, 0, none⟩), .slice A m c, .agg #[.int .i64 K, .int .i64 i, .bool v]] w fun e w' => After F G w b e w' := by
  have HH := Lib.hid h
  obtain ⟨k1, k2, k3, k4, k5, k6, k7⟩ := ne_tests K hK
  clear h hK
  go_enter Tryd.func20, Tryd.ntmps20
  go_wp2
  go_quiet (first
    | (go_at_call 18; exact get_q (HH.out.alloc _) i _)
    | (go_at_call 39; exact rget_q (HH.out.alloc _) i _))
  go_wp2
  go_ret2
  exact After.of (by simp) (Both.same HH.out (((Upd.refl No w).alloc _).drewN _))
end Go.Proofs.YtccpoflhmooanaaDoor.Ref2
