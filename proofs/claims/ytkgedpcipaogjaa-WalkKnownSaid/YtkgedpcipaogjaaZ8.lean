/- Part 8 of what the rows of this seat rest on: words of the print that they need; how images, spaces, sets lie in memory; the functions walked. -/
import Derived.RegionTactic
import Derived.Laws.Rows
import Derived.Lib.Hide
import Derived.Deep.DeepCutAuto
import Derived.Test.YtkgedpcipaogjaaZ2
import Derived.Test.YtkgedpcipaogjaaZ4
import Derived.Test.YtkgedpcipaogjaaZ5
import Derived.Test.YtkgedpcipaogjaaZ7
section
namespace Go.Proofs.Ytkgedpcipaogjaa.WB
open Go Go.RowKit Go.Proofs.YtkgedpcipaogjaaW.PrintWords Go.Proofs.YtkgedpcipaogjaaW.PrintLast Go.Proofs.YtkgedpcipaogjaaW.PrintMore Go.Proofs.Ytkgedpcipaogjaa.PWalkChecks Go.Proofs.Ytkgedpcipaogjaa.Mem
set_option linter.unusedVariables false
set_option linter.unusedSimpArgs false
theorem below_undrew {B : Nat} {w w' : World} (h : Below B w.drew w') : Below B w w' := ⟨h.os, h.tape, h.output, h.size, h.block⟩
def Made (w : World) (e : Ending) (w' : World) : Prop := ∃ p, e = .returned (.tuple #[.pointer (some ⟨p, 0, none⟩), .int .i64 0]) ∧ Below w.heap.size w w'
set_option maxRecDepth 100000 in
theorem regionNew_w {b l : Int} {o sz : Nat} (h : CfgOk b l o sz) (hb : U64 b) (w : World) : Calls Try.prog 37 #[cfgV b l (o : Int)] w (Made w) := by
  have HM := Lib.hid (fun wx => memNew_ok h hb wx)
  have HP := Lib.hid (fun wx => pmNew_c (w := wx) h.o8)
  have HY := Lib.hid (fun wx sp mp => buddyNew_c (w := wx) (b := b) (l := l) (sp := sp) (mp := mp) h.o8)
  unfold cfgV at HM HY ⊢
  obtain ⟨W1, hW1⟩ : ∃ W1, w.alloc (.cells #[.int .u64 b, .int .i64 l, .int .i64 (o : Int)] 24) = W1 := ⟨_, rfl⟩
  have HB1 := Lib.hid (show Below w.heap.size w W1 by rw [← hW1]; exact (Below.refl _ _).alloc (Nat.le_refl _) _)
  have hv : W1.heap[w.heap.size]? = some (.cells #[.int .u64 b, .int .i64 l, .int .i64 (o : Int)] 24 (0, 0)) := by rw [← hW1]; exact blk_new w _
  have HV := Lib.hid (show ∀ wx : World, Below W1.heap.size W1 wx → wx.cell? ⟨w.heap.size, 0, none⟩ = some (.int .u64 b) ∧ wx.cell? ⟨w.heap.size, 1, none⟩ = some (.int .i64 l) ∧ wx.cell? ⟨w.heap.size, 2, none⟩ = some (.int .i64 (o : Int)) from fun wx hx => by
    have := (hx.block _ (blk_lt hv)).trans hv
    exact ⟨blk_cell this 0, blk_cell this 1, blk_cell this 2⟩)
  obtain ⟨c0, c1, c2⟩ := HV.out W1 (Below.refl _ _)
  clear h hv
  go_enter Try.func37, Try.ntmps37
  go_wp2_with (first
    | (go_at_call 64; refine (HM.out _).mono ?_; rintro e w2 ⟨sp, rfl, hsp, hspr, hb2⟩; have HB2 := Lib.hid hb2; obtain ⟨d0, d1, d2⟩ := HV.out w2 hb2; clear hsp hspr hb2 c0 c1 c2)
    | (go_at_call 65; refine (HP.out _).mono ?_; rintro e w3 ⟨mp, rv, ps, rfl, hm⟩; have HB3 := Lib.hid (HB2.out.trans (hm.below.mono HB2.out.size)); obtain ⟨e0, e1, e2⟩ := HV.out w3 HB3.out; clear hm d0 d1 d2)
    | (go_at_call 66; refine (HY.out _ _ _).mono ?_; rintro e w4 ⟨L, rfl, hbr, hfr, hb4⟩; have HB4 := Lib.hid (HB3.out.trans (hb4.mono HB3.out.size)); clear hbr hfr hb4))
  go_ret2
  exact ⟨w4.heap.size, rfl, (HB1.out.trans (HB4.out.mono HB1.out.size)).alloc (HB1.out.trans (HB4.out.mono HB1.out.size)).size _⟩
set_option maxRecDepth 100000 in
theorem mallocNew_w {b l : Int} {o sz : Nat} (h : CfgOk b l o sz) (hb : U64 b) (w : World) : Calls Try.prog 24 #[cfgV b l (o : Int)] w (Made w) := by
  have HM := Lib.hid (fun wx => regionNew_w h hb wx)
  have HS := Lib.hid slabNew_c
  unfold cfgV at HM ⊢
  obtain ⟨W1, hW1⟩ : ∃ W1, w.alloc (.cells #[.int .u64 b, .int .i64 l, .int .i64 (o : Int)] 24) = W1 := ⟨_, rfl⟩
  have HB1 := Lib.hid (show Below w.heap.size w W1 by rw [← hW1]; exact (Below.refl _ _).alloc (Nat.le_refl _) _)
  have hv : W1.heap[w.heap.size]? = some (.cells #[.int .u64 b, .int .i64 l, .int .i64 (o : Int)] 24 (0, 0)) := by rw [← hW1]; exact blk_new w _
  have HV := Lib.hid (show ∀ wx : World, Below W1.heap.size W1 wx → wx.cell? ⟨w.heap.size, 0, none⟩ = some (.int .u64 b) ∧ wx.cell? ⟨w.heap.size, 1, none⟩ = some (.int .i64 l) ∧ wx.cell? ⟨w.heap.size, 2, none⟩ = some (.int .i64 (o : Int)) from fun wx hx => by
    have := (hx.block _ (blk_lt hv)).trans hv
    exact ⟨blk_cell this 0, blk_cell this 1, blk_cell this 2⟩)
  obtain ⟨c0, c1, c2⟩ := HV.out W1 (Below.refl _ _)
  clear h hv
  go_enter Try.func24, Try.ntmps24
  go_wp2_with (first
    | (go_at_call 37; refine (HM.out _).mono ?_; rintro e w2 ⟨sp, rfl, hb2⟩; have HB2 := Lib.hid hb2; obtain ⟨d0, d1, d2⟩ := HV.out w2 hb2; clear hb2 c0 c1 c2))
  have HSL := Lib.hid (slabNew_c sp w2.drew)
  clear HS HM
  go_region_law (go_simp; go_at_call 38; refine HSL.out.mono ?_; rintro e w3 ⟨rfl, h1, h2, hb3⟩; have HB3 := Lib.hid (HB2.out.trans ((below_undrew hb3).mono HB2.out.size)); obtain ⟨e0, e1, e2⟩ := HV.out w3 HB3.out; clear h1 h2 hb3)
  all_goals
    go_wp2
    go_ret2
    exact ⟨w3.heap.size, rfl, (HB1.out.trans (HB3.out.mono HB1.out.size)).alloc (HB1.out.trans (HB3.out.mono HB1.out.size)).size _⟩
end Go.Proofs.Ytkgedpcipaogjaa.WB
end
section
namespace Go.Proofs.Ytkgedpcipaogjaa.WB
open Go Go.RowKit Go.Proofs.YtkgedpcipaogjaaW.PrintWords Go.Proofs.YtkgedpcipaogjaaW.PrintLast Go.Proofs.YtkgedpcipaogjaaW.PrintMore Go.Proofs.Ytkgedpcipaogjaa.PWalkChecks Go.Proofs.Ytkgedpcipaogjaa.Mem
set_option linter.unusedVariables false
set_option linter.unusedSimpArgs false
theorem Write0_c {F : Nat → Prop} {w : World} {L : SpL} {b l : Int} {o sz : Nat} {mem xs : List Int} {A : Option Addr} {cap : Nat} (h : SpaceR w L b l o sz mem) (hc : CfgOk b l o sz) (hn : (L.ps.length : Int) ≤ l) (hx : RowI F w A .u8 xs) (hF : ∀ k, F k → k < w.heap.size ∧ k ∉ L.ps) (hxs : ∀ x ∈ xs, 0 ≤ x ∧ x < 256) (hcap : xs.length ≤ cap) (hin : xs.length = mem.length) :
    Calls Try.prog 69 #[.pointer (some ⟨L.sp, 0, none⟩), .int .u64 b, .slice A xs.length cap] w fun e w' => e = .returned (.int .i64 0) ∧ SpaceR w' L b l o sz xs ∧ Upd (fun k => k ∈ L.ps) w w' := by
  have := Write_c (off := 0) h hc hn hx hF hxs hcap (by omega)
  have e : splice mem 0 xs = xs := by unfold splice; rw [List.drop_eq_nil_of_le (by omega)]; simp
  rw [e] at this
  simpa using this
theorem open_nums {r o sz : Nat} {l : Int} (ho : o ≤ 8) (hsz : sz = 4096 * 2 ^ o) (hr : (r : Int) ≤ l) (hl : l ≤ 64) (hp : l * ((2 ^ o : Nat) : Int) ≤ 1024) :
    wrap64 ((r : Int) * 4096) = (r : Int) * 4096 ∧ wrap64 ((r : Int) * 4096 * 2 ^ o) = ((r * sz : Nat) : Int) ∧ IntKind.i64.wrap ((r : Int) * 4096 * 2 ^ o) = ((r * sz : Nat) : Int) ∧ wrap64 ((r : Int) * 2 ^ o) = ((r * 2 ^ o : Nat) : Int) ∧ IntKind.i64.wrap ((r : Int) * 2 ^ o) = ((r * 2 ^ o : Nat) : Int) := by
  have hq := p2_256 ho
  have e : (2 : Int) ^ o = ((2 ^ o : Nat) : Int) := by simp
  have h1 : r * 2 ^ o ≤ 64 * 256 := Nat.mul_le_mul (by omega) hq
  have h2 : (r : Int) * 4096 * ((2 ^ o : Nat) : Int) = ((r * sz : Nat) : Int) := by
    rw [hsz, Int.natCast_mul, Int.natCast_mul, Int.mul_assoc]; rfl
  have h3 : r * sz = 4096 * (r * 2 ^ o) := by rw [hsz, ← Nat.mul_assoc, Nat.mul_comm r 4096, Nat.mul_assoc]
  have h4 : (r : Int) * ((2 ^ o : Nat) : Int) = ((r * 2 ^ o : Nat) : Int) := by rw [Int.natCast_mul]
  have a1 : wrap64 ((r : Int) * 4096 * 2 ^ o) = ((r * sz : Nat) : Int) := by
    rw [e, h2]
    generalize r * 2 ^ o = y at *
    unfold wrap64; omega
  have a2 : wrap64 ((r : Int) * 2 ^ o) = ((r * 2 ^ o : Nat) : Int) := by
    rw [e, h4]
    generalize r * 2 ^ o = y at *
    unfold wrap64; omega
  exact ⟨by unfold wrap64; omega, a1, by rw [i64_w]; exact a1, a2, by rw [i64_w]; exact a2⟩
structure ComI (w : World) (L : SpL) (b l : Int) (o sz k : Nat) (wi : World) : Prop where
  sp : SpaceR wi L b l o sz (List.replicate (k * sz) 0)
  len : L.ps.length = k
  new : ∀ x ∈ L.blks, w.heap.size ≤ x
  below : Below w.heap.size w wi
theorem ComI.step {w : World} {L L' : SpL} {b l : Int} {o sz k : Nat} {wi w' : World} (h : ComI w L b l o sz k wi) (hs : SpaceR w' L' b l o sz (List.replicate (k * sz) 0 ++ List.replicate sz 0)) (hg : GrownSp wi w' L L' sz) (hu : Upd (fun x => x ∈ L.blks) wi w') : ComI w L' b l o sz (k + 1) w' := by
  obtain ⟨p, hp, hp2⟩ := hg.ps
  have hbs := h.below.size
  refine ⟨?_, by rw [hp, List.length_append, h.len]; rfl, fun x hx => ?_, h.below.trans (hu.below hbs h.new)⟩
  · rw [Nat.add_mul, Nat.one_mul, ← List.replicate_append_replicate]; exact hs
  · rcases hg.new x hx with h1 | h1
    · exact h.new x h1
    · omega
theorem ComI.later {w : World} {L : SpL} {b l : Int} {o sz k : Nat} {wi w' : World} (h : ComI w L b l o sz k wi) (hb : Below wi.heap.size wi w') : ComI w L b l o sz k w' :=
  ⟨h.sp.keep (fun x hx => hb.block x (h.sp.lt x hx)), h.len, h.new, h.below.trans (hb.mono h.below.size)⟩
set_option maxRecDepth 100000 in
set_option maxHeartbeats 1000000 in
theorem regionOpen_w {F : Nat → Prop} {w : World} {im : Im} {s : Sl} {o sz r : Nat} (h : ImAt F w im s) (hg : Geo im o r) (hF : ∀ k, F k → k < w.heap.size) (hc : CfgOk im.base im.limit o sz) (hr0 : 0 < r) (hrng : ∀ i, i < im.n → Rng im.order ((im.n : Int) - 1) (im.pg i)) :
    Calls Try.prog 39 #[cfgV im.base im.limit im.order, .int .i64 im.regions, .slice s.A im.mem.length s.a, .slice s.B im.pages.length s.b, .slice s.C im.pairs.length s.c, .slice s.D im.heads.length s.d] w (Made w) := by
  have hmin : min o 64 = o := Nat.min_eq_left (by have := hg.o8; omega)
  have hl1 : im.mem.length ≤ 9223372036854775807 := by have := h.wf.lmem; omega
  have hl2 : im.pages.length ≤ 9223372036854775807 := by have := h.wf.lpages; omega
  have r64 : (r : Int) ≤ 64 := by have := hg.rl; have := hc.l64; omega
  have t1 : decide ((r : Int) < 0) = false := decide_eq_false (by omega)
  have t2 : decide ((r : Int) > im.limit) = false := decide_eq_false (by have := hg.rl; omega)
  obtain ⟨a1, a2, a3, a4, a5⟩ := open_nums hg.o8 hc.sz_ hg.rl hc.l64 hc.pages
  have hmem : im.mem.length = r * sz := by rw [hg.mem, hc.sz_, ← Nat.mul_assoc, ← Nat.mul_assoc, Nat.mul_comm 4096 r]
  have hn := hg.n
  have ho := hg.order
  have hre := hg.regions
  unfold Im.n at hn
  have HM := Lib.hid (fun wx => memNew_ok hc h.wf.base wx)
  have HPM := Lib.hid (fun (wx : World) (hx : Below w.heap.size w wx) => pmOpen_c (w := wx) (cb := s.b) (cc := s.c) hg.o8 (h.pages.keep (fun k hk => hx.block k (hF k hk))) (h.pairs.keep (fun k hk => hx.block k (hF k hk))) (fun k hk => Nat.lt_of_lt_of_le (hF k hk) hx.size) (by rw [hn]; exact Nat.mul_pos hr0 (Nat.pow_pos (by decide))) hg.n1024 (by rw [hn]; exact Nat.mul_mod_left _ _) hg.pairs
    (fun k hk => ⟨hg.rows k hk, fun i => (h.wf.row (show k < im.pairs.length by rw [hg.pairs]; exact hk)).1 i⟩) (fun i hi => ho ▸ hrng i hi))
  have HBO := Lib.hid (fun (wx : World) (sp mp : Nat) (hx : Below w.heap.size w wx) => buddyOpen_c (w := wx) (b := im.base) (l := im.limit) (sp := sp) (mp := mp) (cap := s.d) hg.o8 hg.heads (h.heads.keep (fun k hk => hx.block k (hF k hk))) (fun k hk => Nat.lt_of_lt_of_le (hF k hk) hx.size))
  have HX := Lib.hid h.mem
  have HBY := Lib.hid h.wf.mem
  have HCM := Lib.hid h.cmem
  have HCC := Lib.hid hc
  have HFF := Lib.hid hF
  have HML := Lib.hid hmem
  have HRL := Lib.hid hg.rl
  rw [ho, hre] at *
  have t3 : ((im.mem.length : Int) != ((r * sz : Nat) : Int)) = false := by rw [hmem]; simp
  have t4 : ((im.pages.length : Int) != ((r * 2 ^ o : Nat) : Int)) = false := by rw [hn]; simp
  obtain ⟨y, hy⟩ : ∃ y, r * sz = y := ⟨_, rfl⟩
  obtain ⟨z, hz⟩ : ∃ z, r * 2 ^ o = z := ⟨_, rfl⟩
  rw [hy] at a2 a3 t3
  rw [hz] at a4 a5 t4
  unfold cfgV at HM HBO ⊢
  obtain ⟨W1, hW1⟩ : ∃ W1, w.alloc (.cells #[.int .u64 im.base, .int .i64 im.limit, .int .i64 (o : Int)] 24) = W1 := ⟨_, rfl⟩
  have HB1 := Lib.hid (show Below w.heap.size w W1 by rw [← hW1]; exact (Below.refl _ _).alloc (Nat.le_refl _) _)
  have hv : W1.heap[w.heap.size]? = some (.cells #[.int .u64 im.base, .int .i64 im.limit, .int .i64 (o : Int)] 24 (0, 0)) := by rw [← hW1]; exact blk_new w _
  have HV := Lib.hid (show ∀ wx : World, Below W1.heap.size W1 wx → wx.cell? ⟨w.heap.size, 0, none⟩ = some (.int .u64 im.base) ∧ wx.cell? ⟨w.heap.size, 1, none⟩ = some (.int .i64 im.limit) ∧ wx.cell? ⟨w.heap.size, 2, none⟩ = some (.int .i64 (o : Int)) from fun wx hx => by
    have := (hx.block _ (blk_lt hv)).trans hv
    exact ⟨blk_cell this 0, blk_cell this 1, blk_cell this 2⟩)
  obtain ⟨c0, c1, c2⟩ := HV.out W1 (Below.refl _ _)
  clear h hv hg hF hc hr0 hrng hmem hn ho hre hy hz
  go_enter Try.func39, Try.ntmps39
  go_wp2_with (first
    | (go_at_call 64; refine (HM.out _).mono ?_; rintro e w2 ⟨sp, rfl, hsp, hspr, hb2⟩; have HB2 := Lib.hid hb2; have HSP := Lib.hid hspr; have HSQ := Lib.hid hsp; obtain ⟨d0, d1, d2⟩ := HV.out w2 hb2; clear hsp hspr hb2 c0 c1 c2)
    | (go_at_call 67; refine (HPM.out _ (HB1.out.trans (HB2.out.mono HB1.out.size))).mono ?_; rintro e w3 ⟨mp, pv, rv, ps, rfl, hm⟩; have HB3 := Lib.hid (HB2.out.trans (hm.below.mono HB2.out.size)); have HBM := Lib.hid hm.below; obtain ⟨e0, e1, e2⟩ := HV.out w3 HB3.out; clear hm d0 d1 d2))
  have HC0 := Lib.hid (show ComI W1 ⟨sp, .slice none 0 0, []⟩ im.base im.limit o sz 0 w3 from by
    have h1 : ComI W1 ⟨sp, .slice none 0 0, []⟩ im.base im.limit o sz 0 w2 := ⟨by simpa using HSP.out, rfl, fun x hx => by
      simp [SpL.blks, Value.ownBlock] at hx
      have := HSQ.out; omega, HB2.out⟩
    exact h1.later HBM.out)
  clear a1 a2 a3 a4 a5 t1 t2 t3 t4 hmin HM HPM e0 e1 e2 HSP HSQ hl1 hl2
  go_loopg [65, 66, 67, 68, 69] r (fun g v65 _ _ _ _ wi => ∃ (k : Nat) (L : SpL), v65 = .int .i64 (k : Int) ∧ Aside0 (k + g = r) ∧ Aside0 (ComI W1 L im.base im.limit o sz k wi) ∧ Aside0 (L.sp = sp))
  case atStart => exact ⟨0, _, rfl, ⟨by omega⟩, ⟨HC0.out⟩, ⟨rfl⟩⟩
  case round =>
    obtain ⟨k, L, rfl, hkg, hci, hsp⟩ := hrel
    have HCI := Lib.hid hci.out
    have HLS := Lib.hid hsp.out
    have HFW := Lib.hid (show ∀ x, F x → x < W1.heap.size from fun x hx => Nat.lt_of_lt_of_le (HFF.out x hx) HB1.out.size)
    by_cases hk : k < r
    case neg =>
      obtain ⟨t1, t2⟩ := nlt_dec hk
      have HK := Lib.hid (show k = r by have := hkg.out; omega)
      obtain ⟨d0, d1, d2⟩ := HV.out wr HCI.out.below
      have HWR := Lib.hid (show Calls Try.prog 69 #[.pointer (some ⟨sp, 0, none⟩), .int .u64 im.base, .slice s.A im.mem.length s.a] wr fun e w' => e = .returned (.int .i64 0) ∧ SpaceR w' L im.base im.limit o sz im.mem ∧ Upd (fun k => k ∈ L.ps) wr w' from by
        have hh := HCI.out
        rw [← HLS.out]
        refine Write0_c hh.sp HCC.out (by rw [hh.len, HK.out]; exact HRL.out) (HX.out.keep (fun x hx => (hh.below.block x (HFW.out x hx)).trans (HB1.out.block x (HFF.out x hx)))) (fun x hx => ⟨Nat.lt_of_lt_of_le (HFW.out x hx) hh.below.size, fun hp => ?_⟩) HBY.out HCM.out (by rw [List.length_replicate, HML.out, HK.out])
        have h1 := hh.new x (by unfold SpL.blks; simp [hp])
        have h2 := HFW.out x hx
        omega)
      clear hk hkg hci hsp
      go_wp2_with (first
        | (go_at_call 69; refine HWR.out.mono ?_; rintro e w5 ⟨rfl, h5, hu5⟩; have hb5 : Below W1.heap.size wr w5 := hu5.below HCI.out.below.size (fun x hx => HCI.out.new x (by unfold SpL.blks; simp [hx])); have HBX := Lib.hid (HCI.out.below.trans hb5); have HBW := Lib.hid (HB1.out.trans (HBX.out.mono HB1.out.size)); obtain ⟨e0, e1, e2⟩ := HV.out w5 HBX.out; clear h5 hu5 hb5)
        | (go_at_call 70; refine (HBO.out _ _ _ HBW.out).mono ?_; rintro e w6 ⟨L6, rfl, h6, h7, hb6⟩; have HB6 := Lib.hid (HBW.out.trans (hb6.mono HBW.out.size)); clear h6 h7 hb6))
      go_ret2
      exact ⟨w6.heap.size, rfl, HB6.out.alloc HB6.out.size _⟩
    obtain ⟨t1, t2⟩ := lt_dec hk
    have hkI : (k : Int) < (r : Int) := by omega
    obtain ⟨g1, rfl⟩ : ∃ g1, gk = g1 + 1 := ⟨gk - 1, by have := hkg.out; omega⟩
    have HG := Lib.hid (lp_step hkg.out)
    have n1 : wrap64 ((k : Int) + 1) = (k : Int) + 1 := up1 (by omega)
    have HCO := Lib.hid (show Calls Try.prog 68 #[.pointer (some ⟨sp, 0, none⟩), .bool false] wr fun e w' => (∃ v, e = .returned v) ∧ ∃ L', SpaceR w' L' im.base im.limit o sz (List.replicate (k * sz) 0 ++ List.replicate sz 0) ∧ GrownSp wr w' L L' sz ∧ Upd (fun k => k ∈ L.blks) wr w' from by
      have hh := HCI.out
      rw [← HLS.out]
      refine (Commit_c hh.sp HCC.out (by rw [hh.len]; have := HRL.out; omega)).mono ?_
      rintro e w' ⟨rfl, L', h1, h2, h3⟩
      exact ⟨⟨_, rfl⟩, L', h1, h2, h3⟩)
    clear hk hkg hci hsp
    go_wp2_with (go_at_call 68; refine HCO.out.mono ?_; rintro e w5 ⟨⟨v5, rfl⟩, L5, h5, h6, h7⟩; have HST := Lib.hid (HCI.out.step h5 h6 h7); have HLP := Lib.hid (h6.sp.trans HLS.out); clear h5 h6 h7)
    go_roundg g1
    case measure => omega
    case rel => exact ⟨k + 1, L5, by simp; try exact n1, ⟨HG.out⟩, ⟨HST.out⟩, ⟨HLP.out⟩⟩
set_option maxRecDepth 100000 in
set_option maxHeartbeats 1000000 in
theorem mallocOpen_w {F : Nat → Prop} {w : World} {im : Im} {s : Sl} {o sz r : Nat} (h : ImAt F w im s) (hg : Geo im o r) (hF : ∀ k, F k → k < w.heap.size) (hc : CfgOk im.base im.limit o sz) (hr0 : 0 < r) (hrng : ∀ i, i < im.n → Rng im.order ((im.n : Int) - 1) (im.pg i)) :
    Calls Try.prog 25 #[.agg (im.cells s)] w (Made w) := by
  obtain ⟨A, a, B, b, C, c, D, d, E, e⟩ := s
  obtain ⟨WA, hWA⟩ : ∃ W, w.alloc (imO im ⟨A, a, B, b, C, c, D, d, E, e⟩) = W := ⟨_, rfl⟩
  obtain ⟨hsa, hbl, hvl⟩ := box_facts h hF hWA
  have HBL := Lib.hid hbl
  have HVL := Lib.hid hvl
  have HFA := Lib.hid (show ∀ b, F b → b < WA.heap.size from fun b hb => by have := hF b hb; omega)
  have HRO := Lib.hid (regionOpen_w (hvl WA (Below.refl _ _)).im hg HFA.out hc hr0 hrng)
  have HSO := Lib.hid (fun (wx : World) (pool : Nat) (hx : Below WA.heap.size WA wx) => slabOpen_c (w := wx) (cap := e) pool hg.parts (hvl wx hx).im.parts (fun k hk => Nat.lt_of_lt_of_le (HFA.out k hk) hx.size))
  obtain ⟨c0, c1, c2, c3, c4, c5, c6, c7, c8⟩ := (hvl WA (Below.refl _ _)).cell
  dsimp only at c0 c1 c2 c3 c4 c5 c6 c7 c8
  unfold imO Im.cells at hWA
  unfold Im.cells
  dsimp only at HRO HSO
  unfold cfgV at HRO
  clear h hF hvl hbl hg hc hr0 hrng
  go_enter Try.func25, Try.ntmps25
  go_wp2_with (first
    | (go_at_call 39; refine HRO.out.mono ?_; rintro e1 w2 ⟨p2, rfl, hb2⟩; have HB2 := Lib.hid hb2; obtain ⟨d0, d1, d2, d3, d4, d5, d6, d7, d8⟩ := (HVL.out w2 hb2).cell; dsimp only at d0 d1 d2 d3 d4 d5 d6 d7 d8; clear hb2 c0 c1 c2 c3 c4 c5 c6 c7 c8)
    | (go_at_call 40; refine (HSO.out _ _ HB2.out).mono ?_; rintro e1 w3 ⟨rfl, h1, h2, hb3⟩; have HB3 := Lib.hid (HB2.out.trans (hb3.mono HB2.out.size)); obtain ⟨e0, e1, e2, e3, e4, e5, e6, e7, e8⟩ := (HVL.out w3 HB3.out).cell; dsimp only at e0 e1 e2 e3 e4 e5 e6 e7 e8; clear h1 h2 hb3 d0 d1 d2 d3 d4 d5 d6 d7 d8))
  go_ret2
  exact ⟨w3.heap.size, rfl, (HBL.out _ HB3.out).alloc (HBL.out _ HB3.out).size _⟩
end Go.Proofs.Ytkgedpcipaogjaa.WB
end
section
set_option linter.unusedVariables false
set_option linter.unusedSimpArgs false
namespace Go.Proofs.Ytkgedpcipaogjaa.WB
open Go
def slotK (ops : Array Oper) (k : Nat) : Option Tmp := (ops[k]?).bind (·.dst)
def valK (ops : Array Oper) (a : Act) (k : Nat) : Value := match slotK ops k with
  | some d => a.tmps.getD d undef
  | none => undef
structure Agr (ops : Array Oper) (a0 a : Act) : Prop where
  defers : a.defers = a0.defers
  size : a.tmps.size = a0.tmps.size
  rest : ∀ d, (∀ k, slotK ops k ≠ some d) → a.tmps[d]? = a0.tmps[d]?
def growAt (ops : Array Oper) (n k : Nat) : Bool := match ops[k]? with
  | none => true
  | some o => (match o.dst with
    | none => true
    | some d => decide (d < n) && (List.range k).all (fun j => slotK ops j != some d)) && o.after.all (fun e => !Region.binds .any e || decide (e.on < k))
def growB (ops : Array Oper) (n : Nat) : Bool := (List.range ops.size).all (growAt ops n)
theorem cnt_set : ∀ (l : List Bool) (i : Nat), l[i]? = some false → (l.set i true).count false + 1 = l.count false
  | [], i, h => by simp at h
  | b :: l, 0, h => by
    simp at h
    subst h
    simp
  | b :: l, i + 1, h => by
    have := cnt_set l i (by simpa using h)
    simp only [List.set_cons_succ, List.count_cons]
    omega
section
variable {P : Program} {Q : Exit → Act → World → Prop} {ops : Array Oper}
theorem grow_facts {n k : Nat} {o : Oper} (h : growB ops n = true) (ho : ops[k]? = some o) : (∀ d, o.dst = some d → d < n ∧ ∀ j, j < k → slotK ops j ≠ some d) ∧ ∀ e ∈ o.after, Region.binds .any e = true → e.on < k := by
  unfold growB at h
  have hk : k < ops.size := (Array.getElem?_eq_some_iff.1 ho).1
  have h1 := List.all_eq_true.1 h k (List.mem_range.2 hk)
  unfold growAt at h1
  rw [ho] at h1
  simp only [Bool.and_eq_true] at h1
  obtain ⟨h2, h3⟩ := h1
  refine ⟨fun d hd => ?_, fun e he hb => ?_⟩
  · rw [hd] at h2
    simp only [Bool.and_eq_true, decide_eq_true_eq] at h2
    exact ⟨h2.1, fun j hj => by have := List.all_eq_true.1 h2.2 j (List.mem_range.2 hj); simpa using this⟩
  · have := (Array.all_eq_true_iff_forall_mem.1 h3) e he
    rw [hb] at this
    simpa using this
structure GI (ops : Array Oper) (a0 : Act) (C : World → Prop) (Pr : Nat → Value → World → Prop) (t : Array Bool) (a : Act) (w : World) : Prop where
  tsize : t.size = ops.size
  agr : Agr ops a0 a
  cls : C w
  prs : ∀ k, t.getD k false = true → Pr k (valK ops a k) w
theorem slot_of {k : Nat} {o : Oper} (h : ops[k]? = some o) : slotK ops k = o.dst := by unfold slotK; rw [h]; rfl
theorem grow_any {a0 : Act} (C : World → Prop) (Pr : Nat → Value → World → Prop) (hd : growB ops a0.tmps.size = true)
    (hstep : ∀ i o, ops[i]? = some o → ∀ a w, Agr ops a0 a → C w → (∀ e ∈ o.after, Region.binds .any e = true → Pr e.on (valK ops a e.on) w) →
      Region.wanted o (yielded ops a.tmps) = true ∧ ∀ K : Act → World → Prop, (∀ v w', (o.dst = none → v = undef) → Pr i v w' → (∀ k u, k ≠ i → Pr k u w → Pr k u w') → C w' → K (a.put o.dst v) w') → o.wp P a w K Q)
    (hfin : ∀ a w, Agr ops a0 a → C w → (∀ k, k < ops.size → Pr k (valK ops a k) w) → Q .normal a w) :
    ∀ (fuel : Nat) (t : Array Bool) (a : Act) (w : World), GI ops a0 C Pr t a w → t.toList.count false ≤ fuel → wpAny P .any ops Q fuel t a w := by
  have hdone : ∀ t a w, GI ops a0 C Pr t a w → Region.ready .any ops t = [] → Q .normal a w := by
    intro t a w h h0
    have all : ∀ k, k < ops.size → t.getD k false = true := by
      intro k
      induction k using Nat.strongRecOn with
      | ind k ih =>
        intro hk
        cases hb : t.getD k false with
        | true => rfl
        | false =>
          exfalso
          have hkt : k < t.size := by rw [h.tsize]; exact hk
          have ho : ops[k]? = some ops[k] := Array.getElem?_eq_getElem hk
          have hmem : k ∈ Region.ready .any ops t := mem_ready.2 ⟨by
            rw [Array.getD_eq_getD_getElem?, Array.getElem?_eq_getElem hkt] at hb ⊢
            exact hb, _, ho, fun e he hbe => ih e.on ((grow_facts hd ho).2 e he hbe) (Nat.lt_trans ((grow_facts hd ho).2 e he hbe) hk)⟩
          rw [h0] at hmem
          cases hmem
    exact hfin a w h.agr h.cls (fun k hk => h.prs k (all k hk))
  have hnext : ∀ t a w i, GI ops a0 C Pr t a w → i ∈ Region.ready .any ops t → wpOp P ops Q i (GI ops a0 C Pr (t.setIfInBounds i true)) a w := by
    intro t a w i h hi
    obtain ⟨h1, o, ho, h2⟩ := mem_ready.1 hi
    have hk : i < ops.size := (Array.getElem?_eq_some_iff.1 ho).1
    obtain ⟨hw, hs⟩ := hstep i o ho a w h.agr h.cls (fun e he hb => h.prs e.on (h2 e he hb))
    unfold wpOp
    rw [ho]
    simp only [hw, if_true]
    refine .inl (hs _ (fun v w' hu hv hk2 hC => ⟨by simp [h.tsize], ?_, hC, fun k hkt => ?_⟩))
    · unfold Act.put
      cases hdd : o.dst with
      | none => exact h.agr
      | some d =>
        refine ⟨h.agr.defers, by simp [h.agr.size], fun d' hd' => ?_⟩
        have hne : d ≠ d' := fun e => hd' i (by rw [slot_of ho, hdd, e])
        show (a.tmps.setIfInBounds d v)[d']? = _
        rw [Array.getElem?_setIfInBounds_ne hne]
        exact h.agr.rest d' hd'
    · by_cases e : k = i
      · subst e
        unfold valK
        rw [slot_of ho]
        unfold Act.put
        cases hdd : o.dst with
        | none => simpa [hu hdd] using hv
        | some d =>
          have hdl := ((grow_facts hd ho).1 d hdd).1
          have : (a.tmps.setIfInBounds d v).getD d undef = v := by
            rw [Array.getD_eq_getD_getElem?, Array.getElem?_setIfInBounds_self_of_lt (by rw [h.agr.size]; exact hdl)]
            rfl
          simp only [this]
          exact hv
      · have hkt' : t.getD k false = true := by
          rw [Array.getD_eq_getD_getElem?, Array.getElem?_setIfInBounds_ne (Ne.symm e)] at hkt
          rwa [Array.getD_eq_getD_getElem?]
        have hv2 : valK ops (a.put o.dst v) k = valK ops a k := by
          unfold valK
          cases hsk : slotK ops k with
          | none => rfl
          | some d' =>
            unfold Act.put
            cases hdd : o.dst with
            | none => rfl
            | some d =>
              have hne : d ≠ d' := by
                intro e2
                subst e2
                rcases Nat.lt_or_ge k i with hlt | hge
                · exact ((grow_facts hd ho).1 d hdd).2 k hlt hsk
                · cases hok : ops[k]? with
                  | none => unfold slotK at hsk; rw [hok] at hsk; cases hsk
                  | some ok =>
                    have := slot_of hok
                    rw [hsk] at this
                    exact ((grow_facts hd hok).1 d this.symm).2 i (by omega) (by rw [slot_of ho, hdd])
              simp only []
              rw [Array.getD_eq_getD_getElem?, Array.getD_eq_getD_getElem?, Array.getElem?_setIfInBounds_ne hne]
        rw [hv2]
        exact hk2 k _ e (h.prs k hkt')
  intro fuel
  induction fuel with
  | zero =>
    intro t a w h hc
    have hr : Region.ready .any ops t = [] := by
      cases hr : Region.ready .any ops t with
      | nil => rfl
      | cons i rs =>
        exfalso
        obtain ⟨h1, -⟩ := mem_ready.1 (hr ▸ List.mem_cons_self : i ∈ Region.ready .any ops t)
        rw [Array.getD_eq_getD_getElem?] at h1
        cases hti : t[i]? with
        | none => rw [hti] at h1; cases h1
        | some b =>
          rw [hti] at h1
          have hb : b = false := h1
          subst hb
          have := List.count_pos_iff.2 (List.mem_of_getElem? (by rw [Array.getElem?_toList]; exact hti : t.toList[i]? = some false))
          omega
    exact ⟨hr, hdone t a w h hr⟩
  | succ fuel ih =>
    intro t a w h hc
    refine ⟨hdone t a w h, fun i hi => wpOp_mono (fun a' w' h' => ih _ a' w' h' ?_) (hnext t a w i h hi)⟩
    obtain ⟨h1, -⟩ := mem_ready.1 hi
    rw [Array.getD_eq_getD_getElem?] at h1
    cases hti : t[i]? with
    | none => rw [hti] at h1; cases h1
    | some b =>
      rw [hti] at h1
      have hb : b = false := h1
      subst hb
      have := cnt_set t.toList i (by rw [Array.getElem?_toList]; exact hti)
      rw [Array.toList_setIfInBounds]
      omega
theorem grow_region {id : Nat} {a0 : Act} {w : World} {l : List Oper} (C : World → Prop) (Pr : Nat → Value → World → Prop) (hm : P.follows .mixedOrders = true) (hd : growB l.toArray a0.tmps.size = true) (hC : C w.drew)
    (hstep : ∀ i o, l.toArray[i]? = some o → ∀ a w, Agr l.toArray a0 a → C w → (∀ e ∈ o.after, Region.binds .any e = true → Pr e.on (valK l.toArray a e.on) w) →
      Region.wanted o (yielded l.toArray a.tmps) = true ∧ ∀ K : Act → World → Prop, (∀ v w', (o.dst = none → v = undef) → Pr i v w' → (∀ k u, k ≠ i → Pr k u w → Pr k u w') → C w' → K (a.put o.dst v) w') → o.wp P a w K Q)
    (hfin : ∀ a w, Agr l.toArray a0 a → C w → (∀ k, k < l.toArray.size → Pr k (valK l.toArray a k) w) → Q .normal a w) : (Code.region id l.toArray true).wp P Q a0 w :=
  wp_region_any hm (grow_any C Pr hd hstep hfin _ _ _ _ ⟨by simp, ⟨rfl, rfl, fun _ _ => rfl⟩, hC, fun k hk => by
    rw [Array.getD_eq_getD_getElem?, Array.getElem?_replicate] at hk
    split at hk <;> cases hk⟩ (by simp))
end
end Go.Proofs.Ytkgedpcipaogjaa.WB
end
section
namespace Go.Proofs.Ytkgedpcipaogjaa.WB
open Go Go.RowKit Go.Proofs.YtkgedpcipaogjaaW.PrintWords Go.Proofs.YtkgedpcipaogjaaW.PrintLast Go.Proofs.YtkgedpcipaogjaaW.PrintMore
set_option linter.unusedVariables false
set_option linter.unusedSimpArgs false
def r3F (im : Im) (i : Nat) : Option Int := if rangeB im.order ((im.n : Int) - 1) (im.pg i) = true then none else some i
set_option maxRecDepth 100000 in
set_option maxHeartbeats 4000000 in
theorem ranges_c {F : Nat → Prop} {gv : Nat} {im : Im} {s : Sl} {P : Value} {w : World} (h : V F gv im s P w) (hF : ∀ b, F b → b < w.heap.size) (hgv : gv < w.heap.size) :
    RuleB 54 gv w (R3 im) := by
  show Calls Try.prog 54 #[.pointer (some ⟨gv, 0, none⟩)] w (RuleP w (R3 im))
  have HV := Lib.hid h
  obtain ⟨c0, c1, c2, c3, c4, c5, c6, c7, c8, c9⟩ := h.cell
  have hl := len_i64 h.im.wf
  have hl1 : wrap64 ((im.pages.length : Int) - 1) = (im.pages.length : Int) - 1 := by unfold wrap64; omega
  have HF := Lib.hid hF
  have HG := Lib.hid hgv
  clear h hF hgv c0 c1 c3 c4 c6 c7 c8 c9
  go_enter Try.func54, Try.ntmps54
  go_wp2
  clear c2 c5
  go_loopg [18] im.pages.length (fun g v wr => ∃ k : Nat, v = .int .i64 (k : Int) ∧ Aside0 (k + g = im.pages.length) ∧ Aside0 (Below w.heap.size w wr) ∧ Aside0 (scan (r3F im) g k = R3 im))
  case atStart => exact ⟨0, rfl, ⟨by omega⟩, ⟨Below.refl _ _⟩, ⟨rfl⟩⟩
  case round =>
    obtain ⟨k, rfl, hkg, hbe, hsc⟩ := hrel
    by_cases hk : k < im.pages.length
    · have hkI : (k : Int) < (im.pages.length : Int) := by omega
      have hkd : decide ((k : Int) < (im.pages.length : Int)) = true := decide_eq_true hkI
      obtain ⟨g1, rfl⟩ : ∃ g1, gk = g1 + 1 := ⟨gk - 1, by have := hkg.out; omega⟩
      have hv : V F gv im s P wr := HV.out.keep (hbe.out.block _ HG.out) (fun b hb => hbe.out.block b (HF.out b hb))
      have hv2 : V F gv im s P (wr.alloc (pageO (im.pg k))) := hv.keep (Below.heap_alloc wr _ _ (Nat.lt_of_lt_of_le HG.out hbe.out.size)) (fun b hb => Below.heap_alloc wr _ _ (Nat.lt_of_lt_of_le (HF.out b hb) hbe.out.size))
      obtain ⟨ad, e, hF, p0, p1, p2, p3, p4, p5, p6, p7, p8, p9, p10⟩ := hv.page k hk
      rw [e]
      have hbad : rangeB im.order ((im.n : Int) - 1) (im.pg k) = false → R3 im = some (k : Int) := fun h => by
        rw [← hsc.out]
        exact scan_bad (by unfold r3F; rw [h]; rfl)
      have hgood : rangeB im.order ((im.n : Int) - 1) (im.pg k) = true → scan (r3F im) g1 (k + 1) = R3 im := fun h => by
        rw [← hsc.out]
        exact (scan_ok (by unfold r3F; rw [h]; rfl)).symm
      have hrb : rangeB im.order ((im.n : Int) - 1) (im.pg k) = (inB (im.pg k).kd 0 4 && (inB (im.pg k).od 0 im.order && (inB (im.pg k).cl 0 7 && (inB (im.pg k).lv 0 256 && (inB (im.pg k).nx (-1) ((im.pages.length : Int) - 1) && (inB (im.pg k).pv (-1) ((im.pages.length : Int) - 1) && inB (im.pg k).fs (-1) 255)))))) := rfl
      rw [hrb] at hbad hgood
      obtain ⟨p, hp⟩ : ∃ p, im.pg k = p := ⟨_, rfl⟩
      rw [hp] at hv2 p0 p1 p2 p3 p4 p5 p6 p7 p8 p9 p10 hbad hgood
      clear hrb hp
      obtain ⟨w2, hw2⟩ : ∃ w2, (wr.alloc (pageO p)).drew = w2 := ⟨_, rfl⟩
      have hb2 : Below w.heap.size w w2 := hw2 ▸ below_drew1 (hbe.out.alloc hbe.out.size _)
      have hn2 : w2.heap[wr.heap.size]? = some (pageO p) := by rw [← hw2]; exact blk_new wr _
      have hv3 : V F gv im s P w2 := by rw [← hw2]; exact hv2.keep rfl (fun _ _ => rfl)
      obtain ⟨q0, q1, q2, q3, q4, q5, q6, -⟩ := page_var hn2
      obtain ⟨-, -, c2, -, -, -, -, -, -, -⟩ := hv3.cell
      have HB2 := Lib.hid hb2
      unfold pageO at hw2
      have HW2 := Lib.hid hw2
      have HBAD := Lib.hid hbad
      have HGOOD := Lib.hid hgood
      have HK := Lib.hid hk
      have HE := Lib.hid e
      clear e
      clear hv hv2 hv3 hn2 hb2 hw2 hbad hgood hk hF
      cases h1 : inB p.kd 0 4 with
      | false =>
        have HX := Lib.hid (HBAD.out (by rw [h1]; rfl))
        go_wp2
        refine bx_tail 25 HW2.out (by kernel_rfl) (by kernel_rfl) ?_
        simp only [List.take_succ_cons, List.take_zero, List.drop_succ_cons, List.drop_zero]
        iterate 2 (refine bx_want (by kernel_rfl) (fun K hK => ?_); go_simp; refine hK _ ?_; clear hK K)
        (refine bx_want (by kernel_rfl) (fun K hK => ?_); go_simp; refine ⟨_, within_b h1 _, hK _ ?_⟩; clear hK K)
        iterate 1 (refine bx_want (by kernel_rfl) (fun K hK => ?_); go_simp; refine hK _ ?_; clear hK K)
        iterate 9 (refine bx_skip (by kernel_rfl) ?_; simp only [Act.put, List.setIfInBounds_toArray, List.set_cons_succ, List.set_cons_zero])
        iterate 2 (refine bx_want (by kernel_rfl) (fun K hK => ?_); go_simp; refine hK _ ?_; clear hK K)
        iterate 3 (refine bx_skip (by kernel_rfl) ?_; simp only [Act.put, List.setIfInBounds_toArray, List.set_cons_succ, List.set_cons_zero])
        iterate 2 (refine bx_want (by kernel_rfl) (fun K hK => ?_); go_simp; refine hK _ ?_; clear hK K)
        iterate 3 (refine bx_skip (by kernel_rfl) ?_; simp only [Act.put, List.setIfInBounds_toArray, List.set_cons_succ, List.set_cons_zero])
        iterate 2 (refine bx_want (by kernel_rfl) (fun K hK => ?_); go_simp; refine hK _ ?_; clear hK K)
        refine bx_nil ?_
        go_wp2_with (first | (go_at_call 78; refine (within_i _ _ _ _).mono ?_; rintro e w5 ⟨rfl, rfl⟩) | (go_at_call 77; refine (must_c _ _ _).mono ?_; rintro e w5 ⟨m1, m2, rfl⟩; first | (obtain rfl := m1 rfl; clear m1 m2) | (obtain rfl := m2 rfl; clear m1 m2)))
        exact ⟨rfl, RuleP_bad HX.out HB2.out⟩
      | true =>
      cases h2 : inB p.od 0 im.order with
      | false =>
        have HX := Lib.hid (HBAD.out (by rw [h1, h2]; rfl))
        go_wp2
        refine bx_tail 25 HW2.out (by kernel_rfl) (by kernel_rfl) ?_
        simp only [List.take_succ_cons, List.take_zero, List.drop_succ_cons, List.drop_zero]
        iterate 2 (refine bx_want (by kernel_rfl) (fun K hK => ?_); go_simp; refine hK _ ?_; clear hK K)
        (refine bx_want (by kernel_rfl) (fun K hK => ?_); go_simp; refine ⟨_, within_b h1 _, hK _ ?_⟩; clear hK K)
        iterate 9 (refine bx_want (by kernel_rfl) (fun K hK => ?_); go_simp; refine hK _ ?_; clear hK K)
        (refine bx_want (by kernel_rfl) (fun K hK => ?_); go_simp; refine ⟨_, within_b h2 _, hK _ ?_⟩; clear hK K)
        iterate 2 (refine bx_want (by kernel_rfl) (fun K hK => ?_); go_simp; refine hK _ ?_; clear hK K)
        iterate 3 (refine bx_skip (by kernel_rfl) ?_; simp only [Act.put, List.setIfInBounds_toArray, List.set_cons_succ, List.set_cons_zero])
        iterate 2 (refine bx_want (by kernel_rfl) (fun K hK => ?_); go_simp; refine hK _ ?_; clear hK K)
        iterate 3 (refine bx_skip (by kernel_rfl) ?_; simp only [Act.put, List.setIfInBounds_toArray, List.set_cons_succ, List.set_cons_zero])
        iterate 2 (refine bx_want (by kernel_rfl) (fun K hK => ?_); go_simp; refine hK _ ?_; clear hK K)
        refine bx_nil ?_
        go_wp2_with (first | (go_at_call 78; refine (within_i _ _ _ _).mono ?_; rintro e w5 ⟨rfl, rfl⟩) | (go_at_call 77; refine (must_c _ _ _).mono ?_; rintro e w5 ⟨m1, m2, rfl⟩; first | (obtain rfl := m1 rfl; clear m1 m2) | (obtain rfl := m2 rfl; clear m1 m2)))
        exact ⟨rfl, RuleP_bad HX.out HB2.out⟩
      | true =>
      cases h3 : inB p.cl 0 7 with
      | false =>
        have HX := Lib.hid (HBAD.out (by rw [h1, h2, h3]; rfl))
        go_wp2
        refine bx_tail 25 HW2.out (by kernel_rfl) (by kernel_rfl) ?_
        simp only [List.take_succ_cons, List.take_zero, List.drop_succ_cons, List.drop_zero]
        iterate 2 (refine bx_want (by kernel_rfl) (fun K hK => ?_); go_simp; refine hK _ ?_; clear hK K)
        (refine bx_want (by kernel_rfl) (fun K hK => ?_); go_simp; refine ⟨_, within_b h1 _, hK _ ?_⟩; clear hK K)
        iterate 9 (refine bx_want (by kernel_rfl) (fun K hK => ?_); go_simp; refine hK _ ?_; clear hK K)
        (refine bx_want (by kernel_rfl) (fun K hK => ?_); go_simp; refine ⟨_, within_b h2 _, hK _ ?_⟩; clear hK K)
        iterate 4 (refine bx_want (by kernel_rfl) (fun K hK => ?_); go_simp; refine hK _ ?_; clear hK K)
        (refine bx_want (by kernel_rfl) (fun K hK => ?_); go_simp; refine ⟨_, within_b h3 _, hK _ ?_⟩; clear hK K)
        iterate 2 (refine bx_want (by kernel_rfl) (fun K hK => ?_); go_simp; refine hK _ ?_; clear hK K)
        iterate 3 (refine bx_skip (by kernel_rfl) ?_; simp only [Act.put, List.setIfInBounds_toArray, List.set_cons_succ, List.set_cons_zero])
        iterate 2 (refine bx_want (by kernel_rfl) (fun K hK => ?_); go_simp; refine hK _ ?_; clear hK K)
        refine bx_nil ?_
        go_wp2_with (first | (go_at_call 78; refine (within_i _ _ _ _).mono ?_; rintro e w5 ⟨rfl, rfl⟩) | (go_at_call 77; refine (must_c _ _ _).mono ?_; rintro e w5 ⟨m1, m2, rfl⟩; first | (obtain rfl := m1 rfl; clear m1 m2) | (obtain rfl := m2 rfl; clear m1 m2)))
        exact ⟨rfl, RuleP_bad HX.out HB2.out⟩
      | true =>
      cases h4 : inB p.lv 0 256 with
      | false =>
        have HX := Lib.hid (HBAD.out (by rw [h1, h2, h3, h4]; rfl))
        go_wp2
        refine bx_tail 25 HW2.out (by kernel_rfl) (by kernel_rfl) ?_
        simp only [List.take_succ_cons, List.take_zero, List.drop_succ_cons, List.drop_zero]
        iterate 2 (refine bx_want (by kernel_rfl) (fun K hK => ?_); go_simp; refine hK _ ?_; clear hK K)
        (refine bx_want (by kernel_rfl) (fun K hK => ?_); go_simp; refine ⟨_, within_b h1 _, hK _ ?_⟩; clear hK K)
        iterate 9 (refine bx_want (by kernel_rfl) (fun K hK => ?_); go_simp; refine hK _ ?_; clear hK K)
        (refine bx_want (by kernel_rfl) (fun K hK => ?_); go_simp; refine ⟨_, within_b h2 _, hK _ ?_⟩; clear hK K)
        iterate 4 (refine bx_want (by kernel_rfl) (fun K hK => ?_); go_simp; refine hK _ ?_; clear hK K)
        (refine bx_want (by kernel_rfl) (fun K hK => ?_); go_simp; refine ⟨_, within_b h3 _, hK _ ?_⟩; clear hK K)
        iterate 4 (refine bx_want (by kernel_rfl) (fun K hK => ?_); go_simp; refine hK _ ?_; clear hK K)
        (refine bx_want (by kernel_rfl) (fun K hK => ?_); go_simp; refine ⟨_, within_b h4 _, hK _ ?_⟩; clear hK K)
        iterate 2 (refine bx_want (by kernel_rfl) (fun K hK => ?_); go_simp; refine hK _ ?_; clear hK K)
        refine bx_nil ?_
        go_wp2_with (first | (go_at_call 78; refine (within_i _ _ _ _).mono ?_; rintro e w5 ⟨rfl, rfl⟩) | (go_at_call 77; refine (must_c _ _ _).mono ?_; rintro e w5 ⟨m1, m2, rfl⟩; first | (obtain rfl := m1 rfl; clear m1 m2) | (obtain rfl := m2 rfl; clear m1 m2)))
        exact ⟨rfl, RuleP_bad HX.out HB2.out⟩
      | true =>
      cases h5 : inB p.nx (-1) ((im.pages.length : Int) - 1) with
      | false =>
        have HX := Lib.hid (HBAD.out (by rw [h1, h2, h3, h4, h5]; rfl))
        go_wp2
        refine bx_tail 25 HW2.out (by kernel_rfl) (by kernel_rfl) ?_
        simp only [List.take_succ_cons, List.take_zero, List.drop_succ_cons, List.drop_zero]
        iterate 2 (refine bx_want (by kernel_rfl) (fun K hK => ?_); go_simp; refine hK _ ?_; clear hK K)
        (refine bx_want (by kernel_rfl) (fun K hK => ?_); go_simp; refine ⟨_, within_b h1 _, hK _ ?_⟩; clear hK K)
        iterate 9 (refine bx_want (by kernel_rfl) (fun K hK => ?_); go_simp; refine hK _ ?_; clear hK K)
        (refine bx_want (by kernel_rfl) (fun K hK => ?_); go_simp; refine ⟨_, within_b h2 _, hK _ ?_⟩; clear hK K)
        iterate 4 (refine bx_want (by kernel_rfl) (fun K hK => ?_); go_simp; refine hK _ ?_; clear hK K)
        (refine bx_want (by kernel_rfl) (fun K hK => ?_); go_simp; refine ⟨_, within_b h3 _, hK _ ?_⟩; clear hK K)
        iterate 4 (refine bx_want (by kernel_rfl) (fun K hK => ?_); go_simp; refine hK _ ?_; clear hK K)
        (refine bx_want (by kernel_rfl) (fun K hK => ?_); go_simp; refine ⟨_, within_b h4 _, hK _ ?_⟩; clear hK K)
        iterate 2 (refine bx_want (by kernel_rfl) (fun K hK => ?_); go_simp; refine hK _ ?_; clear hK K)
        refine bx_nil ?_
        go_wp2_with (first | (go_at_call 78; refine (within_i _ _ _ _).mono ?_; rintro e w5 ⟨rfl, rfl⟩) | (go_at_call 77; refine (must_c _ _ _).mono ?_; rintro e w5 ⟨m1, m2, rfl⟩; first | (obtain rfl := m1 rfl; clear m1 m2) | (obtain rfl := m2 rfl; clear m1 m2)))
        exact ⟨rfl, RuleP_bad HX.out HB2.out⟩
      | true =>
      cases h6 : inB p.pv (-1) ((im.pages.length : Int) - 1) with
      | false =>
        have HX := Lib.hid (HBAD.out (by rw [h1, h2, h3, h4, h5, h6]; rfl))
        go_wp2
        refine bx_tail 25 HW2.out (by kernel_rfl) (by kernel_rfl) ?_
        simp only [List.take_succ_cons, List.take_zero, List.drop_succ_cons, List.drop_zero]
        iterate 2 (refine bx_want (by kernel_rfl) (fun K hK => ?_); go_simp; refine hK _ ?_; clear hK K)
        (refine bx_want (by kernel_rfl) (fun K hK => ?_); go_simp; refine ⟨_, within_b h1 _, hK _ ?_⟩; clear hK K)
        iterate 9 (refine bx_want (by kernel_rfl) (fun K hK => ?_); go_simp; refine hK _ ?_; clear hK K)
        (refine bx_want (by kernel_rfl) (fun K hK => ?_); go_simp; refine ⟨_, within_b h2 _, hK _ ?_⟩; clear hK K)
        iterate 4 (refine bx_want (by kernel_rfl) (fun K hK => ?_); go_simp; refine hK _ ?_; clear hK K)
        (refine bx_want (by kernel_rfl) (fun K hK => ?_); go_simp; refine ⟨_, within_b h3 _, hK _ ?_⟩; clear hK K)
        iterate 4 (refine bx_want (by kernel_rfl) (fun K hK => ?_); go_simp; refine hK _ ?_; clear hK K)
        (refine bx_want (by kernel_rfl) (fun K hK => ?_); go_simp; refine ⟨_, within_b h4 _, hK _ ?_⟩; clear hK K)
        iterate 2 (refine bx_want (by kernel_rfl) (fun K hK => ?_); go_simp; refine hK _ ?_; clear hK K)
        refine bx_nil ?_
        go_wp2_with (first | (go_at_call 78; refine (within_i _ _ _ _).mono ?_; rintro e w5 ⟨rfl, rfl⟩) | (go_at_call 77; refine (must_c _ _ _).mono ?_; rintro e w5 ⟨m1, m2, rfl⟩; first | (obtain rfl := m1 rfl; clear m1 m2) | (obtain rfl := m2 rfl; clear m1 m2)))
        exact ⟨rfl, RuleP_bad HX.out HB2.out⟩
      | true =>
      cases h7 : inB p.fs (-1) 255 with
      | false =>
        have HX := Lib.hid (HBAD.out (by rw [h1, h2, h3, h4, h5, h6, h7]; rfl))
        go_wp2
        refine bx_tail 25 HW2.out (by kernel_rfl) (by kernel_rfl) ?_
        simp only [List.take_succ_cons, List.take_zero, List.drop_succ_cons, List.drop_zero]
        iterate 2 (refine bx_want (by kernel_rfl) (fun K hK => ?_); go_simp; refine hK _ ?_; clear hK K)
        (refine bx_want (by kernel_rfl) (fun K hK => ?_); go_simp; refine ⟨_, within_b h1 _, hK _ ?_⟩; clear hK K)
        iterate 9 (refine bx_want (by kernel_rfl) (fun K hK => ?_); go_simp; refine hK _ ?_; clear hK K)
        (refine bx_want (by kernel_rfl) (fun K hK => ?_); go_simp; refine ⟨_, within_b h2 _, hK _ ?_⟩; clear hK K)
        iterate 4 (refine bx_want (by kernel_rfl) (fun K hK => ?_); go_simp; refine hK _ ?_; clear hK K)
        (refine bx_want (by kernel_rfl) (fun K hK => ?_); go_simp; refine ⟨_, within_b h3 _, hK _ ?_⟩; clear hK K)
        iterate 4 (refine bx_want (by kernel_rfl) (fun K hK => ?_); go_simp; refine hK _ ?_; clear hK K)
        (refine bx_want (by kernel_rfl) (fun K hK => ?_); go_simp; refine ⟨_, within_b h4 _, hK _ ?_⟩; clear hK K)
        iterate 2 (refine bx_want (by kernel_rfl) (fun K hK => ?_); go_simp; refine hK _ ?_; clear hK K)
        refine bx_nil ?_
        go_wp2_with (first | (go_at_call 78; refine (within_i _ _ _ _).mono ?_; rintro e w5 ⟨rfl, rfl⟩) | (go_at_call 77; refine (must_c _ _ _).mono ?_; rintro e w5 ⟨m1, m2, rfl⟩; first | (obtain rfl := m1 rfl; clear m1 m2) | (obtain rfl := m2 rfl; clear m1 m2)))
        exact ⟨rfl, RuleP_bad HX.out HB2.out⟩
      | true =>
      have HX := Lib.hid (HGOOD.out (by rw [h1, h2, h3, h4, h5, h6, h7]; rfl))
      go_wp2
      refine bx_tail 25 HW2.out (by kernel_rfl) (by kernel_rfl) ?_
      simp only [List.take_succ_cons, List.take_zero, List.drop_succ_cons, List.drop_zero]
      iterate 2 (refine bx_want (by kernel_rfl) (fun K hK => ?_); go_simp; refine hK _ ?_; clear hK K)
      (refine bx_want (by kernel_rfl) (fun K hK => ?_); go_simp; refine ⟨_, within_b h1 _, hK _ ?_⟩; clear hK K)
      iterate 9 (refine bx_want (by kernel_rfl) (fun K hK => ?_); go_simp; refine hK _ ?_; clear hK K)
      (refine bx_want (by kernel_rfl) (fun K hK => ?_); go_simp; refine ⟨_, within_b h2 _, hK _ ?_⟩; clear hK K)
      iterate 4 (refine bx_want (by kernel_rfl) (fun K hK => ?_); go_simp; refine hK _ ?_; clear hK K)
      (refine bx_want (by kernel_rfl) (fun K hK => ?_); go_simp; refine ⟨_, within_b h3 _, hK _ ?_⟩; clear hK K)
      iterate 4 (refine bx_want (by kernel_rfl) (fun K hK => ?_); go_simp; refine hK _ ?_; clear hK K)
      (refine bx_want (by kernel_rfl) (fun K hK => ?_); go_simp; refine ⟨_, within_b h4 _, hK _ ?_⟩; clear hK K)
      iterate 2 (refine bx_want (by kernel_rfl) (fun K hK => ?_); go_simp; refine hK _ ?_; clear hK K)
      refine bx_nil ?_
      go_wp2_with (first | (go_at_call 78; refine (within_i _ _ _ _).mono ?_; rintro e w5 ⟨rfl, rfl⟩) | (go_at_call 77; refine (must_c _ _ _).mono ?_; rintro e w5 ⟨m1, m2, rfl⟩; first | (obtain rfl := m1 rfl; clear m1 m2) | (obtain rfl := m2 rfl; clear m1 m2)))
      rw [← HE.out]
      go_roundg g1
      case measure => omega
      case rel => exact ⟨k + 1, by simp, ⟨by have := hkg.out; omega⟩, ⟨HB2.out⟩, ⟨HX.out⟩⟩
    · have hkd : decide ((k : Int) < (im.pages.length : Int)) = false := decide_eq_false (by omega)
      have HK := Lib.hid hk
      clear hk
      go_wp2
      go_end0
      refine RuleP_ok ?_ hbe.out
      have h := hsc.out
      rw [show gk = 0 from by have := HK.out; have := hkg.out; omega, scan] at h
      exact h.symm
end Go.Proofs.Ytkgedpcipaogjaa.WB
end
section
namespace Go.Proofs.Ytkgedpcipaogjaa.WB
open Go Go.RowKit Go.Proofs.YtkgedpcipaogjaaW.PrintWords Go.Proofs.YtkgedpcipaogjaaW.PrintLast Go.Proofs.YtkgedpcipaogjaaW.PrintMore
set_option linter.unusedVariables false
set_option linter.unusedSimpArgs false
def Pg.arr (p : Pg) : Array Value := #[.int .i64 p.kd, .int .i64 p.od, .int .i64 p.cl, .int .i64 p.lv, .int .i64 p.nx, .int .i64 p.pv, .int .i64 p.fs, .int .u64 p.b0, .int .u64 p.b1, .int .u64 p.b2, .int .u64 p.b3]
def pgEq (p q : Pg) : Bool := p.kd == q.kd && (p.od == q.od && (p.cl == q.cl && (p.lv == q.lv && (p.nx == q.nx && (p.pv == q.pv && (p.fs == q.fs && (p.b0 == q.b0 && (p.b1 == q.b1 && (p.b2 == q.b2 && p.b3 == q.b3)))))))))
theorem arr_eq (d : Nat) (a b : Int → Int) (w : World) : (Op.equalIn (d + 2) 37 (.agg #[.int .u64 (a 0), .int .u64 (a 1), .int .u64 (a 2), .int .u64 (a 3)]) (.agg #[.int .u64 (b 0), .int .u64 (b 1), .int .u64 (b 2), .int .u64 (b 3)])).run Try.prog w = .ok (a 0 == b 0 && (a 1 == b 1 && (a 2 == b 2 && a 3 == b 3))) w := by
  have hu : Try.prog.underlying 37 = some (.array 4 22) := by kernel_rfl
  have hu2 : Try.prog.underlying 22 = some (.int .u64) := by kernel_rfl
  have hs : ∀ w, (sizeOf 22).run Try.prog w = .ok 1 w := fun _ => by kernel_rfl
  have q0 : ∀ (x : Int → Int) w, (part 22 #[.int .u64 (x 0), .int .u64 (x 1), .int .u64 (x 2), .int .u64 (x 3)] 0).run Try.prog w = .ok (.int .u64 (x 0)) w := fun _ _ => by kernel_rfl
  have q1 : ∀ (x : Int → Int) w, (part 22 #[.int .u64 (x 0), .int .u64 (x 1), .int .u64 (x 2), .int .u64 (x 3)] 1).run Try.prog w = .ok (.int .u64 (x 1)) w := fun _ _ => by kernel_rfl
  have q2 : ∀ (x : Int → Int) w, (part 22 #[.int .u64 (x 0), .int .u64 (x 1), .int .u64 (x 2), .int .u64 (x 3)] 2).run Try.prog w = .ok (.int .u64 (x 2)) w := fun _ _ => by kernel_rfl
  have q3 : ∀ (x : Int → Int) w, (part 22 #[.int .u64 (x 0), .int .u64 (x 1), .int .u64 (x 2), .int .u64 (x 3)] 3).run Try.prog w = .ok (.int .u64 (x 3)) w := fun _ _ => by kernel_rfl
  rw [Op.equalIn]
  simp only [Sem.run_bind, run_underlying hu, Result.andThen_ok, hs]
  have he : ∀ (x y : Int) w, (Op.equalIn (d + 1) 22 (.int .u64 x) (.int .u64 y)).run Try.prog w = .ok (x == y) w := fun x y w => run_equalIn_int w d _ _ _ _ _ hu2
  rw [Std.Legacy.Range.forIn_eq_forIn_range']
  have hr : List.range' [:4].start [:4].size [:4].step = [0, 1, 2, 3] := by decide
  rw [hr]
  simp only [List.forIn_cons, List.forIn_nil, Sem.run_bind, Nat.mul_one, q0, q1, q2, q3, Result.andThen_ok, he]
  cases h0 : a 0 == b 0
  · simp
  cases h1 : a 1 == b 1
  · simp [q1, he, h1]
  cases h2 : a 2 == b 2
  · simp [q1, q2, he, h1, h2]
  cases h3 : a 3 == b 3
  · simp [q1, q2, q3, he, h1, h2, h3]
  · simp [q1, q2, q3, he, h1, h2, h3]
theorem eqGuardPage (x y : Operand) (xs ys : Array Value) (w : World) : (eqGuard .eql 39 x y (.agg xs) (.agg ys)).run Try.prog w = .ok () w := by kernel_rfl
theorem page_eq (p q : Pg) (w : World) : (Op.equal 39 (.agg p.arr) (.agg q.arr)).run Try.prog w = .ok (pgEq p q) w := by
  have hi : ∀ (d : Nat) (x y : Int) w, (Op.equalIn (d + 1) 3 (.int .i64 x) (.int .i64 y)).run Try.prog w = .ok (x == y) w := fun d x y w => run_equalIn_int w d _ _ .i64 _ _ (by kernel_rfl)
  refine eqA_of (d := 9999) Try.underlying39 (by kernel_rfl) ?_
  refine eqf_cons rfl (a := .int .i64 p.kd) (b := .int .i64 q.kd) (by kernel_rfl) (by kernel_rfl) (hi _ _ _ _) ?_
  refine eqf_cons rfl (a := .int .i64 p.od) (b := .int .i64 q.od) (by kernel_rfl) (by kernel_rfl) (hi _ _ _ _) ?_
  refine eqf_cons rfl (a := .int .i64 p.cl) (b := .int .i64 q.cl) (by kernel_rfl) (by kernel_rfl) (hi _ _ _ _) ?_
  refine eqf_cons rfl (a := .int .i64 p.lv) (b := .int .i64 q.lv) (by kernel_rfl) (by kernel_rfl) (hi _ _ _ _) ?_
  refine eqf_cons rfl (a := .int .i64 p.nx) (b := .int .i64 q.nx) (by kernel_rfl) (by kernel_rfl) (hi _ _ _ _) ?_
  refine eqf_cons rfl (a := .int .i64 p.pv) (b := .int .i64 q.pv) (by kernel_rfl) (by kernel_rfl) (hi _ _ _ _) ?_
  refine eqf_cons rfl (a := .int .i64 p.fs) (b := .int .i64 q.fs) (by kernel_rfl) (by kernel_rfl) (hi _ _ _ _) ?_
  refine eqf_last rfl (a := .agg #[.int .u64 p.b0, .int .u64 p.b1, .int .u64 p.b2, .int .u64 p.b3]) (b := .agg #[.int .u64 q.b0, .int .u64 q.b1, .int .u64 q.b2, .int .u64 q.b3]) (by kernel_rfl) (by kernel_rfl) ?_
  exact arr_eq 9997 (fun i => if i = 0 then p.b0 else if i = 1 then p.b1 else if i = 2 then p.b2 else p.b3) (fun i => if i = 0 then q.b0 else if i = 1 then q.b1 else if i = 2 then q.b2 else q.b3) w
theorem page_eql (p q : Pg) (w : World) : (binOp .eql 39 (.agg p.arr) (.agg q.arr)).run Try.prog w = .ok (.bool (pgEq p q)) w := by
  show (do pure (Value.bool (← Op.equal 39 (.agg p.arr) (.agg q.arr))) : Sem Value).run Try.prog w = _
  simp only [Sem.run_bind, page_eq, Result.andThen_ok, Sem.run_pure]
end Go.Proofs.Ytkgedpcipaogjaa.WB
end
section
namespace Go.Proofs.Ytkgedpcipaogjaa.WB
open Go Go.RowKit Go.Proofs.YtkgedpcipaogjaaW.PrintWords Go.Proofs.YtkgedpcipaogjaaW.PrintLast Go.Proofs.YtkgedpcipaogjaaW.PrintMore
set_option linter.unusedVariables false
set_option linter.unusedSimpArgs false
def r6F (im : Im) (i : Nat) : Option Int := if halfB im i = true then some i else none
theorem pow9 {d : Nat} (hd : d ≤ 8) : 2 ^ (d + 1) ≤ 512 ∧ 2 ^ d ≤ 256 ∧ 0 < 2 ^ d ∧ 0 < 2 ^ (d + 1) := by
  have : d = 0 ∨ d = 1 ∨ d = 2 ∨ d = 3 ∨ d = 4 ∨ d = 5 ∨ d = 6 ∨ d = 7 ∨ d = 8 := by omega
  rcases this with rfl | rfl | rfl | rfl | rfl | rfl | rfl | rfl | rfl <;> decide
theorem sh2 {d : Nat} (hd : d ≤ 8) : wrap64 (2 * 2 ^ d) = ((2 ^ (d + 1) : Nat) : Int) := by
  have hp := pow9 hd
  have e1 : (2 : Int) ^ d = ((2 ^ d : Nat) : Int) := by simp
  rw [e1, Nat.pow_succ]
  generalize 2 ^ d = z at *
  unfold wrap64; omega
theorem sh1 {d : Nat} (hd : d ≤ 8) : wrap64 (2 ^ d) = ((2 ^ d : Nat) : Int) := by
  have hp := pow9 hd
  have e1 : (2 : Int) ^ d = ((2 ^ d : Nat) : Int) := by simp
  rw [e1]
  generalize 2 ^ d = z at *
  unfold wrap64; omega
set_option maxRecDepth 100000 in
set_option maxHeartbeats 4000000 in
theorem halves_c {F : Nat → Prop} {gv : Nat} {im : Im} {s : Sl} {P : Value} {w : World} (h : V F gv im s P w) (hF : ∀ b, F b → b < w.heap.size) (hgv : gv < w.heap.size) {o r : Nat} (hgeo : Geo im o r) (hR : ∀ i, i < im.pages.length → Rng im.order ((im.n : Int) - 1) (im.pg i)) :
    RuleB 57 gv w (R6 im) := by
  show Calls Try.prog 57 #[.pointer (some ⟨gv, 0, none⟩)] w (RuleP w (R6 im))
  have HV := Lib.hid h
  obtain ⟨c0, c1, c2, c3, c4, c5, c6, c7, c8, c9⟩ := h.cell
  have hl := len_i64 h.im.wf
  have HF := Lib.hid hF
  have HG := Lib.hid hgv
  have HR := Lib.hid hR
  have HGEO := Lib.hid hgeo
  clear hR hgeo
  clear h hF hgv c0 c1 c2 c3 c4 c6 c7 c8 c9
  go_enter Try.func57, Try.ntmps57
  go_wp2
  clear c5
  go_loopg [11] im.pages.length (fun g v wr => ∃ k : Nat, v = .int .i64 (k : Int) ∧ Aside0 (k + g = im.pages.length) ∧ Aside0 (Below w.heap.size w wr) ∧ Aside0 (scan (r6F im) g k = R6 im))
  case atStart => exact ⟨0, rfl, ⟨by omega⟩, ⟨Below.refl _ _⟩, ⟨rfl⟩⟩
  case round =>
    obtain ⟨k, rfl, hkg, hbe, hsc⟩ := hrel
    by_cases hk : k < im.pages.length
    · have hkI : (k : Int) < (im.pages.length : Int) := by omega
      have hkd : decide ((k : Int) < (im.pages.length : Int)) = true := decide_eq_true hkI
      obtain ⟨g1, rfl⟩ : ∃ g1, gk = g1 + 1 := ⟨gk - 1, by have := hkg.out; omega⟩
      have hv : V F gv im s P wr := HV.out.keep (hbe.out.block _ HG.out) (fun b hb => hbe.out.block b (HF.out b hb))
      have hv2 : V F gv im s P (wr.alloc (pageO (im.pg k))) := hv.keep (Below.heap_alloc wr _ _ (Nat.lt_of_lt_of_le HG.out hbe.out.size)) (fun b hb => Below.heap_alloc wr _ _ (Nat.lt_of_lt_of_le (HF.out b hb) hbe.out.size))
      obtain ⟨ad, e, hF, p0, p1, p2, p3, p4, p5, p6, p7, p8, p9, p10⟩ := hv.page k hk
      rw [e]
      have HE := Lib.hid e
      have HBAD := Lib.hid (show ∀ pl, r6F im k = some pl → R6 im = some pl from fun pl h => hsc.out.symm.trans (scan_bad h))
      have HGOOD := Lib.hid (show r6F im k = none → scan (r6F im) g1 (k + 1) = R6 im from fun h => (scan_ok h).symm.trans hsc.out)
      have HK := Lib.hid hk
      have HB1 := Lib.hid (show Below w.heap.size w (wr.alloc (pageO (im.pg k))) from hbe.out.alloc hbe.out.size _)
      have HSZ := Lib.hid hbe.out.size
      clear hF e hk
      have hr := HR.out k HK.out
      have HN1 := Lib.hid (blk_new wr (pageO (im.pg k)))
      have hv2' := Lib.hid hv2
      obtain ⟨-, -, c2, -, -, -, -, -, -, -⟩ := hv2.cell
      have hn1 := blk_new wr (pageO (im.pg k))
      obtain ⟨q0, q1, q2, q3, q4, q5, q6, -⟩ := page_var hn1
      have ho := HGEO.out.order
      have ho8 := HGEO.out.o8
      obtain ⟨d, hd⟩ : ∃ d : Nat, (im.pg k).od = d := ⟨(im.pg k).od.toNat, by have := hr.od; omega⟩
      have hdo : d ≤ o := by have := hr.od; rw [ho] at this; omega
      have hhb : halfB im k = decide ((im.pg k).kd = 0 ∧ d < o ∧ k % 2 ^ (d + 1) = 0 ∧ im.openB (k + 2 ^ d) d = true) := by
        unfold halfB
        rw [hd, ho, Int.toNat_natCast]
        simp only [Int.ofNat_lt]
      have HFIT := Lib.hid (show d < o → k % 2 ^ (d + 1) = 0 → k + 2 ^ d < im.pages.length from fun h1 h2 => by
        have := HGEO.out.fits (k := d + 1) h1 HK.out h2
        rw [Nat.pow_succ] at this
        have hp : 0 < 2 ^ d := Nat.pow_pos (by decide)
        unfold Im.n at this
        omega)
      have HOPEN := Lib.hid (show k + 2 ^ d < im.pages.length → Calls Try.prog 81 #[.pointer (some ⟨gv, 0, none⟩), .int .i64 ((k : Int) + ((2 ^ d : Nat) : Int)), .int .i64 (d : Int)] (wr.alloc (pageO (im.pg k))) (fun e w' => e = .returned (.bool (im.openB (k + 2 ^ d) d)) ∧ w' = (wr.alloc (pageO (im.pg k)))) from fun h => by
        have := open_c hv2 (k + 2 ^ d) h (d : Int)
        rwa [Int.natCast_add] at this)
      have hs2 := sh2 (d := d) (by omega)
      have hs1 := sh1 (d := d) (by omega)
      have hp9 := pow9 (d := d) (by omega)
      obtain ⟨m, hm⟩ : ∃ m, 2 ^ (d + 1) = m := ⟨_, rfl⟩
      obtain ⟨z, hz⟩ : ∃ z, 2 ^ d = z := ⟨_, rfl⟩
      rw [hm, hz] at hhb hp9
      rw [hm] at hs2
      rw [hz] at hs1
      rw [hm, hz] at HFIT
      rw [hz] at HOPEN
      have hs2' : IntKind.i64.wrap (2 * 2 ^ d) = (m : Int) := by rw [i64_w]; exact hs2
      have hs1' : IntKind.i64.wrap (2 ^ d) = (z : Int) := by rw [i64_w]; exact hs1
      have hm01 : ((m : Int) == 0) = false := by rw [beq_eq_false_iff_ne]; omega
      have hm02 : ¬ (m : Int) = 0 := by omega
      have hm03 : ¬ m = 0 := by omega
      have htm : Int.tmod (k : Int) (m : Int) = ((k % m : Nat) : Int) := by rw [Int.tmod_eq_emod_of_nonneg (by omega)]; omega
      obtain ⟨x, hx⟩ : ∃ x, k % m = x := ⟨_, rfl⟩
      have htm2 : (k : Int) % (m : Int) = (x : Int) := by omega
      rw [hx] at htm hhb HFIT
      clear hx
      obtain ⟨kd, hkd0⟩ : ∃ kd, (im.pg k).kd = kd := ⟨_, rfl⟩
      have HHB := Lib.hid hhb
      have HN9 := Lib.hid HGEO.out.n1024
      have hm1 : (m : Int) ≤ 512 := by omega
      have hm2 : 1 ≤ (m : Int) := by omega
      have hz1 : (z : Int) ≤ 256 := by omega
      have hz2 : 1 ≤ (z : Int) := by omega
      have hk9 : (k : Int) ≤ 1024 := by have h1 := HN9.out; have h2 := HK.out; unfold Im.n at h1; omega
      rw [ho] at c2
      rw [hd] at q1 p1
      rw [hkd0] at q0 p0 HHB
      have hpg : pageO (im.pg k) = .cells #[.int .i64 kd, .int .i64 (d : Int), .int .i64 (im.pg k).cl, .int .i64 (im.pg k).lv, .int .i64 (im.pg k).nx, .int .i64 (im.pg k).pv, .int .i64 (im.pg k).fs, .int .u64 (im.pg k).b0, .int .u64 (im.pg k).b1, .int .u64 (im.pg k).b2, .int .u64 (im.pg k).b3] 39 (0, 0) := by unfold pageO; rw [hkd0, hd]
      rw [hpg] at HOPEN HB1 q0 q1 c2
      generalize im.pg k = p at *
      clear hpg hd hkd0 hm hz hp9 hhb hr hv hv2 hn1 q2 q3 q4 q5 q6 ho
      by_cases h0 : kd = 0
      case neg =>
        have hd4 : (kd == 0) = false := by simpa using h0
        have HX := Lib.hid (HGOOD.out (by unfold r6F; rw [HHB.out, if_neg]; simp only [decide_eq_true_eq]; exact fun h => h0 h.1))
        clear h0
        go_wp2_with (first | (go_at_call 81; refine HOP.out.mono ?_; rintro e w5 ⟨rfl, rfl⟩) | (go_at_call 77; refine (must_c _ _ _).mono ?_; rintro e w5 ⟨m1, m2, rfl⟩; first | (obtain rfl := m1 rfl; clear m1 m2) | (obtain rfl := m2 rfl; clear m1 m2)))
        rw [← HE.out]
        go_roundg g1
        case measure => omega
        case rel => exact ⟨k + 1, by simp, ⟨by have := hkg.out; omega⟩, ⟨HB1.out⟩, ⟨HX.out⟩⟩
      case pos =>
      have hd4 : (kd == 0) = true := by simpa using h0
      by_cases h1 : d < o
      case neg =>
        have hd5 : decide (d < o) = false := decide_eq_false h1
        have hd5' : decide ((d : Int) < (o : Int)) = false := decide_eq_false (by omega)
        have HX := Lib.hid (HGOOD.out (by unfold r6F; rw [HHB.out, if_neg]; simp only [decide_eq_true_eq]; exact fun h => h1 h.2.1))
        clear h0 h1
        go_wp2_with (first | (go_at_call 81; refine HOP.out.mono ?_; rintro e w5 ⟨rfl, rfl⟩) | (go_at_call 77; refine (must_c _ _ _).mono ?_; rintro e w5 ⟨m1, m2, rfl⟩; first | (obtain rfl := m1 rfl; clear m1 m2) | (obtain rfl := m2 rfl; clear m1 m2)))
        rw [← HE.out]
        go_roundg g1
        case measure => omega
        case rel => exact ⟨k + 1, by simp, ⟨by have := hkg.out; omega⟩, ⟨HB1.out⟩, ⟨HX.out⟩⟩
      case pos =>
      have hd5 : decide (d < o) = true := decide_eq_true h1
      have hd5' : decide ((d : Int) < (o : Int)) = true := decide_eq_true (by omega)
      by_cases h2 : x = 0
      case neg =>
        have hd6 : ((x : Int) == 0) = false := by rw [beq_eq_false_iff_ne]; omega
        have HX := Lib.hid (HGOOD.out (by unfold r6F; rw [HHB.out, if_neg]; simp only [decide_eq_true_eq]; exact fun h => h2 h.2.2.1))
        clear h0 h1 h2
        go_wp2_with (first | (go_at_call 81; refine HOP.out.mono ?_; rintro e w5 ⟨rfl, rfl⟩) | (go_at_call 77; refine (must_c _ _ _).mono ?_; rintro e w5 ⟨m1, m2, rfl⟩; first | (obtain rfl := m1 rfl; clear m1 m2) | (obtain rfl := m2 rfl; clear m1 m2)))
        rw [← HE.out]
        go_roundg g1
        case measure => omega
        case rel => exact ⟨k + 1, by simp, ⟨by have := hkg.out; omega⟩, ⟨HB1.out⟩, ⟨HX.out⟩⟩
      case pos =>
      have hd6 : ((x : Int) == 0) = true := by rw [beq_iff_eq]; omega
      have HOP := HOPEN.out (HFIT.out h1 h2)
      cases h3 : im.openB (k + z) d with
      | false =>
        rw [h3] at HOP
        have HX := Lib.hid (HGOOD.out (by unfold r6F; rw [HHB.out, if_neg]; simp only [decide_eq_true_eq, h3]; exact fun h => nomatch h.2.2.2))
        have HOP := Lib.hid HOP
        clear h0 h1 h2 h3
        go_wp2_with (first | (go_at_call 81; refine HOP.out.mono ?_; rintro e w5 ⟨rfl, rfl⟩) | (go_at_call 77; refine (must_c _ _ _).mono ?_; rintro e w5 ⟨m1, m2, rfl⟩; first | (obtain rfl := m1 rfl; clear m1 m2) | (obtain rfl := m2 rfl; clear m1 m2)))
        rw [← HE.out]
        go_roundg g1
        case measure => omega
        case rel => exact ⟨k + 1, by simp, ⟨by have := hkg.out; omega⟩, ⟨HB1.out⟩, ⟨HX.out⟩⟩
      | true =>
        rw [h3] at HOP
        have HX := Lib.hid (HBAD.out k (by unfold r6F; rw [HHB.out, if_pos]; simp only [decide_eq_true_eq, h3]; exact ⟨h0, h1, h2, trivial⟩))
        have HOP := Lib.hid HOP
        clear h0 h1 h2 h3
        go_wp2_with (first | (go_at_call 81; refine HOP.out.mono ?_; rintro e w5 ⟨rfl, rfl⟩) | (go_at_call 77; refine (must_c _ _ _).mono ?_; rintro e w5 ⟨m1, m2, rfl⟩; first | (obtain rfl := m1 rfl; clear m1 m2) | (obtain rfl := m2 rfl; clear m1 m2)))
        exact ⟨rfl, RuleP_bad HX.out HB1.out⟩
    · have hkd : decide ((k : Int) < (im.pages.length : Int)) = false := decide_eq_false (by omega)
      have HK := Lib.hid hk
      clear hk
      go_wp2
      go_end0
      refine RuleP_ok ?_ hbe.out
      have h := hsc.out
      rw [show gk = 0 from by have := HK.out; have := hkg.out; omega, scan] at h
      exact h.symm
end Go.Proofs.Ytkgedpcipaogjaa.WB
end
section
namespace Go.Proofs.Ytkgedpcipaogjaa.WB
open Go Go.RowKit Go.Proofs.YtkgedpcipaogjaaW.PrintWords Go.Proofs.YtkgedpcipaogjaaW.PrintLast Go.Proofs.YtkgedpcipaogjaaW.PrintMore
set_option linter.unusedVariables false
set_option linter.unusedSimpArgs false
theorem pgEq_t {p q : Pg} : pgEq p q = true ↔ p = q := by
  unfold pgEq
  simp only [Bool.and_eq_true, beq_iff_eq]
  constructor
  · rintro ⟨h1, h2, h3, h4, h5, h6, h7, h8, h9, h10, h11⟩
    cases p; cases q
    simp_all
  · rintro rfl
    exact ⟨rfl, rfl, rfl, rfl, rfl, rfl, rfl, rfl, rfl, rfl, rfl⟩
theorem lt_step {n a g z : Nat} (h : n < a + (g + 1)) (hz : 1 ≤ z) : n < a + z + g := by omega
def plainP (kd od : Int) : Pg := ⟨kd, od, 0, 0, -1, -1, -1, 0, 0, 0, 0⟩
theorem plain_eq {p : Pg} {kd od : Int} : pgEq p (plainP kd od) = decide (p.kd = kd ∧ p.od = od ∧ plainB p = true) := by
  rw [Bool.eq_iff_iff, pgEq_t, decide_eq_true_eq]
  unfold plainB plainP
  rw [decide_eq_true_eq]
  constructor
  · rintro rfl
    exact ⟨rfl, rfl, rfl, rfl, rfl, rfl, rfl, rfl, rfl, rfl, rfl⟩
  · rintro ⟨h1, h2, h3, h4, h5, h6, h7, h8, h9, h10, h11⟩
    cases p
    simp_all
def runI (im : Im) (a : Nat) (i : Nat) : Option Int := if (im.pg (a + i)).kd = (im.pg a).kd + 1 ∧ (im.pg (a + i)).od = (im.pg a).od ∧ plainB (im.pg (a + i)) = true then none else some ((a + i : Nat) : Int)
theorem runF_step {im : Im} {g1 a d : Nat} (hk : a < im.pages.length) (hd : (im.pg a).od = (d : Int)) : runF im (g1 + 1) a = if (im.pg a).kd = 4 then (if (im.pg a).od = 0 then runF im g1 (a + 1) else some (a : Int)) else if ((im.pg a).kd = 0 ∨ (im.pg a).kd = 2) ∧ a % 2 ^ d = 0 ∧ plainB (im.pg a) = true then (match scan (runI im a) (2 ^ d - 1) 1 with | some p => some p | none => runF im g1 (a + 2 ^ d)) else some (a : Int) := by
  have e : runI im a = fun i => if (im.pg (a + i)).kd = (im.pg a).kd + 1 ∧ (im.pg (a + i)).od = (d : Int) ∧ plainB (im.pg (a + i)) = true then none else some ((a + i : Nat) : Int) := by
    funext i
    unfold runI
    rw [hd]
  rw [e, runF, if_pos (show a < im.n from hk), hd, Int.toNat_natCast]
  generalize scan (fun i => if (im.pg (a + i)).kd = (im.pg a).kd + 1 ∧ (im.pg (a + i)).od = (d : Int) ∧ plainB (im.pg (a + i)) = true then none else some ((a + i : Nat) : Int)) (2 ^ d - 1) 1 = sc
  cases sc <;> rfl
set_option maxRecDepth 100000 in
set_option maxHeartbeats 4000000 in
theorem runs_c {F : Nat → Prop} {gv : Nat} {im : Im} {s : Sl} {P : Value} {w : World} (h : V F gv im s P w) (hF : ∀ b, F b → b < w.heap.size) (hgv : gv < w.heap.size) {o r : Nat} (hgeo : Geo im o r) (hR : ∀ i, i < im.pages.length → Rng im.order ((im.n : Int) - 1) (im.pg i)) :
    RuleB 55 gv w (R4 im) := by
  show Calls Try.prog 55 #[.pointer (some ⟨gv, 0, none⟩)] w (RuleP w (R4 im))
  have HV := Lib.hid h
  have hl := len_i64 h.im.wf
  have HF := Lib.hid hF
  have HG := Lib.hid hgv
  have HR := Lib.hid hR
  have HGEO := Lib.hid hgeo
  have hn9 : (im.pages.length : Int) ≤ 1024 := by have := hgeo.n1024; unfold Im.n at this; omega
  have hgd : ∀ (x y : Operand) (xs ys : Array Value) (w : World), (eqGuard .eql 39 x y (.agg xs) (.agg ys)).run Try.prog w = .ok () w := eqGuardPage
  clear h hF hgv hR hgeo
  go_enter Try.func55, Try.ntmps55
  go_wp2
  go_loopg [2] (im.pages.length + 1) (fun g v wr => ∃ a : Nat, v = .int .i64 (a : Int) ∧ Aside0 (a ≤ im.pages.length) ∧ Aside0 (im.pages.length < a + g) ∧ Aside0 (Below w.heap.size w wr) ∧ Aside0 (runF im g a = R4 im))
  case atStart => exact ⟨0, rfl, ⟨Nat.zero_le _⟩, ⟨by omega⟩, ⟨Below.refl _ _⟩, ⟨rfl⟩⟩
  case round =>
    obtain ⟨a, rfl, hale, hag, hbe, hsc⟩ := hrel
    have hv : V F gv im s P wr := HV.out.keep (hbe.out.block _ HG.out) (fun b hb => hbe.out.block b (HF.out b hb))
    obtain ⟨c0, c1, c2, c3, c4, c5, c6, c7, c8, c9⟩ := hv.cell
    clear c0 c1 c2 c3 c4 c6 c7 c8 c9
    by_cases hk : a < im.pages.length
    · have hkI : (a : Int) < (im.pages.length : Int) := by omega
      have hkd : decide ((a : Int) < (im.pages.length : Int)) = true := decide_eq_true hkI
      have hkd2 : decide (a < im.pages.length) = true := decide_eq_true hk
      obtain ⟨g1, rfl⟩ : ∃ g1, gk = g1 + 1 := ⟨gk - 1, by have := hag.out; have := hale.out; omega⟩
      have hv2 : V F gv im s P (wr.alloc (pageO (im.pg a))) := hv.keep (Below.heap_alloc wr _ _ (Nat.lt_of_lt_of_le HG.out hbe.out.size)) (fun b hb => Below.heap_alloc wr _ _ (Nat.lt_of_lt_of_le (HF.out b hb) hbe.out.size))
      obtain ⟨ad, e, hF, p0, p1, p2, p3, p4, p5, p6, p7, p8, p9, p10⟩ := hv.page a hk
      rw [e] at c5
      have HE := Lib.hid e
      have hn1 := blk_new wr (pageO (im.pg a))
      obtain ⟨q0, q1, q2, q3, q4, q5, q6, q7, q8, q9, q10⟩ := page_var hn1
      have HK := Lib.hid hk
      have HB1 := Lib.hid (show Below w.heap.size w (wr.alloc (pageO (im.pg a))) from hbe.out.alloc hbe.out.size _)
      have HSZ := Lib.hid hbe.out.size
      have HSC := Lib.hid hsc.out
      have hr := HR.out a hk
      have ho := HGEO.out.order
      have ho8 := HGEO.out.o8
      obtain ⟨d, hd⟩ : ∃ d : Nat, (im.pg a).od = d := ⟨(im.pg a).od.toNat, by have := hr.od; omega⟩
      have hdo : d ≤ o := by have := hr.od; rw [ho] at this; omega
      have hs1 := sh1 (d := d) (by omega)
      have hp9 := pow9 (d := d) (by omega)
      have HFIT := Lib.hid (show a % 2 ^ d = 0 → a + 2 ^ d ≤ im.pages.length from fun h => HGEO.out.fits hdo hk h)
      have HRUN := Lib.hid (show runF im (g1 + 1) a = if (im.pg a).kd = 4 then (if (im.pg a).od = 0 then runF im g1 (a + 1) else some (a : Int)) else if ((im.pg a).kd = 0 ∨ (im.pg a).kd = 2) ∧ a % 2 ^ d = 0 ∧ plainB (im.pg a) = true then (match scan (runI im a) (2 ^ d - 1) 1 with | some p => some p | none => runF im g1 (a + 2 ^ d)) else some (a : Int) from runF_step hk hd)
      obtain ⟨z, hz⟩ : ∃ z, 2 ^ d = z := ⟨_, rfl⟩
      rw [hz] at hs1 hp9
      rw [hz] at HFIT HRUN
      have hs1' : IntKind.i64.wrap (2 ^ d) = (z : Int) := by rw [i64_w]; exact hs1
      have hz1 : (z : Int) ≤ 256 := by omega
      have hz2 : 1 ≤ (z : Int) := by omega
      have hz3 : ¬ (z : Int) = 0 := by omega
      have hz4 : ¬ z = 0 := by omega
      have HZN := Lib.hid (show 1 ≤ z by omega)
      have hdI : (d : Int) ≤ 8 := by omega
      have htm : Int.tmod (a : Int) (z : Int) = ((a % z : Nat) : Int) := by rw [Int.tmod_eq_emod_of_nonneg (by omega)]; omega
      obtain ⟨x, hx⟩ : ∃ x, a % z = x := ⟨_, rfl⟩
      have htm2 : (a : Int) % (z : Int) = (x : Int) := by omega
      rw [hx] at htm
      rw [hx] at HFIT HRUN
      obtain ⟨kd, hkd0⟩ : ∃ kd, (im.pg a).kd = kd := ⟨_, rfl⟩
      have hkb : 0 ≤ kd ∧ kd ≤ 4 := hkd0 ▸ hr.kd
      obtain ⟨hkb0, hkb4⟩ := hkb
      have HPE := Lib.hid (show ∀ w, (binOp .eql 39 (.agg #[.int .i64 kd, .int .i64 (d : Int), .int .i64 (im.pg a).cl, .int .i64 (im.pg a).lv, .int .i64 (im.pg a).nx, .int .i64 (im.pg a).pv, .int .i64 (im.pg a).fs, .int .u64 (im.pg a).b0, .int .u64 (im.pg a).b1, .int .u64 (im.pg a).b2, .int .u64 (im.pg a).b3]) (.agg #[.int .i64 kd, .int .i64 (d : Int), .int .i64 0, .int .i64 0, .int .i64 (-1), .int .i64 (-1), .int .i64 (-1), .int .u64 0, .int .u64 0, .int .u64 0, .int .u64 0])).run Try.prog w = .ok (.bool (plainB (im.pg a))) w from fun w => by
        have := page_eql (im.pg a) (plainP kd d) w
        rw [plain_eq, hkd0, hd] at this
        unfold Pg.arr at this
        rw [hkd0, hd] at this
        simp only [true_and, Bool.decide_eq_true] at this
        exact this)
      obtain ⟨pb, hpb⟩ : ∃ pb, plainB (im.pg a) = pb := ⟨_, rfl⟩
      have HPI := Lib.hid (show ∀ j, pgEq (im.pg (a + j)) (plainP (kd + 1) d) = (runI im a j).isNone from fun j => by
        rw [plain_eq]
        unfold runI
        rw [hkd0, hd]
        by_cases hc : (im.pg (a + j)).kd = kd + 1 ∧ (im.pg (a + j)).od = (d : Int) ∧ plainB (im.pg (a + j)) = true
        · rw [if_pos hc, decide_eq_true hc]; rfl
        · rw [if_neg hc, decide_eq_false hc]; rfl)
      have HPJ := Lib.hid (show ∀ j, runI im a j = none ∨ runI im a j = some ((a + j : Nat) : Int) from fun j => by
        unfold runI
        split
        · exact Or.inl rfl
        · exact Or.inr rfl)
      rw [hpb] at HPE HRUN
      rw [hkd0, hd] at HRUN
      rw [hd] at q1 p1
      rw [hkd0] at q0 p0
      have hpg : pageO (im.pg a) = .cells #[.int .i64 kd, .int .i64 (d : Int), .int .i64 (im.pg a).cl, .int .i64 (im.pg a).lv, .int .i64 (im.pg a).nx, .int .i64 (im.pg a).pv, .int .i64 (im.pg a).fs, .int .u64 (im.pg a).b0, .int .u64 (im.pg a).b1, .int .u64 (im.pg a).b2, .int .u64 (im.pg a).b3] 39 (0, 0) := by unfold pageO; rw [hkd0, hd]
      rw [hpg] at HB1 q0 q1 q2 q3 q4 q5 q6 q7 q8 q9 q10
      have HV2 := Lib.hid hv2
      have HN1 := Lib.hid hn1
      rw [hpg] at HV2 HN1
      generalize im.pg a = p at *
      clear hpg hd hkd0 hz hp9 hr hv hv2 hn1 ho hpb hx hk hF e hale hsc
      by_cases h4 : kd = 4
      · have hd4 : (kd == 4) = true := by simpa using h4
        have HRUN2 := HRUN.out
        rw [if_pos h4] at HRUN2
        by_cases h0 : d = 0
        · have hd5 : ((d : Int) == 0) = true := by rw [beq_iff_eq]; omega
          have HX := Lib.hid (show runF im g1 (a + 1) = R4 im by rw [← HSC.out, HRUN2, if_pos (by omega)])
          clear h4 h0 HRUN2 htm htm2 hs1 hs1'
          go_wp2_with (go_at_call 77; refine (must_c _ _ _).mono ?_; rintro e w5 ⟨m1, m2, rfl⟩; first | (obtain rfl := m1 rfl; clear m1 m2) | (obtain rfl := m2 rfl; clear m1 m2))
          rw [← HE.out]
          go_roundg g1
          case measure => omega
          case rel => exact ⟨a + 1, by simp, ⟨by have := HK.out; omega⟩, ⟨by have := hag.out; omega⟩, ⟨HB1.out⟩, ⟨HX.out⟩⟩
        · have hd5 : ((d : Int) == 0) = false := by rw [beq_eq_false_iff_ne]; omega
          have HX := Lib.hid (show R4 im = some (a : Int) by rw [← HSC.out, HRUN2, if_neg (by omega)])
          clear h4 h0 HRUN2 htm htm2 hs1 hs1'
          go_wp2_with (go_at_call 77; refine (must_c _ _ _).mono ?_; rintro e w5 ⟨m1, m2, rfl⟩; first | (obtain rfl := m1 rfl; clear m1 m2) | (obtain rfl := m2 rfl; clear m1 m2))
          exact ⟨rfl, RuleP_bad HX.out HB1.out⟩
      · have hd4 : (kd == 4) = false := by simpa using h4
        have HRUN2 := HRUN.out
        rw [if_neg h4] at HRUN2
        have HRUN2 := Lib.hid HRUN2
        clear HRUN h4
        have HB2 := Lib.hid (show Below w.heap.size w ((wr.alloc (.cells #[.int .i64 kd, .int .i64 (d : Int), .int .i64 p.cl, .int .i64 p.lv, .int .i64 p.nx, .int .i64 p.pv, .int .i64 p.fs, .int .u64 p.b0, .int .u64 p.b1, .int .u64 p.b2, .int .u64 p.b3] 39 (0, 0))).alloc (.cells #[.int .i64 kd, .int .i64 (d : Int), .int .i64 0, .int .i64 0, .int .i64 (-1), .int .i64 (-1), .int .i64 (-1), .int .u64 0, .int .u64 0, .int .u64 0, .int .u64 0] 39 (0, 0))) from HB1.out.alloc (HB1.out.size) _)
        have hpe := HPE.out
        have HN02 := Lib.hid (show ¬ (x = 0 ∧ pb = true ∧ (kd = 0 ∨ kd = 2)) → R4 im = some (a : Int) from fun h => by
          rw [← HSC.out, HRUN2.out, if_neg]
          rintro ⟨h0, h1, h2⟩
          exact h ⟨h1, h2, h0⟩)
        have KEY3 := Lib.hid (show x = 0 ∧ pb = true ∧ (kd = 0 ∨ kd = 2) → (match scan (runI im a) (z - 1) 1 with | some p => some p | none => runF im g1 (a + z)) = R4 im from fun h => by
          rw [← HSC.out, HRUN2.out, if_pos ⟨h.2.2, h.1, h.2.1⟩])
        go_upto_region 7 with (fail)
        go_cut [57] (fun c wx => c = .bool true ∧ wx = ((wr.alloc (.cells #[.int .i64 kd, .int .i64 (d : Int), .int .i64 p.cl, .int .i64 p.lv, .int .i64 p.nx, .int .i64 p.pv, .int .i64 p.fs, .int .u64 p.b0, .int .u64 p.b1, .int .u64 p.b2, .int .u64 p.b3] 39 (0, 0))).alloc (.cells #[.int .i64 kd, .int .i64 (d : Int), .int .i64 0, .int .i64 0, .int .i64 (-1), .int .i64 (-1), .int .i64 (-1), .int .u64 0, .int .u64 0, .int .u64 0, .int .u64 0] 39 (0, 0))) ∧ Aside0 (x = 0 ∧ pb = true ∧ (kd = 0 ∨ kd = 2)))
        case first =>
          by_cases h02 : kd = 0 ∨ kd = 2
          · have HK02 := Lib.hid h02
            rcases h02 with rfl | rfl
            all_goals
              by_cases hx0 : x = 0
              · have hd6 : ((x : Int) == 0) = true := by rw [beq_iff_eq]; omega
                have HX0 := Lib.hid hx0
                clear hx0
                cases pb
                · have hpe := HPE.out
                  have HX := Lib.hid (HN02.out (fun h => nomatch h.2.1))
                  go_wp2_with (go_at_call 77; refine (must_c _ _ _).mono ?_; rintro e w5 ⟨m1, m2, rfl⟩; first | (obtain rfl := m1 rfl; clear m1 m2) | (obtain rfl := m2 rfl; clear m1 m2))
                  exact ⟨rfl, RuleP_bad HX.out HB2.out⟩
                · have hpe := HPE.out
                  go_wp2_with (go_at_call 77; refine (must_c _ _ _).mono ?_; rintro e w5 ⟨m1, m2, rfl⟩; first | (obtain rfl := m1 rfl; clear m1 m2) | (obtain rfl := m2 rfl; clear m1 m2))
                  go_meet
                  exact ⟨by first | rfl | trivial, by first | rfl | trivial, ⟨HX0.out, by first | rfl | trivial, HK02.out⟩⟩
              · have hd6 : ((x : Int) == 0) = false := by rw [beq_eq_false_iff_ne]; omega
                have HX := Lib.hid (HN02.out (fun h => hx0 h.1))
                clear hx0
                go_wp2_with (go_at_call 77; refine (must_c _ _ _).mono ?_; rintro e w5 ⟨m1, m2, rfl⟩; first | (obtain rfl := m1 rfl; clear m1 m2) | (obtain rfl := m2 rfl; clear m1 m2))
                exact ⟨rfl, RuleP_bad HX.out HB2.out⟩
          · have hd5 : (kd == 0) = false := by rw [beq_eq_false_iff_ne]; omega
            have hd6 : (kd == 2) = false := by rw [beq_eq_false_iff_ne]; omega
            have HX := Lib.hid (HN02.out (fun h => h02 h.2.2))
            clear h02
            go_wp2_with (go_at_call 77; refine (must_c _ _ _).mono ?_; rintro e w5 ⟨m1, m2, rfl⟩; first | (obtain rfl := m1 rfl; clear m1 m2) | (obtain rfl := m2 rfl; clear m1 m2))
            exact ⟨rfl, RuleP_bad HX.out HB2.out⟩
        case rest =>
            obtain ⟨rfl, rfl, hcx⟩ := hcut
            have hkw : wrap64 (kd + 1) = kd + 1 := by unfold wrap64; omega
            have HX3 := Lib.hid (KEY3.out hcx.out)
            have hfz := HFIT.out hcx.out.1
            go_wp2_with (go_at_call 77; refine (must_c _ _ _).mono ?_; rintro e w5 ⟨m1, m2, rfl⟩; first | (obtain rfl := m1 rfl; clear m1 m2) | (obtain rfl := m2 rfl; clear m1 m2))
            obtain ⟨wo, hwo⟩ : ∃ wo, wo = wr := ⟨_, rfl⟩
            subst hwo
            have HKW := Lib.hid hkw
            have HPE2 := ()
            obtain ⟨W3, hW3⟩ : ∃ W3, W3 = ((wo.alloc (.cells #[.int .i64 kd, .int .i64 (d : Int), .int .i64 p.cl, .int .i64 p.lv, .int .i64 p.nx, .int .i64 p.pv, .int .i64 p.fs, .int .u64 p.b0, .int .u64 p.b1, .int .u64 p.b2, .int .u64 p.b3] 39 (0, 0))).alloc (.cells #[.int .i64 (kd + 1), .int .i64 (d : Int), .int .i64 0, .int .i64 0, .int .i64 (-1), .int .i64 (-1), .int .i64 (-1), .int .u64 0, .int .u64 0, .int .u64 0, .int .u64 0] 39 (0, 0))) := ⟨_, rfl⟩
            have HB3 := Lib.hid (show Below w.heap.size w W3 by rw [hW3]; exact HB1.out.alloc HB1.out.size _)
            have HP3 := Lib.hid (show W3.heap[wo.heap.size]? = some (.cells #[.int .i64 kd, .int .i64 (d : Int), .int .i64 p.cl, .int .i64 p.lv, .int .i64 p.nx, .int .i64 p.pv, .int .i64 p.fs, .int .u64 p.b0, .int .u64 p.b1, .int .u64 p.b2, .int .u64 p.b3] 39 (0, 0)) by rw [hW3]; exact blk_alloc (blk_new _ _) _)
            have HQ3 := Lib.hid (show W3.heap[wo.heap.size + 1]? = some (pageO (plainP (kd + 1) d)) by
              rw [hW3]
              have := blk_new (wo.alloc (.cells #[.int .i64 kd, .int .i64 (d : Int), .int .i64 p.cl, .int .i64 p.lv, .int .i64 p.nx, .int .i64 p.pv, .int .i64 p.fs, .int .u64 p.b0, .int .u64 p.b1, .int .u64 p.b2, .int .u64 p.b3] 39 (0, 0))) (.cells #[.int .i64 (kd + 1), .int .i64 (d : Int), .int .i64 0, .int .i64 0, .int .i64 (-1), .int .i64 (-1), .int .i64 (-1), .int .u64 0, .int .u64 0, .int .u64 0, .int .u64 0] 39 (0, 0))
              simp only [World.size_alloc] at this
              exact this)
            have HV3 := Lib.hid (show V F gv im s P W3 by
              rw [hW3]
              exact HV2.out.keep (Below.heap_alloc _ _ _ (by have h1 := HG.out; have h2 := HSZ.out; simp; omega)) (fun b hb => Below.heap_alloc _ _ _ (by have h1 := HF.out b hb; have h2 := HSZ.out; simp; omega)))
            rw [← hW3]
            clear hW3 q0 q1 q2 q3 q4 q5 q6 q7 q8 q9 q10 p0 p1 p2 p3 p4 p5 p6 p7 p8 p9 p10 c5
            go_loopg [5, 64, 65, 66, 67, 68, 69, 70, 71, 72, 73, 74, 75, 76, 77, 78, 79, 80, 81, 82, 83, 84, 85, 86] (z - 1) (fun g v _ _ _ _ _ _ _ _ _ _ _ _ _ _ _ _ _ _ _ _ _ _ _ wi => ∃ j : Nat, v = .int .i64 (j : Int) ∧ Aside0 (1 ≤ j) ∧ Aside0 (j + g = z) ∧ Aside0 (scan (runI im a) g j = scan (runI im a) (z - 1) 1) ∧ Aside0 (wi.heap = W3.heap) ∧ Aside0 (Below w.heap.size w wi))
            case atStart => exact ⟨1, rfl, ⟨Nat.le_refl _⟩, ⟨by omega⟩, ⟨rfl⟩, ⟨rfl⟩, ⟨HB3.out⟩⟩
            case round =>
              obtain ⟨j, rfl, hj1, hjg, hscn, hheap, hbel⟩ := hrel
              obtain ⟨-, k1, -⟩ := page_var (p := ⟨kd, d, p.cl, p.lv, p.nx, p.pv, p.fs, p.b0, p.b1, p.b2, p.b3⟩) (show wr.heap[wo.heap.size]? = some (pageO ⟨kd, d, p.cl, p.lv, p.nx, p.pv, p.fs, p.b0, p.b1, p.b2, p.b3⟩) by rw [hheap.out]; exact HP3.out)
              by_cases hj : j < z
              · have hjd : decide (j < z) = true := decide_eq_true hj
                have hjd' : decide ((j : Int) < (z : Int)) = true := decide_eq_true (by omega)
                obtain ⟨g2, rfl⟩ : ∃ g2, gk = g2 + 1 := ⟨gk - 1, by have := hjg.out; omega⟩
                obtain ⟨q, hq⟩ : ∃ q, a + j = q := ⟨_, rfl⟩
                have hqn : q < im.pages.length := by omega
                have hj256 : (j : Int) ≤ 256 := by omega
                have hqI : (q : Int) < (im.pages.length : Int) := by omega
                have hsw : wrap64 ((a : Int) + (j : Int)) = (q : Int) := by unfold wrap64; omega
                have hsw' : IntKind.i64.wrap ((a : Int) + (j : Int)) = (q : Int) := by rw [i64_w]; exact hsw
                obtain ⟨w2, hw2⟩ : ∃ w2, wr.drew = w2 := ⟨_, rfl⟩
                have hh2 : w2.heap = W3.heap := by rw [← hw2]; exact hheap.out
                have hb2 : Below w.heap.size w w2 := hw2 ▸ below_drew1 hbel.out
                have hv3 : V F gv im s P w2 := HV3.out.keep (by rw [hh2]) (fun b _ => by rw [hh2])
                obtain ⟨-, -, -, -, -, c5, -, -, -, -⟩ := hv3.cell
                rw [HE.out] at c5
                obtain ⟨ad2, e2, -, r0, r1, r2, r3, r4, r5, r6, r7, r8, r9, r10⟩ := hv3.page q hqn
                obtain rfl : ad2 = ad := by rw [HE.out] at e2; injection e2 with e2; exact e2.symm
                obtain ⟨t0, t1, t2, t3, t4, t5, t6, t7, t8, t9, t10⟩ := page_var (p := plainP (kd + 1) d) (show w2.heap[wo.heap.size + 1]? = some (pageO (plainP (kd + 1) d)) by rw [hh2]; exact HQ3.out)
                have hpi := HPI.out j
                rw [hq] at hpi
                have hpj := HPJ.out j
                rw [hq] at hpj
                have HQQ := Lib.hid hq
                have heq : ∀ w, (binOp .eql 39 (.agg #[.int .i64 (im.pg q).kd, .int .i64 (im.pg q).od, .int .i64 (im.pg q).cl, .int .i64 (im.pg q).lv, .int .i64 (im.pg q).nx, .int .i64 (im.pg q).pv, .int .i64 (im.pg q).fs, .int .u64 (im.pg q).b0, .int .u64 (im.pg q).b1, .int .u64 (im.pg q).b2, .int .u64 (im.pg q).b3]) (.agg #[.int .i64 (kd + 1), .int .i64 (d : Int), .int .i64 0, .int .i64 0, .int .i64 (-1), .int .i64 (-1), .int .i64 (-1), .int .u64 0, .int .u64 0, .int .u64 0, .int .u64 0])).run Try.prog w = .ok (.bool (pgEq (im.pg q) (plainP (kd + 1) d))) w := fun w => page_eql (im.pg q) (plainP (kd + 1) d) w
                simp only [plainP] at t0 t1 t2 t3 t4 t5 t6 t7 t8 t9 t10
                obtain ⟨pe, hpe⟩ : ∃ pe, pgEq (im.pg q) (plainP (kd + 1) d) = pe := ⟨_, rfl⟩
                rw [hpe] at heq hpi
                generalize im.pg q = pq at *
                have HW2 := Lib.hid hw2
                have HB2' := Lib.hid hb2
                have HH2 := Lib.hid hh2
                have HPI2 := Lib.hid hpi
                have HPJ2 := Lib.hid hpj
                have HHE := Lib.hid hheap.out
                clear hv3 e2 hq hpi hpj hpe hw2 hb2 hh2 hqn hj
                cases pe with
                | true =>
                  have hnone : runI im a j = none := by
                    have := HPI2.out
                    cases hr : runI im a j with
                    | none => rfl
                    | some _ => rw [hr] at this; cases this
                  have HX := Lib.hid (show scan (runI im a) g2 (j + 1) = scan (runI im a) (z - 1) 1 from (scan_ok hnone).symm.trans hscn.out)
                  clear hnone
                  go_wp2
                  refine bx_tail 15 HW2.out (by kernel_rfl) (by kernel_rfl) ?_
                  simp only [List.take_succ_cons, List.take_zero, List.drop_succ_cons, List.drop_zero]
                  iterate 15 (refine bx_want (by kernel_rfl) (fun K hK => ?_); go_simp; refine hK _ ?_; clear hK K)
                  refine bx_nil ?_
                  go_wp2_with (go_at_call 77; refine (must_c _ _ _).mono ?_; rintro e w5 ⟨m1, m2, rfl⟩; first | (obtain rfl := m1 rfl; clear m1 m2) | (obtain rfl := m2 rfl; clear m1 m2))
                  go_roundg g2
                  case measure => omega
                  case rel => exact ⟨j + 1, by simp, ⟨by omega⟩, ⟨by have := hjg.out; omega⟩, ⟨HX.out⟩, ⟨HH2.out⟩, ⟨HB2'.out⟩⟩
                | false =>
                  have hsome : runI im a j = some (q : Int) := by
                    have := HPI2.out
                    rcases HPJ2.out with hr | hr
                    · rw [hr] at this; cases this
                    · exact hr
                  have HX := Lib.hid (show R4 im = some (q : Int) by
                    have h1 := hscn.out
                    rw [scan_bad hsome] at h1
                    have h2 := HX3.out
                    rw [← h1] at h2
                    exact h2.symm)
                  clear hsome
                  go_wp2
                  refine bx_tail 15 HW2.out (by kernel_rfl) (by kernel_rfl) ?_
                  simp only [List.take_succ_cons, List.take_zero, List.drop_succ_cons, List.drop_zero]
                  iterate 15 (refine bx_want (by kernel_rfl) (fun K hK => ?_); go_simp; refine hK _ ?_; clear hK K)
                  refine bx_nil ?_
                  go_wp2_with (go_at_call 77; refine (must_c _ _ _).mono ?_; rintro e w5 ⟨m1, m2, rfl⟩; first | (obtain rfl := m1 rfl; clear m1 m2) | (obtain rfl := m2 rfl; clear m1 m2))
                  exact ⟨rfl, RuleP_bad HX.out HB2'.out⟩
              · have hjd : decide (j < z) = false := decide_eq_false hj
                have hjd' : decide ((j : Int) < (z : Int)) = false := decide_eq_false (by omega)
                have hjz : j = z := by have := hjg.out; omega
                have hg0 : gk = 0 := by have := hjg.out; omega
                have HX := Lib.hid (show runF im g1 (a + z) = R4 im by
                  have h1 := hscn.out
                  rw [hg0, scan] at h1
                  have h2 := HX3.out
                  rw [← h1] at h2
                  exact h2)
                have hsw : wrap64 ((a : Int) + (z : Int)) = (a : Int) + (z : Int) := by unfold wrap64; omega
                have HFZ := Lib.hid hfz
                have HBEL := Lib.hid hbel.out
                have HLT2 := Lib.hid (lt_step hag.out HZN.out)
                clear hj hjz hg0
                go_wp2
                try rw [← HE.out]
                go_roundg g1
                case measure => omega
                case rel => exact ⟨a + z, by simp, ⟨HFZ.out⟩, ⟨HLT2.out⟩, ⟨HBEL.out⟩, ⟨HX.out⟩⟩
    · have hkd : decide ((a : Int) < (im.pages.length : Int)) = false := decide_eq_false (by omega)
      have hkd2 : decide (a < im.pages.length) = false := decide_eq_false hk
      have HK := Lib.hid hk
      clear hk hv
      go_wp2
      go_end0
      refine RuleP_ok ?_ hbe.out
      have h := hsc.out
      obtain ⟨g1, rfl⟩ : ∃ g1, gk = g1 + 1 := ⟨gk - 1, by have := hag.out; have := hale.out; omega⟩
      rw [runF, if_neg (show ¬ a < im.n from HK.out)] at h
      exact h.symm
end Go.Proofs.Ytkgedpcipaogjaa.WB
end
section
namespace Go.Proofs.Ytkgedpcipaogjaa.WB
open Go Go.RowKit Go.Proofs.YtkgedpcipaogjaaW.PrintWords Go.Proofs.YtkgedpcipaogjaaW.PrintLast Go.Proofs.YtkgedpcipaogjaaW.PrintMore
set_option linter.unusedVariables false
set_option linter.unusedSimpArgs false
def r5F (im : Im) (i : Nat) : Option Int := if (im.pg i).kd = 4 ∧ slabB (im.pg i) = false then some i else none
theorem slabB_t {p : Pg} : slabB p = true ↔ (∀ k, k < 256 → p.bit k = true → k < cellsN p.cl) ∧ ((cnt p.bit 256 : Nat) : Int) = p.lv ∧ 0 < cnt p.bit 256 := by
  unfold slabB
  simp only [Bool.and_eq_true, List.all_eq_true, List.mem_range, Bool.or_eq_true, Bool.not_eq_true', decide_eq_true_eq]
  constructor
  · rintro ⟨h1, h2, h3⟩
    refine ⟨fun k hk hb => ?_, h2, h3⟩
    rcases h1 k hk with h | h
    · rw [hb] at h; cases h
    · exact h
  · rintro ⟨h1, h2, h3⟩
    refine ⟨fun k hk => ?_, h2, h3⟩
    cases hb : p.bit k with
    | false => exact Or.inl rfl
    | true => exact Or.inr (h1 k hk hb)
theorem slabB_f {p : Pg} (h : ¬ ((∀ k, k < 256 → p.bit k = true → k < cellsN p.cl) ∧ ((cnt p.bit 256 : Nat) : Int) = p.lv ∧ 0 < cnt p.bit 256)) : slabB p = false := by
  rw [← slabB_t] at h
  simpa using h
set_option maxRecDepth 100000 in
set_option maxHeartbeats 4000000 in
theorem slabs_c {F : Nat → Prop} {gv : Nat} {im : Im} {s : Sl} {P : Value} {w : World} (h : V F gv im s P w) (hF : ∀ b, F b → b < w.heap.size) (hgv : gv < w.heap.size) (hR : ∀ i, i < im.pages.length → Rng im.order ((im.n : Int) - 1) (im.pg i)) :
    RuleB 56 gv w (R5 im) := by
  show Calls Try.prog 56 #[.pointer (some ⟨gv, 0, none⟩)] w (RuleP w (R5 im))
  have HV := Lib.hid h
  obtain ⟨c0, c1, c2, c3, c4, c5, c6, c7, c8, c9⟩ := h.cell
  have hl := len_i64 h.im.wf
  have HF := Lib.hid hF
  have HG := Lib.hid hgv
  have HR := Lib.hid hR
  clear hR
  clear h hF hgv c0 c1 c2 c3 c4 c6 c7 c8 c9
  go_enter Try.func56, Try.ntmps56
  go_wp2
  clear c5
  go_loopg [14] im.pages.length (fun g v wr => ∃ k : Nat, v = .int .i64 (k : Int) ∧ Aside0 (k + g = im.pages.length) ∧ Aside0 (Below w.heap.size w wr) ∧ Aside0 (scan (r5F im) g k = R5 im))
  case atStart => exact ⟨0, rfl, ⟨by omega⟩, ⟨Below.refl _ _⟩, ⟨rfl⟩⟩
  case round =>
    obtain ⟨k, rfl, hkg, hbe, hsc⟩ := hrel
    by_cases hk : k < im.pages.length
    · have hkI : (k : Int) < (im.pages.length : Int) := by omega
      have hkd : decide ((k : Int) < (im.pages.length : Int)) = true := decide_eq_true hkI
      obtain ⟨g1, rfl⟩ : ∃ g1, gk = g1 + 1 := ⟨gk - 1, by have := hkg.out; omega⟩
      have hv : V F gv im s P wr := HV.out.keep (hbe.out.block _ HG.out) (fun b hb => hbe.out.block b (HF.out b hb))
      have hv2 : V F gv im s P (wr.alloc (pageO (im.pg k))) := hv.keep (Below.heap_alloc wr _ _ (Nat.lt_of_lt_of_le HG.out hbe.out.size)) (fun b hb => Below.heap_alloc wr _ _ (Nat.lt_of_lt_of_le (HF.out b hb) hbe.out.size))
      obtain ⟨ad, e, hF, p0, p1, p2, p3, p4, p5, p6, p7, p8, p9, p10⟩ := hv.page k hk
      rw [e]
      have HE := Lib.hid e
      have HBAD := Lib.hid (show ∀ pl, r5F im k = some pl → R5 im = some pl from fun pl h => hsc.out.symm.trans (scan_bad h))
      have HGOOD := Lib.hid (show r5F im k = none → scan (r5F im) g1 (k + 1) = R5 im from fun h => (scan_ok h).symm.trans hsc.out)
      have HK := Lib.hid hk
      have HB1 := Lib.hid (show Below w.heap.size w (wr.alloc (pageO (im.pg k))) from hbe.out.alloc hbe.out.size _)
      have HSZ := Lib.hid hbe.out.size
      clear hF e hk
      have hr := HR.out k HK.out
      have HSL := Lib.hid (slab_c hv2 k HK.out hr.cl.1 hr.cl.2)
      have HN1 := Lib.hid (blk_new wr (pageO (im.pg k)))
      have HV2 := Lib.hid hv2
      have HG2 := Lib.hid (show gv < (wr.alloc (pageO (im.pg k))).heap.size by have h1 := HG.out; have h2 := HSZ.out; simp; omega)
      have HF2 := Lib.hid (show ∀ b, F b → b < (wr.alloc (pageO (im.pg k))).heap.size from fun b hb => by have h1 := HF.out b hb; have h2 := HSZ.out; simp; omega)
      obtain ⟨p, hp⟩ : ∃ p, im.pg k = p := ⟨_, rfl⟩
      have HP := Lib.hid hp
      rw [hp] at p0 p1 p2 p3 p4 p5 p6 p7 p8 p9 p10 HSL HN1 HB1 HV2 HG2 HF2
      obtain ⟨n, hn⟩ : ∃ n, cellsN p.cl = n := ⟨_, rfl⟩
      have HN := Lib.hid hn
      rw [hn] at HSL
      unfold pageO at HSL HN1 HB1 HV2 HG2 HF2
      clear hp hn hv hv2 hr
      by_cases h4 : p.kd = 4
      case neg =>
        have hd4 : (p.kd == 4) = false := by simpa using h4
        have HX := Lib.hid (HGOOD.out (by unfold r5F; rw [HP.out]; exact if_neg (fun h => h4 h.1)))
        clear h4
        go_wp2_with (go_at_call 27; refine HSL.out.mono ?_; rintro e w5 ⟨rfl, hb5⟩; have HB5 := Lib.hid hb5; have HV5 := Lib.hid (HV2.out.keep (hb5.block _ HG2.out) (fun b hb => hb5.block b (HF2.out b hb))); obtain ⟨q0, q1, q2, q3, q4, q5, q6, -⟩ := page_var ((hb5.block _ (by simp)).trans HN1.out); clear hb5)
        rw [← HE.out]
        go_roundg g1
        case measure => omega
        case rel => exact ⟨k + 1, by simp, ⟨by have := hkg.out; omega⟩, ⟨(HB1.out.trans (HB5.out.mono HB1.out.size))⟩, ⟨HX.out⟩⟩
      case pos =>
      have hd4 : (p.kd == 4) = true := by simpa using h4
      have HBAD2 := Lib.hid (show ¬ ((∀ k, k < 256 → p.bit k = true → k < n) ∧ ((cnt p.bit 256 : Nat) : Int) = p.lv ∧ 0 < cnt p.bit 256) → R5 im = some (k : Int) from fun h => HBAD.out k (by unfold r5F; rw [HP.out]; exact if_pos ⟨h4, slabB_f (by rw [HN.out]; exact h)⟩))
      have HGOOD2 := Lib.hid (show ((∀ k, k < 256 → p.bit k = true → k < n) ∧ ((cnt p.bit 256 : Nat) : Int) = p.lv ∧ 0 < cnt p.bit 256) → scan (r5F im) g1 (k + 1) = R5 im from fun h => HGOOD.out (by unfold r5F; rw [HP.out]; exact if_neg (fun h2 => by have := slabB_t.2 (by rw [HN.out]; exact h); rw [this] at h2; exact nomatch h2.2)))
      clear h4 HBAD HGOOD
      go_wp2_with (go_at_call 27; refine HSL.out.mono ?_; rintro e w5 ⟨rfl, hb5⟩; have HB5 := Lib.hid hb5; have HV5 := Lib.hid (HV2.out.keep (hb5.block _ HG2.out) (fun b hb => hb5.block b (HF2.out b hb))); obtain ⟨q0, q1, q2, q3, q4, q5, q6, -⟩ := page_var ((hb5.block _ (by simp)).trans HN1.out); clear hb5)
      obtain ⟨wo, hwo⟩ : ∃ wo, wo = wr := ⟨_, rfl⟩
      subst hwo
      go_loopg [6, 7, 27, 29, 30, 31, 32, 33, 34, 35, 36, 37, 38, 39, 40, 41] 256 (fun g ct _ v _ _ _ _ _ _ _ _ _ _ _ _ _ wi => ∃ c : Nat, v = .int .i64 (c : Int) ∧ ct = .int .i64 ((cnt p.bit c : Nat) : Int) ∧ Aside0 (c + g = 256) ∧ Aside0 (∀ j, j < c → p.bit j = true → j < n) ∧ wi = w5)
      case atStart => exact ⟨0, rfl, rfl, ⟨rfl⟩, ⟨fun j h => absurd h (Nat.not_lt_zero _)⟩, rfl⟩
      case round =>
        obtain ⟨c, rfl, rfl, hcg, hall, rfl⟩ := hrel
        by_cases hc : c < 256
        · have hcI : (c : Int) < 256 := by omega
          have hcd : decide ((c : Int) < 256) = true := decide_eq_true hcI
          obtain ⟨g2, rfl⟩ : ∃ g2, gk = g2 + 1 := ⟨gk - 1, by have := hcg.out; omega⟩
          have HLV := Lib.hid (live_c HV5.out k HK.out c hc)
          rw [HP.out] at HLV
          have HC := Lib.hid hc
          have hcn : cnt p.bit c ≤ 256 := by have := cnt_le p.bit c; omega
          have HCS := Lib.hid (show cnt p.bit (c + 1) = cnt p.bit c + if p.bit c = true then 1 else 0 from rfl)
          clear hc
          cases hb : p.bit c with
          | false =>
            rw [hb] at HLV HCS
            have HB := Lib.hid hb
            clear hb
            generalize cnt p.bit c = z at *
            go_wp2_with (go_at_call 28; refine HLV.out.mono ?_; rintro e w6 ⟨rfl, rfl⟩)
            go_roundg g2
            case measure => omega
            case rel =>
              refine ⟨c + 1, by simp, ?_, ⟨by have := hcg.out; omega⟩, ⟨fun j hj hbj => ?_⟩, rfl⟩
              · rw [HCS.out]; simp
              · rcases Nat.lt_succ_iff_lt_or_eq.1 hj with h | rfl
                · exact hall.out j h hbj
                · rw [HB.out] at hbj; cases hbj
          | true =>
            rw [hb] at HLV HCS
            have HB := Lib.hid hb
            clear hb
            by_cases hcn2 : c < n
            · have hd5 : decide (c < n) = true := decide_eq_true hcn2
              have hd5' : decide ((c : Int) < (n : Int)) = true := decide_eq_true (by omega)
              have HCN := Lib.hid hcn2
              clear hcn2
              generalize cnt p.bit c = z at *
              go_wp2_with (first | (go_at_call 28; refine HLV.out.mono ?_; rintro e w6 ⟨rfl, rfl⟩) | (go_at_call 77; refine (must_c _ _ _).mono ?_; rintro e w5 ⟨m1, m2, rfl⟩; first | (obtain rfl := m1 rfl; clear m1 m2) | (obtain rfl := m2 rfl; clear m1 m2)))
              go_roundg g2
              case measure => omega
              case rel =>
                refine ⟨c + 1, by simp, ?_, ⟨by have := hcg.out; omega⟩, ⟨fun j hj hbj => ?_⟩, rfl⟩
                · rw [HCS.out]; simp
                · rcases Nat.lt_succ_iff_lt_or_eq.1 hj with h | rfl
                  · exact hall.out j h hbj
                  · exact HCN.out
            · have hd5 : decide (c < n) = false := decide_eq_false hcn2
              have hd5' : decide ((c : Int) < (n : Int)) = false := decide_eq_false (by omega)
              have HX := Lib.hid (HBAD2.out (fun h => hcn2 (h.1 c HC.out HB.out)))
              clear hcn2
              generalize cnt p.bit c = z at *
              go_wp2_with (first | (go_at_call 28; refine HLV.out.mono ?_; rintro e w6 ⟨rfl, rfl⟩) | (go_at_call 77; refine (must_c _ _ _).mono ?_; rintro e w5 ⟨m1, m2, rfl⟩; first | (obtain rfl := m1 rfl; clear m1 m2) | (obtain rfl := m2 rfl; clear m1 m2)))
              exact ⟨rfl, RuleP_bad HX.out (HB1.out.trans (HB5.out.mono HB1.out.size))⟩
        · obtain rfl : c = 256 := by have := hcg.out; omega
          have hcd : decide (((256 : Nat) : Int) < 256) = false := by decide
          have HALL := Lib.hid hall.out
          have hcn : cnt p.bit 256 ≤ 256 := cnt_le _ _
          clear hc hall
          obtain ⟨z, hz⟩ : ∃ z, cnt p.bit 256 = z := ⟨_, rfl⟩
          rw [hz] at hcn HBAD2 HGOOD2 ⊢
          clear hz
          simp only [Int.cast_ofNat_Int] at hcd ⊢
          by_cases hzl : (z : Int) = p.lv
          · have hd5 : ((z : Int) == p.lv) = true := by simpa using hzl
            by_cases hz0 : 0 < z
            · have hd6 : decide (z > 0) = true := decide_eq_true hz0
              have hd6' : decide ((z : Int) > 0) = true := decide_eq_true (by omega)
              have HX := Lib.hid (HGOOD2.out ⟨HALL.out, hzl, hz0⟩)
              clear hzl hz0
              go_wp2_with (go_at_call 77; refine (must_c _ _ _).mono ?_; rintro e w5 ⟨m1, m2, rfl⟩; first | (obtain rfl := m1 rfl; clear m1 m2) | (obtain rfl := m2 rfl; clear m1 m2))
              rw [← HE.out]
              go_roundg g1
              case measure => omega
              case rel => exact ⟨k + 1, by simp, ⟨by have := hkg.out; omega⟩, ⟨(HB1.out.trans (HB5.out.mono HB1.out.size))⟩, ⟨HX.out⟩⟩
            · have hd6 : decide (z > 0) = false := decide_eq_false hz0
              have hd6' : decide ((z : Int) > 0) = false := decide_eq_false (by omega)
              have HX := Lib.hid (HBAD2.out (fun h => hz0 h.2.2))
              clear hzl hz0
              go_wp2_with (go_at_call 77; refine (must_c _ _ _).mono ?_; rintro e w5 ⟨m1, m2, rfl⟩; first | (obtain rfl := m1 rfl; clear m1 m2) | (obtain rfl := m2 rfl; clear m1 m2))
              exact ⟨rfl, RuleP_bad HX.out (HB1.out.trans (HB5.out.mono HB1.out.size))⟩
          · have hd5 : ((z : Int) == p.lv) = false := by simpa using hzl
            have HX := Lib.hid (HBAD2.out (fun h => hzl h.2.1))
            clear hzl
            go_wp2_with (go_at_call 77; refine (must_c _ _ _).mono ?_; rintro e w5 ⟨m1, m2, rfl⟩; first | (obtain rfl := m1 rfl; clear m1 m2) | (obtain rfl := m2 rfl; clear m1 m2))
            exact ⟨rfl, RuleP_bad HX.out (HB1.out.trans (HB5.out.mono HB1.out.size))⟩
    · have hkd : decide ((k : Int) < (im.pages.length : Int)) = false := decide_eq_false (by omega)
      have HK := Lib.hid hk
      clear hk
      go_wp2
      go_end0
      refine RuleP_ok ?_ hbe.out
      have h := hsc.out
      rw [show gk = 0 from by have := HK.out; have := hkg.out; omega, scan] at h
      exact h.symm
end Go.Proofs.Ytkgedpcipaogjaa.WB
end
