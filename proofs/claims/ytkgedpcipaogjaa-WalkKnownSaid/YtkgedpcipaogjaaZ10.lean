/- Part 10 of what the rows of this seat rest on: words of the print that they need; how images, spaces, sets lie in memory; the functions walked. -/
import Derived.Test.YtkgedpcipaogjaaZ4
import Derived.Test.YtkgedpcipaogjaaZ6
import Derived.Test.YtkgedpcipaogjaaZ7
import Derived.Test.YtkgedpcipaogjaaZ8
import Derived.Test.YtkgedpcipaogjaaZ9
section
namespace Go.Proofs.Ytkgedpcipaogjaa.WB
open Go Go.RowKit Go.Proofs.YtkgedpcipaogjaaW.PrintWords Go.Proofs.YtkgedpcipaogjaaW.PrintLast Go.Proofs.YtkgedpcipaogjaaW.PrintMore Go.Proofs.Ytkgedpcipaogjaa.SetF
set_option linter.unusedVariables false
set_option linter.unusedSimpArgs false
def r10F (im : Im) (k : Nat) : Option Int := if (partL im k).folB (im.parts.getD k 0) = true then none else some k
theorem room_one {im : Im} {i k k' : Nat} (h : im.roomB i k = true) (h' : im.roomB i k' = true) : k' = k := by
  unfold Im.roomB roomP at h h'
  simp only [Bool.and_eq_true, beq_iff_eq] at h h'
  omega
structure FolG (L : Ln) (hd : Int) (g : Nat) (p b : Int) (acc : List Nat) : Prop where
  len : acc.length + g = L.n + 1
  fol : L.fol g p b acc = L.fol (L.n + 1) hd L.bnul []
  nodup : acc.Nodup
  sub : ∀ i ∈ acc, i < L.n ∧ L.ok i = true
theorem FolG.pos {L : Ln} {hd : Int} {g : Nat} {p b : Int} {acc : List Nat} (h : FolG L hd g p b acc) : 0 < g := by
  have := nodup_len h.nodup (m := List.range L.n) (fun x hx => by simpa using (h.sub x hx).1)
  have h2 := h.len
  simp at this
  omega
theorem FolG.start (L : Ln) (hd : Int) : FolG L hd (L.n + 1) hd L.bnul [] := ⟨by simp, rfl, List.nodup_nil, fun i hi => by cases hi⟩
theorem FolG.end_ {L : Ln} {hd : Int} {g : Nat} {p b : Int} {acc : List Nat} (h : FolG L hd g p b acc) (hp : p = L.nul) : L.fol (L.n + 1) hd L.bnul [] = some acc := by
  have h0 := h.pos
  obtain ⟨g, rfl⟩ : ∃ m, g = m + 1 := ⟨g - 1, by omega⟩
  rw [← h.fol, Ln.fol, if_pos hp]
theorem FolG.no {L : Ln} {hd : Int} {g : Nat} {p b : Int} {acc : List Nat} (h : FolG L hd g p b acc) (hp : p ≠ L.nul) (hi : L.idx p = none) : L.folB hd = false := by
  have h0 := h.pos
  obtain ⟨g, rfl⟩ : ∃ m, g = m + 1 := ⟨g - 1, by omega⟩
  have : L.fol (L.n + 1) hd L.bnul [] = none := by rw [← h.fol, Ln.fol, if_neg hp, hi]
  unfold Ln.folB
  rw [this]
theorem FolG.bad {L : Ln} {hd : Int} {g i : Nat} {p b : Int} {acc : List Nat} (h : FolG L hd g p b acc) (hp : p ≠ L.nul) (hi : L.idx p = some i) (hc : ¬ (acc.contains i = false ∧ L.pv i = b)) : L.folB hd = false := by
  have h0 := h.pos
  obtain ⟨g, rfl⟩ : ∃ m, g = m + 1 := ⟨g - 1, by omega⟩
  have : L.fol (L.n + 1) hd L.bnul [] = none := by
    rw [← h.fol, Ln.fol, if_neg hp, hi]
    exact if_neg hc
  unfold Ln.folB
  rw [this]
theorem FolG.on {L : Ln} {hd : Int} {g i : Nat} {p b : Int} {acc : List Nat} (h : FolG L hd (g + 1) p b acc) (hp : p ≠ L.nul) (hi : L.idx p = some i) (hin : i < L.n) (ho : L.ok i = true) (hc : acc.contains i = false) (hb : L.pv i = b) : FolG L hd g (L.nx i) p (i :: acc) := by
  refine ⟨by have := h.len; simp only [List.length_cons]; omega, ?_, List.nodup_cons.2 ⟨by simpa using hc, h.nodup⟩, fun j hj => ?_⟩
  · rw [← h.fol, Ln.fol, if_neg hp, hi]
    exact (if_pos ⟨hc, hb⟩).symm
  · rcases List.mem_cons.1 hj with rfl | hj
    · exact ⟨hin, ho⟩
    · exact h.sub j hj
theorem FolG.all {L : Ln} {hd : Int} {acc : List Nat} (h : L.fol (L.n + 1) hd L.bnul [] = some acc) : L.folB hd = true ↔ ∀ i, i < L.n → L.ok i = true → i ∈ acc := by
  unfold Ln.folB
  rw [h]
  simp only [List.all_eq_true, List.contains_eq_mem, decide_eq_true_eq, Ln.mem_all]
  exact ⟨fun h i h1 h2 => h i ⟨h1, h2⟩, fun h i h1 => h i h1.1 h1.2⟩
def SeenP (im : Im) (k : Nat) (acc : List Nat) (ws : List Int) : Prop := ∀ i, i < im.n → (bitN ws i = true ↔ (∃ k', k' < k ∧ im.roomB i (k' : Nat) = true) ∨ i ∈ acc)
theorem SeenP.at_ {im : Im} {k : Nat} {acc : List Nat} {ws : List Int} (h : SeenP im k acc ws) {i : Nat} (hi : i < im.n) (ho : im.roomB i k = true) : bitN ws i = acc.contains i := by
  rw [Bool.eq_iff_iff, h i hi, List.contains_eq_mem, decide_eq_true_eq]
  constructor
  · rintro (⟨k', h1, h2⟩ | h1)
    · have := room_one ho h2; omega
    · exact h1
  · exact Or.inr
theorem SeenP.put {im : Im} {k : Nat} {acc : List Nat} {ws : List Int} (h : SeenP im k acc ws) {i : Nat} (hl : i / 64 < ws.length) : SeenP im k (i :: acc) (Tz.putW ws i true) := by
  intro j hj
  rw [put_bit hl, Bool.or_eq_true, decide_eq_true_eq, h j hj, List.mem_cons]
  constructor
  · rintro (h | h | h)
    · exact Or.inr (Or.inl h)
    · exact Or.inl h
    · exact Or.inr (Or.inr h)
  · rintro (h | h | h)
    · exact Or.inr (Or.inl h)
    · exact Or.inl h
    · exact Or.inr (Or.inr h)
theorem SeenP.next {im : Im} {k : Nat} {acc : List Nat} {ws : List Int} (h : SeenP im k acc ws) (hs : ∀ i ∈ acc, i < im.n ∧ im.roomB i k = true) (ha : ∀ i, i < im.n → im.roomB i k = true → i ∈ acc) : SeenP im (k + 1) [] ws := by
  intro j hj
  rw [h j hj]
  constructor
  · rintro (⟨k', h1, h2⟩ | h1)
    · exact Or.inl ⟨k', by omega, h2⟩
    · exact Or.inl ⟨k, by omega, (hs j h1).2⟩
  · rintro (⟨k', h1, h2⟩ | h1)
    · by_cases e : k' = k
      · subst e; exact Or.inr (ha j hj h2)
      · exact Or.inl ⟨k', by omega, h2⟩
    · cases h1
theorem part_no {im : Im} {k : Nat} {p : Int} (h : inB p 0 ((im.pages.length : Int) - 1) = false) : (partL im k).idx p = none := by
  rw [inB_f] at h
  simp only [partL]
  rw [if_neg (fun hc => h ⟨hc.1, by have := hc.2.1; unfold Im.n at this; omega⟩)]
theorem part_at {im : Im} {k i : Nat} (hi : i < im.pages.length) : (partL im k).idx (i : Int) = if im.roomB i k = true then some i else none := by
  simp only [partL, Int.toNat_natCast]
  by_cases h : im.roomB i k = true
  · rw [if_pos ⟨by omega, by unfold Im.n; omega, h⟩, if_pos h]
  · rw [if_neg (fun hc => h hc.2.2), if_neg h]
theorem SN.room {F : Nat → Prop} {gv : Nat} {im : Im} {s : Sl} {P : Value} {w : World} (hv : V F gv im s P w) (hF : ∀ b, F b → b < w.heap.size) (hg : gv < w.heap.size) {sb : Nat} {ws : List Int} {wx : World} (h : SN w sb im.pages.length ws wx) {i : Nat} (hi : i < im.pages.length) (h0 : 0 ≤ (im.pg i).cl) (h7 : (im.pg i).cl ≤ 7) (k : Int) {b : Bool} (hb : im.roomB i k = b) :
    Calls Try.prog 90 #[.pointer (some ⟨gv, 0, none⟩), .int .i64 (i : Int), .int .i64 k] wx fun e w' => e = .returned (.bool b) ∧ SN w sb im.pages.length ws w' := by
  have hs := h.below.size
  have := room_c (hv.keep (h.below.block _ hg) (fun b hb => h.below.block b (hF b hb))) (by omega) (fun b hb => by have := hF b hb; omega) i hi h0 h7 k
  rw [hb] at this
  exact this.mono (fun e w' hh => ⟨hh.1, h.later hh.2⟩)
theorem V.of {F : Nat → Prop} {gv : Nat} {im : Im} {s : Sl} {P : Value} {w wx : World} (hv : V F gv im s P w) (hF : ∀ b, F b → b < w.heap.size) (hg : gv < w.heap.size) (h : Below w.heap.size w wx) : V F gv im s P wx := hv.keep (h.block _ hg) (fun b hb => h.block b (hF b hb))
set_option maxRecDepth 100000 in
set_option maxHeartbeats 1500000 in
theorem partial_c {F : Nat → Prop} {gv : Nat} {im : Im} {s : Sl} {P : Value} {w : World} (h : V F gv im s P w) (hF : ∀ b, F b → b < w.heap.size) (hgv : gv < w.heap.size) {o r : Nat} (hgeo : Geo im o r) (hR : ∀ i, i < im.pages.length → Rng im.order ((im.n : Int) - 1) (im.pg i)) :
    RuleB 61 gv w (R10 im) := by
  show Calls Try.prog 61 #[.pointer (some ⟨gv, 0, none⟩)] w (RuleP w (R10 im))
  have HV := Lib.hid h
  obtain ⟨c0, c1, c2, c3, c4, c5, c6, c7, c8, c9⟩ := h.cell
  have hn9 : im.pages.length ≤ 1024 := hgeo.n1024
  have hhl : im.parts.length ≤ 8 := by have h1 := hgeo.parts; omega
  have hp7 : im.parts.length = 8 := hgeo.parts
  obtain ⟨ah, eh, hFh, hxh⟩ := h.im.parts (by omega)
  rw [eh] at c8
  have HXH := Lib.hid hxh
  have HFH := Lib.hid hFh
  have HF := Lib.hid hF
  have HG := Lib.hid hgv
  have HN6 := Lib.hid (show im.pages.length ≤ 1048576 by omega)
  have HCL := Lib.hid (show ∀ i, i < im.pages.length → 0 ≤ (im.pg i).cl ∧ (im.pg i).cl ≤ 7 from fun i hi => (hR i hi).cl)
  have HNX := Lib.hid (show ∀ i, i < im.pages.length → -1 ≤ (im.pg i).nx ∧ (im.pg i).nx ≤ (im.pages.length : Int) - 1 from fun i hi => (hR i hi).nx)
  have hl1 : wrap64 ((im.pages.length : Int) - 1) = (im.pages.length : Int) - 1 := by unfold wrap64; omega
  clear h hF hgv hgeo hR hxh hFh hp7 c0 c1 c2 c3 c4 c6 c7 c9
  go_enter Try.func61, Try.ntmps61
  go_wp2_with ((go_at_call 85; refine (newSN _ im.pages.length HN6.out).mono ?_; rintro e w1 ⟨sb, rfl, hsn⟩; have HSN := Lib.hid hsn; have k7 : w1.cell? ⟨gv, 8, none⟩ = some (.slice (some ah) im.parts.length s.e) := ((HV.out.keep (hsn.below.block _ HG.out) (fun b hb => hsn.below.block b (HF.out b hb))).cell.2.2.2.2.2.2.2.2.1).trans (by rw [eh]); clear hsn))
  clear c5 c8
  go_loopg [20] im.parts.length (fun g v wr => ∃ k : Nat, v = .int .i64 (k : Int) ∧ Aside0 (k + g = im.parts.length) ∧ Aside0 (scan (r10F im) g k = R10 im) ∧ ∃ ws, Aside0 (SN w sb im.pages.length ws wr) ∧ Aside0 (SeenP im k [] ws))
  case atStart =>
    refine ⟨0, rfl, ⟨by omega⟩, ⟨rfl⟩, _, ⟨HSN.out⟩, ⟨fun i _ => ?_⟩⟩
    rw [new_bit]
    simp
  case round =>
    obtain ⟨k, rfl, hkg, hsc, ws, hsn, hse⟩ := hrel
    by_cases hk : k < im.parts.length
    · have hkI : (k : Int) < (im.parts.length : Int) := by omega
      have hkd : decide ((k : Int) < (im.parts.length : Int)) = true := decide_eq_true hkI
      have hkd' : decide (k < im.parts.length) = true := decide_eq_true hk
      obtain ⟨g1, rfl⟩ : ∃ g1, gk = g1 + 1 := ⟨gk - 1, by have := hkg.out; omega⟩
      obtain ⟨hd, hhd⟩ : ∃ hd, im.parts.getD k 0 = hd := ⟨_, rfl⟩
      have ch : wr.cell? (ah.add k) = some (.int .i64 hd) := by
        rw [← hhd, ← HXH.out k hk]
        exact cell_keep (hsn.out.below.block _ (HF.out _ HFH.out))
      have HBAD := Lib.hid (show (partL im k).folB hd = false → R10 im = some (k : Int) from fun h => hsc.out.symm.trans (scan_bad (by unfold r10F; rw [hhd, h]; rfl)))
      have HGOOD := Lib.hid (show (partL im k).folB hd = true → scan (r10F im) g1 (k + 1) = R10 im from fun h => (scan_ok (by unfold r10F; rw [hhd, h]; rfl)).symm.trans hsc.out)
      have HF0 := Lib.hid (FolG.start (partL im k) hd)
      have HK := Lib.hid hk
      have HSN1 := Lib.hid hsn.out
      have HSE1 := Lib.hid hse.out
      clear hk hhd hsc hsn hse
      go_wp2
      obtain ⟨wo, hwo⟩ : ∃ wo, wo = wr := ⟨_, rfl⟩
      subst hwo
      go_loopg [4, 5, 25, 26, 27, 28, 29, 30, 31, 32, 33, 34, 35, 36, 37, 38, 39, 40, 41, 42, 43, 44, 45, 46, 47, 48, 49, 50, 51, 52, 53, 54, 55, 56, 57, 58, 59, 60, 61, 62, 63, 64, 65, 66, 67, 68, 69, 70, 71, 72, 73, 74, 75] (im.n + 1) (fun g v4 v5 _ _ _ _ _ _ _ _ _ _ _ _ _ _ _ _ _ _ _ _ _ _ _ _ _ _ _ _ _ _ _ _ _ _ _ _ _ _ _ _ _ _ _ _ _ _ _ _ _ _ _ wi => ∃ (p b : Int) (acc : List Nat) (ws2 : List Int), v4 = .int .i64 p ∧ v5 = .int .i64 b ∧ Aside0 (FolG (partL im k) hd g p b acc) ∧ Aside0 (SN w sb im.pages.length ws2 wi) ∧ Aside0 (SeenP im k acc ws2))
      case atStart => exact ⟨_, -1, [], ws, rfl, rfl, ⟨HF0.out⟩, ⟨HSN1.out⟩, ⟨HSE1.out⟩⟩
      case round =>
        obtain ⟨p, b, acc, ws2, rfl, rfl, hfo, hsn, hse⟩ := hrel
        have HFO := Lib.hid hfo.out
        have HSN2 := Lib.hid hsn.out
        have HSE2 := Lib.hid hse.out
        clear hfo hsn hse
        have HV2 := Lib.hid (V.of HV.out HF.out HG.out HSN2.out.below)
        obtain ⟨c0, c1, c2, c3, c4, c5, c6, c7, c8, c9⟩ := HV2.out.cell
        clear c0 c1 c2 c3 c4 c6 c7 c8 c9
        by_cases hp : p = -1
        · have hpd : (p != -1) = false := by simpa using hp
          have HFE := Lib.hid (HFO.out.end_ hp)
          have HBIT := Lib.hid (show ∀ i, i < im.n → im.roomB i k = true → bitN ws2 i = acc.contains i from fun i h1 h2 => HSE2.out.at_ h1 h2)
          clear hp
          go_wp2
          clear c5
          obtain ⟨wo2, hwo2⟩ : ∃ wo2, wo2 = wr := ⟨_, rfl⟩
          subst hwo2
          go_loopg [6, 82, 83, 84, 85, 86, 87, 88, 89, 90, 91, 92, 93, 94, 95, 96, 97] im.pages.length (fun g _ v71 _ _ _ _ _ _ _ _ _ _ _ _ _ _ _ wi => ∃ j : Nat, v71 = .int .i64 (j : Int) ∧ Aside0 (j + g = im.pages.length) ∧ Aside0 (∀ i, i < j → im.roomB i k = true → i ∈ acc) ∧ Aside0 (SN w sb im.pages.length ws2 wi))
          case atStart => exact ⟨0, rfl, ⟨by omega⟩, ⟨fun i h => absurd h (Nat.not_lt_zero _)⟩, ⟨HSN2.out⟩⟩
          case round =>
            obtain ⟨j, rfl, hjg, hall, hsn3⟩ := hrel
            have HS3 := Lib.hid hsn3.out
            clear hsn3
            by_cases hj : j < im.pages.length
            · have hjI : (j : Int) < (im.pages.length : Int) := by omega
              have hjd : decide ((j : Int) < (im.pages.length : Int)) = true := decide_eq_true hjI
              have hjd' : decide (j < im.pages.length) = true := decide_eq_true hj
              obtain ⟨g2, rfl⟩ : ∃ g2, gk = g2 + 1 := ⟨gk - 1, by have := hjg.out; omega⟩
              have HI := Lib.hid hj
              clear hj
              cases hb : im.roomB j (k : Int) with
              | false =>
                have HB := Lib.hid hb
                clear hb
                go_wp2_with (first | (go_at_call 90; refine (SN.room HV.out HF.out HG.out HS3.out HI.out (HCL.out j HI.out).1 (HCL.out j HI.out).2 (k : Int) HB.out).mono ?_; rintro e w7 ⟨rfl, hs7⟩; have HS7 := Lib.hid hs7; have hv7 := V.of HV.out HF.out HG.out hs7.below; obtain ⟨-, -, -, -, -, c5, -, -, -, -⟩ := hv7.cell; obtain ⟨ad, e5, -, -, -, -, -, p4, p5, -⟩ := hv7.page j HI.out; rw [e5] at c5; clear hs7 hv7 e5) | (go_at_call 77; refine (must_c _ _ _).mono ?_; rintro e w5 ⟨m1, m2, rfl⟩; first | (obtain rfl := m1 rfl; clear m1 m2) | (obtain rfl := m2 rfl; clear m1 m2)))
                go_roundg g2
                case measure => omega
                case rel =>
                  refine ⟨j + 1, by simp, ⟨by have := hjg.out; omega⟩, ⟨fun i hi ho => ?_⟩, ⟨HS7.out⟩⟩
                  rcases Nat.lt_succ_iff_lt_or_eq.1 hi with h | rfl
                  · exact hall.out i h ho
                  · rw [HB.out] at ho; cases ho
              | true =>
                have hbt := HBIT.out j HI.out hb
                have HB := Lib.hid hb
                clear hb
                cases hc : bitN ws2 j with
                | false =>
                  rw [hc] at hbt
                  have HC := Lib.hid hc
                  have HX := Lib.hid (HBAD.out (by
                    cases hq : (partL im k).folB hd with
                    | false => rfl
                    | true =>
                      have := (FolG.all HFE.out).1 hq j HI.out HB.out
                      have h3 : acc.contains j = true := by simpa using this
                      rw [h3] at hbt; cases hbt))
                  clear hbt hc
                  go_wp2_with (first | (go_at_call 90; refine (SN.room HV.out HF.out HG.out HS3.out HI.out (HCL.out j HI.out).1 (HCL.out j HI.out).2 (k : Int) HB.out).mono ?_; rintro e w7 ⟨rfl, hs7⟩; have HS7 := Lib.hid hs7; have hv7 := V.of HV.out HF.out HG.out hs7.below; obtain ⟨-, -, -, -, -, c5, -, -, -, -⟩ := hv7.cell; obtain ⟨ad, e5, -, -, -, -, -, p4, p5, -⟩ := hv7.page j HI.out; rw [e5] at c5; have HGE := Lib.hid (HC.out ▸ SN.get HS7.out _ HI.out); clear hs7 hv7 e5) | (go_at_call 83; refine HGE.out.mono ?_; rintro e w8 ⟨rfl, rfl⟩) | (go_at_call 77; refine (must_c _ _ _).mono ?_; rintro e w5 ⟨m1, m2, rfl⟩; first | (obtain rfl := m1 rfl; clear m1 m2) | (obtain rfl := m2 rfl; clear m1 m2)))
                  exact ⟨rfl, RuleP_bad HX.out HS7.out.below⟩
                | true =>
                  rw [hc] at hbt
                  have HC := Lib.hid hc
                  have HM := Lib.hid (show j ∈ acc by simpa using hbt.symm)
                  clear hbt hc
                  go_wp2_with (first | (go_at_call 90; refine (SN.room HV.out HF.out HG.out HS3.out HI.out (HCL.out j HI.out).1 (HCL.out j HI.out).2 (k : Int) HB.out).mono ?_; rintro e w7 ⟨rfl, hs7⟩; have HS7 := Lib.hid hs7; have hv7 := V.of HV.out HF.out HG.out hs7.below; obtain ⟨-, -, -, -, -, c5, -, -, -, -⟩ := hv7.cell; obtain ⟨ad, e5, -, -, -, -, -, p4, p5, -⟩ := hv7.page j HI.out; rw [e5] at c5; have HGE := Lib.hid (HC.out ▸ SN.get HS7.out _ HI.out); clear hs7 hv7 e5) | (go_at_call 83; refine HGE.out.mono ?_; rintro e w8 ⟨rfl, rfl⟩) | (go_at_call 77; refine (must_c _ _ _).mono ?_; rintro e w5 ⟨m1, m2, rfl⟩; first | (obtain rfl := m1 rfl; clear m1 m2) | (obtain rfl := m2 rfl; clear m1 m2)))
                  go_roundg g2
                  case measure => omega
                  case rel =>
                    refine ⟨j + 1, by simp, ⟨by have := hjg.out; omega⟩, ⟨fun i hi ho => ?_⟩, ⟨HS7.out⟩⟩
                    rcases Nat.lt_succ_iff_lt_or_eq.1 hi with h | rfl
                    · exact hall.out i h ho
                    · exact HM.out
            · have hjd : decide ((j : Int) < (im.pages.length : Int)) = false := decide_eq_false (by omega)
              have hjd' : decide (j < im.pages.length) = false := decide_eq_false hj
              have HALL := Lib.hid (show ∀ i, i < im.n → im.roomB i k = true → i ∈ acc from fun i h1 h2 => hall.out i (Nat.lt_of_lt_of_le h1 (by unfold Im.n; omega)) h2)
              have HX := Lib.hid (HGOOD.out ((FolG.all HFE.out).2 HALL.out))
              have HSE3 := Lib.hid (HSE2.out.next HFO.out.sub HALL.out)
              clear hj hall
              go_wp2
              go_roundg g1
              case measure => omega
              case rel => exact ⟨k + 1, by simp, ⟨by have := hkg.out; omega⟩, ⟨HX.out⟩, ws2, ⟨HS3.out⟩, ⟨HSE3.out⟩⟩
        · have hpd : (p != -1) = true := by simpa using hp
          have HP := Lib.hid hp
          obtain ⟨g2, rfl⟩ : ∃ g2, gk = g2 + 1 := ⟨gk - 1, by have := HFO.out.pos; omega⟩
          cases hin : inB p 0 ((im.pages.length : Int) - 1) with
          | true =>
            have hin2 := inB_t.1 hin
            obtain ⟨i, rfl⟩ : ∃ i : Nat, p = (i : Int) := ⟨p.toNat, by omega⟩
            have hi : i < im.pages.length := by omega
            have hiI : (i : Int) < (im.pages.length : Int) := by omega
            have HI := Lib.hid hi
            have hidx := part_at (k := k) hi
            clear hp hin2 hi
            cases hb : im.roomB i (k : Int) with
            | false =>
              rw [hb] at hidx
              have HB := Lib.hid hb
              have HX := Lib.hid (HBAD.out (FolG.no HFO.out HP.out hidx))
              clear hb hidx
              go_wp2_with (first | (go_at_call 78; refine (within_i _ _ _ _).mono ?_; rintro e w5 ⟨rfl, rfl⟩) | (go_at_call 90; refine (SN.room HV.out HF.out HG.out HSN2.out HI.out (HCL.out i HI.out).1 (HCL.out i HI.out).2 (k : Int) HB.out).mono ?_; rintro e w7 ⟨rfl, hs7⟩; have HS7 := Lib.hid hs7; have hv7 := V.of HV.out HF.out HG.out hs7.below; obtain ⟨-, -, -, -, -, c5, -, -, -, -⟩ := hv7.cell; obtain ⟨ad, e5, -, -, -, -, -, p4, p5, -⟩ := hv7.page i HI.out; rw [e5] at c5; clear hs7 hv7 e5) | (go_at_call 77; refine (must_c _ _ _).mono ?_; rintro e w5 ⟨m1, m2, rfl⟩; first | (obtain rfl := m1 rfl; clear m1 m2) | (obtain rfl := m2 rfl; clear m1 m2)))
              exact ⟨rfl, RuleP_bad HX.out HS7.out.below⟩
            | true =>
              rw [hb, if_pos rfl] at hidx
              have HB := Lib.hid hb
              have HID := Lib.hid hidx
              have hbt := HSE2.out.at_ HI.out hb
              clear hb hidx
              cases hc : bitN ws2 i with
              | true =>
                rw [hc] at hbt
                have HC := Lib.hid hc
                have HX := Lib.hid (HBAD.out (FolG.bad HFO.out HP.out HID.out (fun h => by rw [h.1] at hbt; cases hbt)))
                clear hbt hc
                go_wp2_with (first | (go_at_call 78; refine (within_i _ _ _ _).mono ?_; rintro e w5 ⟨rfl, rfl⟩) | (go_at_call 90; refine (SN.room HV.out HF.out HG.out HSN2.out HI.out (HCL.out i HI.out).1 (HCL.out i HI.out).2 (k : Int) HB.out).mono ?_; rintro e w7 ⟨rfl, hs7⟩; have HS7 := Lib.hid hs7; have hv7 := V.of HV.out HF.out HG.out hs7.below; obtain ⟨-, -, -, -, -, c5, -, -, -, -⟩ := hv7.cell; obtain ⟨ad, e5, -, -, -, -, -, p4, p5, -⟩ := hv7.page i HI.out; rw [e5] at c5; have HGE := Lib.hid (HC.out ▸ SN.get HS7.out _ HI.out); clear hs7 hv7 e5) | (go_at_call 83; refine HGE.out.mono ?_; rintro e w8 ⟨rfl, rfl⟩) | (go_at_call 77; refine (must_c _ _ _).mono ?_; rintro e w5 ⟨m1, m2, rfl⟩; first | (obtain rfl := m1 rfl; clear m1 m2) | (obtain rfl := m2 rfl; clear m1 m2)))
                exact ⟨rfl, RuleP_bad HX.out HS7.out.below⟩
              | false =>
                rw [hc] at hbt
                have HC := Lib.hid hc
                have HBT := Lib.hid hbt.symm
                clear hbt hc
                by_cases hbb : (im.pg i).pv = b
                · have hd9 : ((im.pg i).pv == b) = true := by simpa using hbb
                  have HX := Lib.hid (FolG.on HFO.out HP.out HID.out HI.out HB.out HBT.out hbb)
                  clear hbb
                  go_wp2_with (first | (go_at_call 78; refine (within_i _ _ _ _).mono ?_; rintro e w5 ⟨rfl, rfl⟩) | (go_at_call 90; refine (SN.room HV.out HF.out HG.out HSN2.out HI.out (HCL.out i HI.out).1 (HCL.out i HI.out).2 (k : Int) HB.out).mono ?_; rintro e w7 ⟨rfl, hs7⟩; have HS7 := Lib.hid hs7; have hv7 := V.of HV.out HF.out HG.out hs7.below; obtain ⟨-, -, -, -, -, c5, -, -, -, -⟩ := hv7.cell; obtain ⟨ad, e5, -, -, -, -, -, p4, p5, -⟩ := hv7.page i HI.out; rw [e5] at c5; have HGE := Lib.hid (HC.out ▸ SN.get HS7.out _ HI.out); clear hs7 hv7 e5) | (go_at_call 83; refine HGE.out.mono ?_; rintro e w8 ⟨rfl, rfl⟩) | (go_at_call 77; refine (must_c _ _ _).mono ?_; rintro e w5 ⟨m1, m2, rfl⟩; first | (obtain rfl := m1 rfl; clear m1 m2) | (obtain rfl := m2 rfl; clear m1 m2)) | (go_at_call 88; refine (HS7.out.put i HI.out).mono ?_; rintro e w10 ⟨rfl, hs10⟩; have HS10 := Lib.hid hs10; have hv10 := V.of HV.out HF.out HG.out hs10.below; clear c5 p4 p5; obtain ⟨-, -, -, -, -, c5, -, -, -, -⟩ := hv10.cell; obtain ⟨ad2, e52, -, -, -, -, -, p4, p5, -⟩ := hv10.page i HI.out; rw [e52] at c5; clear hs10 hv10 e52))
                  go_quiet (fail)
                  go_wp2
                  go_roundg g2
                  case measure => omega
                  case rel => exact ⟨(im.pg i).nx, (i : Int), i :: acc, _, rfl, rfl, ⟨HX.out⟩, ⟨HS10.out.drawn _⟩, ⟨HSE2.out.put (HSN2.out.len HI.out)⟩⟩
                · have hd9 : ((im.pg i).pv == b) = false := by simpa using hbb
                  have HX := Lib.hid (HBAD.out (FolG.bad HFO.out HP.out HID.out (fun hh => hbb hh.2)))
                  clear hbb
                  go_wp2_with (first | (go_at_call 78; refine (within_i _ _ _ _).mono ?_; rintro e w5 ⟨rfl, rfl⟩) | (go_at_call 90; refine (SN.room HV.out HF.out HG.out HSN2.out HI.out (HCL.out i HI.out).1 (HCL.out i HI.out).2 (k : Int) HB.out).mono ?_; rintro e w7 ⟨rfl, hs7⟩; have HS7 := Lib.hid hs7; have hv7 := V.of HV.out HF.out HG.out hs7.below; obtain ⟨-, -, -, -, -, c5, -, -, -, -⟩ := hv7.cell; obtain ⟨ad, e5, -, -, -, -, -, p4, p5, -⟩ := hv7.page i HI.out; rw [e5] at c5; have HGE := Lib.hid (HC.out ▸ SN.get HS7.out _ HI.out); clear hs7 hv7 e5) | (go_at_call 83; refine HGE.out.mono ?_; rintro e w8 ⟨rfl, rfl⟩) | (go_at_call 77; refine (must_c _ _ _).mono ?_; rintro e w5 ⟨m1, m2, rfl⟩; first | (obtain rfl := m1 rfl; clear m1 m2) | (obtain rfl := m2 rfl; clear m1 m2)))
                  exact ⟨rfl, RuleP_bad HX.out HS7.out.below⟩
          | false =>
            have HX := Lib.hid (HBAD.out (FolG.no HFO.out hp (part_no hin)))
            clear hp
            go_wp2_with (first | (go_at_call 78; refine (within_i _ _ _ _).mono ?_; rintro e w5 ⟨rfl, rfl⟩) | (go_at_call 77; refine (must_c _ _ _).mono ?_; rintro e w5 ⟨m1, m2, rfl⟩; first | (obtain rfl := m1 rfl; clear m1 m2) | (obtain rfl := m2 rfl; clear m1 m2)))
            exact ⟨rfl, RuleP_bad HX.out HSN2.out.below⟩
    · have hkd : decide ((k : Int) < (im.parts.length : Int)) = false := decide_eq_false (by omega)
      have hkd' : decide (k < im.parts.length) = false := decide_eq_false hk
      have HK := Lib.hid hk
      clear hk
      go_wp2
      go_end0
      refine RuleP_ok ?_ hsn.out.below
      have h := hsc.out
      rw [show gk = 0 from by have := HK.out; have := hkg.out; omega, scan] at h
      exact h.symm
end Go.Proofs.Ytkgedpcipaogjaa.WB
end
section
namespace Go.Proofs.Ytkgedpcipaogjaa.WB
open Go Go.RowKit Go.Proofs.YtkgedpcipaogjaaW.PrintWords Go.Proofs.YtkgedpcipaogjaaW.PrintLast Go.Proofs.YtkgedpcipaogjaaW.PrintMore
set_option linter.unusedVariables false
set_option linter.unusedSimpArgs false
def r11F (im : Im) (i : Nat) : Option Int := if (im.pg i).kd = 4 ∧ (im.pg i).lv = cellsN (im.pg i).cl ∧ ¬ ((im.pg i).nx = -1 ∧ (im.pg i).pv = -1) then some i else none
set_option maxRecDepth 100000 in
set_option maxHeartbeats 4000000 in
theorem full_c {F : Nat → Prop} {gv : Nat} {im : Im} {s : Sl} {P : Value} {w : World} (h : V F gv im s P w) (hF : ∀ b, F b → b < w.heap.size) (hgv : gv < w.heap.size) (hR : ∀ i, i < im.pages.length → Rng im.order ((im.n : Int) - 1) (im.pg i)) :
    RuleB 62 gv w (R11 im) := by
  show Calls Try.prog 62 #[.pointer (some ⟨gv, 0, none⟩)] w (RuleP w (R11 im))
  have HV := Lib.hid h
  obtain ⟨c0, c1, c2, c3, c4, c5, c6, c7, c8, c9⟩ := h.cell
  have hl := len_i64 h.im.wf
  have HF := Lib.hid hF
  have HG := Lib.hid hgv
  have HR := Lib.hid hR
  clear hR
  clear h hF hgv c0 c1 c2 c3 c4 c6 c7 c8 c9
  go_enter Try.func62, Try.ntmps62
  go_wp2
  clear c5
  go_loopg [12] im.pages.length (fun g v wr => ∃ k : Nat, v = .int .i64 (k : Int) ∧ Aside0 (k + g = im.pages.length) ∧ Aside0 (Below w.heap.size w wr) ∧ Aside0 (scan (r11F im) g k = R11 im))
  case atStart => exact ⟨0, rfl, ⟨by omega⟩, ⟨Below.refl _ _⟩, ⟨rfl⟩⟩
  case round =>
    obtain ⟨k, rfl, hkg, hbe, hsc⟩ := hrel
    by_cases hk : k < im.pages.length
    · have hkI : (k : Int) < (im.pages.length : Int) := by omega
      have hkd : decide ((k : Int) < (im.pages.length : Int)) = true := decide_eq_true hkI
      obtain ⟨g1, rfl⟩ : ∃ g1, gk = g1 + 1 := ⟨gk - 1, by have := hkg.out; omega⟩
      have hv : V F gv im s P wr := HV.out.keep (hbe.out.block _ HG.out) (fun b hb => hbe.out.block b (HF.out b hb))
      have hv2 : V F gv im s P (wr.alloc (pageO (im.pg k))) := hv.keep (Below.heap_alloc wr _ _ (Nat.lt_of_lt_of_le HG.out hbe.out.size)) (fun b hb => Below.heap_alloc wr _ _ (Nat.lt_of_lt_of_le (HF.out b hb) hbe.out.size))
      obtain ⟨ad, e, hF, p0, p1, p2, p3, p4, p5, p6, p7, p8, p9, p10⟩ := hv.page k hk
      rw [e]
      have HE := Lib.hid e
      have HBAD := Lib.hid (show ∀ pl, r11F im k = some pl → R11 im = some pl from fun pl h => hsc.out.symm.trans (scan_bad h))
      have HGOOD := Lib.hid (show r11F im k = none → scan (r11F im) g1 (k + 1) = R11 im from fun h => (scan_ok h).symm.trans hsc.out)
      have HK := Lib.hid hk
      have HB1 := Lib.hid (show Below w.heap.size w (wr.alloc (pageO (im.pg k))) from hbe.out.alloc hbe.out.size _)
      have HSZ := Lib.hid hbe.out.size
      clear hF e hk
      have hr := HR.out k HK.out
      have HSL := Lib.hid (slab_c hv2 k HK.out hr.cl.1 hr.cl.2)
      have HN1 := Lib.hid (blk_new wr (pageO (im.pg k)))
      obtain ⟨p, hp⟩ : ∃ p, im.pg k = p := ⟨_, rfl⟩
      have HP := Lib.hid hp
      rw [hp] at p0 p1 p2 p3 p4 p5 p6 p7 p8 p9 p10 HSL HN1 HB1
      obtain ⟨n, hn⟩ : ∃ n, cellsN p.cl = n := ⟨_, rfl⟩
      have HN := Lib.hid hn
      rw [hn] at HSL
      unfold pageO at HSL HN1 HB1
      clear hp hn hv hv2 hr
      by_cases h4 : p.kd = 4
      case neg =>
        have hd4 : (p.kd == 4) = false := by simpa using h4
        have HX := Lib.hid (HGOOD.out (by unfold r11F; rw [HP.out, HN.out]; exact if_neg (by exact fun h => h4 h.1)))
        clear h4
        go_wp2_with (first | (go_at_call 27; refine HSL.out.mono ?_; rintro e w5 ⟨rfl, hb5⟩; have HB5 := Lib.hid hb5; obtain ⟨q0, q1, q2, q3, q4, q5, q6, -⟩ := page_var ((hb5.block _ (by simp)).trans HN1.out); clear hb5) | (go_at_call 77; refine (must_c _ _ _).mono ?_; rintro e w5 ⟨m1, m2, rfl⟩; first | (obtain rfl := m1 rfl; clear m1 m2) | (obtain rfl := m2 rfl; clear m1 m2)))
        rw [← HE.out]
        go_roundg g1
        case measure => omega
        case rel => exact ⟨k + 1, by simp, ⟨by have := hkg.out; omega⟩, ⟨(HB1.out.trans (HB5.out.mono HB1.out.size))⟩, ⟨HX.out⟩⟩
      case pos =>
      have hd4 : (p.kd == 4) = true := by simpa using h4
      by_cases hl4 : p.lv = (n : Int)
      case neg =>
        have hd5 : (p.lv == (n : Int)) = false := by simpa using hl4
        have HX := Lib.hid (HGOOD.out (by unfold r11F; rw [HP.out, HN.out]; exact if_neg (by exact fun h => hl4 h.2.1)))
        clear h4 hl4
        go_wp2_with (first | (go_at_call 27; refine HSL.out.mono ?_; rintro e w5 ⟨rfl, hb5⟩; have HB5 := Lib.hid hb5; obtain ⟨q0, q1, q2, q3, q4, q5, q6, -⟩ := page_var ((hb5.block _ (by simp)).trans HN1.out); clear hb5) | (go_at_call 77; refine (must_c _ _ _).mono ?_; rintro e w5 ⟨m1, m2, rfl⟩; first | (obtain rfl := m1 rfl; clear m1 m2) | (obtain rfl := m2 rfl; clear m1 m2)))
        rw [← HE.out]
        go_roundg g1
        case measure => omega
        case rel => exact ⟨k + 1, by simp, ⟨by have := hkg.out; omega⟩, ⟨(HB1.out.trans (HB5.out.mono HB1.out.size))⟩, ⟨HX.out⟩⟩
      case pos =>
      have hd5 : (p.lv == (n : Int)) = true := by simpa using hl4
      by_cases hx : p.nx = -1
      case neg =>
        have hd6 : (p.nx == -1) = false := by simpa using hx
        have HX := Lib.hid (HBAD.out k (by unfold r11F; rw [HP.out, HN.out]; exact if_pos ⟨h4, hl4, fun h => hx h.1⟩))
        clear h4 hl4 hx
        go_wp2_with (first | (go_at_call 27; refine HSL.out.mono ?_; rintro e w5 ⟨rfl, hb5⟩; have HB5 := Lib.hid hb5; obtain ⟨q0, q1, q2, q3, q4, q5, q6, -⟩ := page_var ((hb5.block _ (by simp)).trans HN1.out); clear hb5) | (go_at_call 77; refine (must_c _ _ _).mono ?_; rintro e w5 ⟨m1, m2, rfl⟩; first | (obtain rfl := m1 rfl; clear m1 m2) | (obtain rfl := m2 rfl; clear m1 m2)))
        exact ⟨rfl, RuleP_bad HX.out (HB1.out.trans (HB5.out.mono HB1.out.size))⟩
      case pos =>
      have hd6 : (p.nx == -1) = true := by simpa using hx
      by_cases hy : p.pv = -1
      case neg =>
        have hd7 : (p.pv == -1) = false := by simpa using hy
        have HX := Lib.hid (HBAD.out k (by unfold r11F; rw [HP.out, HN.out]; exact if_pos ⟨h4, hl4, fun h => hy h.2⟩))
        clear h4 hl4 hx hy
        go_wp2_with (first | (go_at_call 27; refine HSL.out.mono ?_; rintro e w5 ⟨rfl, hb5⟩; have HB5 := Lib.hid hb5; obtain ⟨q0, q1, q2, q3, q4, q5, q6, -⟩ := page_var ((hb5.block _ (by simp)).trans HN1.out); clear hb5) | (go_at_call 77; refine (must_c _ _ _).mono ?_; rintro e w5 ⟨m1, m2, rfl⟩; first | (obtain rfl := m1 rfl; clear m1 m2) | (obtain rfl := m2 rfl; clear m1 m2)))
        exact ⟨rfl, RuleP_bad HX.out (HB1.out.trans (HB5.out.mono HB1.out.size))⟩
      case pos =>
      have hd7 : (p.pv == -1) = true := by simpa using hy
      have HX := Lib.hid (HGOOD.out (by unfold r11F; rw [HP.out, HN.out]; exact if_neg (by exact fun h => h.2.2 ⟨hx, hy⟩)))
      clear h4 hl4 hx hy
      go_wp2_with (first | (go_at_call 27; refine HSL.out.mono ?_; rintro e w5 ⟨rfl, hb5⟩; have HB5 := Lib.hid hb5; obtain ⟨q0, q1, q2, q3, q4, q5, q6, -⟩ := page_var ((hb5.block _ (by simp)).trans HN1.out); clear hb5) | (go_at_call 77; refine (must_c _ _ _).mono ?_; rintro e w5 ⟨m1, m2, rfl⟩; first | (obtain rfl := m1 rfl; clear m1 m2) | (obtain rfl := m2 rfl; clear m1 m2)))
      rw [← HE.out]
      go_roundg g1
      case measure => omega
      case rel => exact ⟨k + 1, by simp, ⟨by have := hkg.out; omega⟩, ⟨(HB1.out.trans (HB5.out.mono HB1.out.size))⟩, ⟨HX.out⟩⟩
    · have hkd : decide ((k : Int) < (im.pages.length : Int)) = false := decide_eq_false (by omega)
      have HK := Lib.hid hk
      clear hk
      go_wp2
      go_end0
      refine RuleP_ok ?_ hbe.out
      have h := hsc.out
      rw [show gk = 0 from by have := HK.out; have := hkg.out; omega, scan] at h
      exact h.symm
end Go.Proofs.Ytkgedpcipaogjaa.WB
end
section
namespace Go.Proofs.Ytkgedpcipaogjaa.WB
open Go Go.RowKit Go.Proofs.YtkgedpcipaogjaaW.PrintWords Go.Proofs.YtkgedpcipaogjaaW.PrintLast Go.Proofs.YtkgedpcipaogjaaW.PrintMore
set_option linter.unusedVariables false
set_option linter.unusedSimpArgs false
structure Jw (im : Im) (s : Sl) (gv k : Nat) (F : Nat → Prop) (w : World) (P : Value) : Prop where
  gvF : F gv
  v : V (fun b => F b ∧ b ≠ gv) gv im s P w
  nil : k ≤ 1 → P = .slice none 0 0
  sets : 2 ≤ k → SetsAt (fun b => F b ∧ b ≠ gv) w im P
def Jx (im : Im) (s : Sl) (gv k : Nat) (F : Nat → Prop) (w : World) : Prop := ∃ P, Jw im s gv k F w P
theorem Jw.keep {im : Im} {s : Sl} {gv k : Nat} {F : Nat → Prop} {w w' : World} {P : Value} (h : Jw im s gv k F w P) (hk : ∀ b, F b → w'.heap[b]? = w.heap[b]?) : Jw im s gv k F w' P :=
  ⟨h.gvF, h.v.keep (hk _ h.gvF) (fun b hb => hk b hb.1), h.nil, fun h2 => (h.sets h2).keep (fun b hb => hk b hb.1)⟩
theorem Jw.next {im : Im} {s : Sl} {gv k : Nat} {F : Nat → Prop} {w : World} {P : Value} (h : Jw im s gv k F w P) (hk : k ≠ 1) : Jw im s gv (k + 1) F w P :=
  ⟨h.gvF, h.v, fun h2 => h.nil (by omega), fun h2 => h.sets (by omega)⟩
theorem kb_below {w w' : World} (h : Below w.heap.size w w') (S : Nat → Prop) : Kb S w w' := ⟨h.os, h.tape, h.output, h.size, fun b hb _ => h.block b hb⟩
theorem rule_of {im : Im} {s : Sl} {gv k fn : Nat} {F : Nat → Prop} {w : World} {P : Value} {res : Option Int} (hj : Jw im s gv k F w P) (hk : k ≠ 1) (hF : ∀ b, F b → b < w.heap.size) (h : RuleB fn gv w res) :
    RuleC fn gv w (fun w' => res = none → ∃ F', Jx im s gv (k + 1) F' w' ∧ F' gv ∧ (∀ b, F' b → F b ∨ w.heap.size ≤ b) ∧ ∀ b, F' b → b < w'.heap.size) res :=
  h.mono (fun e w' hh => ⟨hh.1, hh.2.1, fun _ => ⟨F, ⟨P, (hj.keep (fun b hb => hh.2.2.block b (hF b hb))).next hk⟩, hj.gvF, fun b hb => Or.inl hb, fun b hb => Nat.lt_of_lt_of_le (hF b hb) hh.2.2.size⟩, kb_below hh.2.2 _⟩)
set_option maxRecDepth 100000 in
theorem rules_of (im : Im) (s : Sl) (gv : Nat) (hw : im.Wf) : RulesOf gv (res im) (Jx im s gv) := by
  constructor
  · rintro k F w w' ⟨P, hj⟩ hk
    exact ⟨P, hj.keep hk⟩
  · rintro k hk hpre F w ⟨P, hj⟩ hgv hF
    have hF2 : ∀ b, (F b ∧ b ≠ gv) → b < w.heap.size := fun b hb => hF b hb.1
    have hg := hF gv hgv
    by_cases k0 : k = 0
    · subst k0
      exact rule_of hj (by decide) hF (config_c hj.v hF2 hg)
    have r1 : R1 im = none := hpre 0 (by omega)
    have hmay := R1_none.1 r1
    by_cases k1 : k = 1
    · subst k1
      obtain rfl := hj.nil (Nat.le_refl _)
      refine (lengths_c hj.v (fun b hb => ⟨hF b hb.1, hb.2⟩) hg hmay).mono ?_
      rintro e w' ⟨h1, h2, h3⟩
      refine ⟨fun hn => (h1 hn).1, h2, fun hn => ?_, h3⟩
      obtain ⟨-, P, hv, hs⟩ := h1 hn
      refine ⟨fun b => F b ∨ (w.heap.size ≤ b ∧ b < w'.heap.size), ⟨P, Or.inl hgv, ⟨hv.at_, hv.im.mono (fun b hb => ⟨Or.inl hb.1, hb.2⟩)⟩, fun h => by omega, fun _ => ?_⟩, Or.inl hgv, fun b hb => hb.imp id (fun h => h.1), fun b hb => ?_⟩
      · obtain ⟨A, cap, e1, e2⟩ := hs.at_
        refine ⟨A, cap, e1, fun k hk => ?_⟩
        obtain ⟨ad, sb, a1, a2, a3, a4⟩ := e2 k hk
        exact ⟨ad, sb, a1, ⟨Or.inr a2, by have := a2.1; omega⟩, a3, a4.mono (fun b hb => ⟨Or.inr hb, by have := hb.1; omega⟩)⟩
      · rcases hb with hb | hb
        · exact Nat.lt_of_lt_of_le (hF b hb) h3.size
        · exact hb.2
    have r2 : R2 im = none := hpre 1 (by omega)
    obtain ⟨o, r, hgeo⟩ := geo_of hw r1 r2
    by_cases k2 : k = 2
    · subst k2
      exact rule_of hj (by decide) hF (ranges_c hj.v hF2 hg)
    have r3 : R3 im = none := hpre 2 (by omega)
    have hR : ∀ i, i < im.pages.length → Rng im.order ((im.n : Int) - 1) (im.pg i) := fun i hi => rangeB_t (R3_none.1 r3 i hi)
    by_cases k3 : k = 3
    · subst k3
      exact rule_of hj (by decide) hF (runs_c hj.v hF2 hg hgeo hR)
    by_cases k4 : k = 4
    · subst k4
      exact rule_of hj (by decide) hF (slabs_c hj.v hF2 hg hR)
    by_cases k5 : k = 5
    · subst k5
      exact rule_of hj (by decide) hF (halves_c hj.v hF2 hg hgeo hR)
    by_cases k6 : k = 6
    · subst k6
      exact rule_of hj (by decide) hF (paired_c hj.v (hj.sets (by decide)) hF2 hg hgeo)
    by_cases k7 : k = 7
    · subst k7
      exact rule_of hj (by decide) hF (free_c hj.v hF2 hg hgeo)
    by_cases k8 : k = 8
    · subst k8
      exact rule_of hj (by decide) hF (cells_c hj.v hF2 hg hgeo hR)
    by_cases k9 : k = 9
    · subst k9
      exact rule_of hj (by decide) hF (partial_c hj.v hF2 hg hgeo hR)
    obtain rfl : k = 10 := by omega
    exact rule_of hj (by decide) hF (full_c hj.v hF2 hg hR)
def Im.check (im : Im) : Int × Int := firstBad (res im) 11 0
set_option maxRecDepth 100000 in
theorem checkIm_c {F : Nat → Prop} {im : Im} {s : Sl} {w : World} (h : ImAt F w im s) (hF : ∀ b, F b → b < w.heap.size) :
    Calls Try.prog 18 #[.agg (im.cells s)] w fun e w' => e = .returned (.tuple #[.int .i64 im.check.1, .int .i64 im.check.2]) ∧ Below w.heap.size w w' := by
  refine check_c _ _ _ _ _ _ _ _ _ w (res im) (Jx im s (w.heap.size + 1)) (rules_of im s _ h.wf) ?_
  refine ⟨fun b => F b ∨ b = w.heap.size + 1, ⟨_, Or.inr rfl, ⟨?_, ?_⟩, fun _ => rfl, fun h2 => by omega⟩, Or.inr rfl, fun b hb => ?_⟩
  · have := blk_new (w.alloc (.cells (im.cells s) 31 (0, 0))) (viewO im s (.slice none 0 0))
    rw [World.size_alloc] at this
    exact this
  · exact (h.keep (fun b hb => by
      exact (Below.heap_alloc _ _ b (Nat.lt_of_lt_of_le (hF b hb) (by simp))).trans (Below.heap_alloc w _ b (hF b hb)))).mono (fun b hb => ⟨Or.inl hb, Nat.ne_of_lt (Nat.lt_succ_of_lt (hF b hb))⟩)
  · rcases hb with hb | rfl
    · have := hF b hb; simp; omega
    · simp
end Go.Proofs.Ytkgedpcipaogjaa.WB
end
section
namespace Go.Proofs.Ytkgedpcipaogjaa.WB
open Go Go.RowKit Go.Proofs.YtkgedpcipaogjaaW.PrintWords Go.Proofs.YtkgedpcipaogjaaW.PrintLast Go.Proofs.YtkgedpcipaogjaaW.PrintMore
set_option linter.unusedVariables false
set_option linter.unusedSimpArgs false
theorem cfg_facts {im : Im} {WA W1 : World} (hW : WA.alloc (cfgO im) = W1) : WA.heap.size < W1.heap.size ∧ Below WA.heap.size WA W1 ∧ ∀ wx : World, Below W1.heap.size W1 wx → wx.cell? ⟨WA.heap.size, 0, none⟩ = some (.int .u64 im.base) ∧ wx.cell? ⟨WA.heap.size, 1, none⟩ = some (.int .i64 im.limit) ∧ wx.cell? ⟨WA.heap.size, 2, none⟩ = some (.int .i64 im.order) := by
  have hs : WA.heap.size < W1.heap.size := by rw [← hW]; simp
  refine ⟨hs, by rw [← hW]; exact (Below.refl _ _).alloc (Nat.le_refl _) _, fun wx hx => ?_⟩
  have h1 : W1.heap[WA.heap.size]? = some (cfgO im) := by rw [← hW]; exact blk_new WA _
  have h2 : wx.heap[WA.heap.size]? = some (cfgO im) := (hx.block _ hs).trans h1
  exact ⟨blk_cell h2 0, blk_cell h2 1, blk_cell h2 2⟩
theorem len_rg {a l : Int} {r x t : Nat} (hr : a = (r : Int)) (h : a ≤ l) (hl : l * (x : Int) ≤ 1024) (e : (r : Int) * (x : Int) = (t : Int)) (ht : t = r * x) : r * x ≤ 1024 := by
  have h6 : (r : Int) * (x : Int) ≤ l * (x : Int) := Int.mul_le_mul_of_nonneg_right (by omega) (by omega)
  rw [← ht]
  omega
theorem len_n1 {r o z y x t : Nat} (hz : z = 4096 * 2 ^ o) (hy : y = r * z) (hx : 2 ^ o = x) (ht : t = r * x) : (r : Int) * RR (o : Int) = (y : Int) ∧ (r : Int) * 2 ^ (o : Int).toNat = (t : Int) := by
  have e0 : RR (o : Int) = (z : Int) := by
    unfold RR
    rw [Int.toNat_natCast, hz, Int.natCast_mul, Int.natCast_pow]
    rfl
  constructor
  · rw [e0, hy, Int.natCast_mul]
  · rw [Int.toNat_natCast, ht, ← hx, Int.natCast_mul, Int.natCast_pow]
    rfl
theorem len_n2 {r z y x t : Nat} (hy : y = r * z) (ht : t = r * x) (hr : r ≤ 64) (hz : z ≤ 1048576) (hx : x ≤ 256) : (r : Int) * (z : Int) = (y : Int) ∧ (r : Int) * (x : Int) = (t : Int) ∧ y ≤ 67108864 ∧ t ≤ 16384 := by
  refine ⟨by rw [hy, Int.natCast_mul], by rw [ht, Int.natCast_mul], ?_, ?_⟩
  · have := Nat.mul_le_mul hr hz
    rw [← hy] at this
    exact this
  · have := Nat.mul_le_mul hr hx
    rw [← ht] at this
    exact this
theorem len_n3 {r o y t : Nat} (hr : r ≤ 64) (ho : o ≤ 8) (hy : y ≤ 67108864) (ht : t ≤ 16384) : IntKind.u64.wrap (y : Int) = (y : Int) ∧ IntKind.u64.wrap (r : Int) = (r : Int) ∧ wrap64 (t : Int) = (t : Int) ∧ wrap64 ((o : Int) + 1) = (o : Int) + 1 := by
  refine ⟨by rw [wrap_u64]; omega, by rw [wrap_u64]; omega, by unfold wrap64; omega, by unfold wrap64; omega⟩
theorem len_nums {r o z y x t : Nat} (hr : r ≤ 64) (ho : o ≤ 8) (hz : z = 4096 * 2 ^ o) (hy : y = r * z) (hx : 2 ^ o = x) (ht : t = r * x) :
    (r : Int) * (z : Int) = (y : Int) ∧ IntKind.u64.wrap (y : Int) = (y : Int) ∧ IntKind.u64.wrap (r : Int) = (r : Int) ∧ (r : Int) * (x : Int) = (t : Int) ∧ wrap64 (t : Int) = (t : Int) ∧ IntKind.i64.wrap (t : Int) = (t : Int) ∧ (r : Int) * RR (o : Int) = (y : Int) ∧ (r : Int) * 2 ^ (o : Int).toNat = (t : Int) ∧ wrap64 ((o : Int) + 1) = (o : Int) + 1 ∧ IntKind.i64.wrap ((o : Int) + 1) = (o : Int) + 1 := by
  have h1 : x ≤ 2 ^ 8 := by rw [← hx]; exact Nat.pow_le_pow_right (by decide) ho
  have h2 : x ≤ 256 := h1
  have hzx : z = 4096 * x := by rw [hz, hx]
  obtain ⟨a1, a2⟩ := len_n1 hz hy hx ht
  obtain ⟨b1, b2, b3, b4⟩ := len_n2 hy ht hr (show z ≤ 1048576 by clear hz hx h1; omega) h2
  obtain ⟨c1, c2, c3, c4⟩ := len_n3 (o := o) hr ho b3 b4
  exact ⟨b1, c1, c2, b2, c3, by rw [i64_w]; exact c3, a1, a2, c4, by rw [i64_w]; exact c4⟩
theorem row_n2 {k np m : Nat} (hn : np ≤ 1024) (hk : k < 8) (hm : (np + 63) / 64 = m) : wrap64 ((k : Int) + 1) = (k : Int) + 1 ∧ wrap64 (np : Int) = (np : Int) ∧ wrap64 ((np : Int) + 63) = (np : Int) + 63 ∧ wrap64 (m : Int) = (m : Int) ∧ ((np : Int) + 63) / 64 = (m : Int) ∧ k + 1 ≤ 61 := by
  refine ⟨by unfold wrap64; omega, by unfold wrap64; omega, by unfold wrap64; omega, by unfold wrap64; omega, by omega, by omega⟩
theorem row_n1 {n np y : Nat} (hnp : n / y = np) : Int.tdiv (n : Int) (y : Int) = (np : Int) := by
  rw [Int.tdiv_eq_ediv_of_nonneg (Int.natCast_nonneg n), ← hnp]
  rfl
theorem row_nums {n k np o m y : Nat} (hn : n ≤ 1024) (hko : k < o) (ho : o ≤ 8) (hy : 2 ^ (k + 1) = y) (hnp : n / y = np) (hm : (np + 63) / 64 = m) :
    wrap64 ((k : Int) + 1) = (k : Int) + 1 ∧ IntKind.i64.wrap ((k : Int) + 1) = (k : Int) + 1 ∧ Int.tdiv (n : Int) (y : Int) = (np : Int) ∧ wrap64 (np : Int) = (np : Int) ∧ IntKind.i64.wrap (np : Int) = (np : Int) ∧ ¬ y = 0 ∧ wrap64 ((np : Int) + 63) = (np : Int) + 63 ∧ IntKind.i64.wrap ((np : Int) + 63) = (np : Int) + 63 ∧ Int.tdiv ((np : Int) + 63) 64 = (m : Int) ∧ wrap64 (m : Int) = (m : Int) ∧ IntKind.i64.wrap (m : Int) = (m : Int) ∧ k + 1 ≤ 61 := by
  have hy0 : 0 < y := by rw [← hy]; exact Nat.pow_pos (by decide)
  have hle : np ≤ 1024 := by rw [← hnp]; exact Nat.le_trans (Nat.div_le_self _ _) hn
  obtain ⟨h1, h2, h3, h4, h5, h6⟩ := row_n2 hle (Nat.lt_of_lt_of_le hko ho) hm
  exact ⟨h1, by rw [i64_w]; exact h1, row_n1 hnp, h2, by rw [i64_w]; exact h2, Nat.ne_of_gt hy0, h3, by rw [i64_w]; exact h3, by rw [Int.tdiv_eq_ediv_of_nonneg (Int.add_nonneg (Int.natCast_nonneg np) (by decide))]; exact h5, h4, by rw [i64_w]; exact h4, h6⟩
theorem ne_t {a b : Int} (h : ¬ a = b) : (a != b) = true := by simpa using h
theorem ne_f {a b : Int} (h : a = b) : (a != b) = false := by simpa using h
theorem ne_t' {a b : Nat} (h : ¬ a = b) : (a != b) = true ∧ ((a : Int) != (b : Int)) = true := ⟨by simpa using h, by simp; omega⟩
theorem ne_f' {a b : Nat} (h : a = b) : (a != b) = false ∧ ((a : Int) != (b : Int)) = false := ⟨by simpa using h, by simp; omega⟩
section
variable {F : Nat → Prop} {im : Im} {s : Sl} {w : World}
set_option maxRecDepth 100000 in
set_option maxHeartbeats 8000000 in
theorem lengths_d (h : ImAt F w im s) (hF : ∀ b, F b → b < w.heap.size) (hmay : mayB im.base im.limit im.order = true) : Calls Try.prog 41 #[.agg (im.cells s)] w (DocP w (.int .i64 (doc (R2 im)))) := by
  obtain ⟨A, a, B, b, C, c, D, d, E, e⟩ := s
  obtain ⟨WA, hWA⟩ : ∃ W, w.alloc (imO im ⟨A, a, B, b, C, c, D, d, E, e⟩) = W := ⟨_, rfl⟩
  obtain ⟨hsa, hbl, hvl⟩ := box_facts h hF hWA
  have HBL := Lib.hid hbl
  have HVL := Lib.hid hvl
  have HFA := Lib.hid (show ∀ b, F b → b < WA.heap.size from fun b hb => by have := hF b hb; omega)
  have HWF := Lib.hid h.wf
  have hl := len_i64 h.wf
  obtain ⟨c0, c1, c2, c3, c4, c5, c6, c7, c8⟩ := (hvl WA (Below.refl _ _)).cell
  dsimp only at c0 c1 c2 c3 c4 c5 c6 c7 c8
  unfold imO Im.cells at hWA
  unfold Im.cells
  clear h hF hvl hbl
  obtain ⟨o, ho, ho8, hl1, hl2, hlim, -⟩ := may_t hmay
  obtain ⟨x, hx⟩ : ∃ x, 2 ^ o = x := ⟨_, rfl⟩
  have HLIM := Lib.hid (show im.limit * (x : Int) ≤ 1024 by rw [← hx, Int.natCast_pow]; exact hlim)
  have HXX := Lib.hid hx
  clear hx hlim
  have HL2 := Lib.hid hl2
  have HO := Lib.hid ho
  have HO8 := Lib.hid ho8
  obtain ⟨W1, hW1⟩ : ∃ W, WA.alloc (cfgO im) = W := ⟨_, rfl⟩
  obtain ⟨-, hb1, hcf⟩ := cfg_facts hW1
  rw [hsa] at hcf
  have HB1 := Lib.hid hb1
  have HCF := Lib.hid hcf
  obtain ⟨g0, g1, g2⟩ := hcf W1 (Below.refl _ _)
  obtain ⟨d0, d1, d2, d3, d4, d5, d6, d7, d8⟩ := (HVL.out W1 hb1).cell
  dsimp only at d0 d1 d2 d3 d4 d5 d6 d7 d8
  have HVM := Lib.hid (show ∀ wx, Below W1.heap.size W1 wx → Below WA.heap.size WA wx from fun wx hx => hb1.trans (hx.mono hb1.size))
  unfold cfgO at hW1
  clear hmay hcf hb1 hl1 hl2 ho ho8
  cases h1 : inB im.regions 0 im.limit with
  | false =>
    have HX := Lib.hid (r2_1 h1)
    go_enter Try.func41, Try.ntmps41
    go_wp2_with (go_at_call 71; refine (in_i _ _ _ _).mono ?_; rintro e w5 ⟨rfl, hw5⟩; have hw5s := hw5.symm; clear hw5; subst hw5s)
    go_ret
    exact ⟨by rw [HX.out]; rfl, HBL.out _ HB1.out⟩
  | true =>
  have hreg := inB_t.1 h1
  obtain ⟨r, hr⟩ : ∃ r : Nat, im.regions = r := ⟨im.regions.toNat, by omega⟩
  have hr64 : r ≤ 64 := by have := HL2.out; omega
  have HR64 := Lib.hid hr64
  obtain ⟨z, hz⟩ : ∃ z, z = 4096 * 2 ^ o := ⟨_, rfl⟩
  obtain ⟨y, hy⟩ : ∃ y, y = r * z := ⟨_, rfl⟩
  obtain ⟨t, ht⟩ : ∃ t, t = r * x := ⟨_, rfl⟩
  obtain ⟨n1, n2, n3, n4, n5, n6, n7, n8, n9, n10⟩ := len_nums hr64 HO8.out hz hy HXX.out ht
  have e2 : im.regions * RR im.order = (y : Int) := by rw [hr, HO.out]; exact n7
  have e3 : im.regions * 2 ^ im.order.toNat = (t : Int) := by rw [hr, HO.out]; exact n8
  have E2 := Lib.hid e2
  have E3 := Lib.hid e3
  have HRG := Lib.hid (len_rg hr hreg.2 HLIM.out n4 ht)
  have H1 := Lib.hid h1
  have HR := Lib.hid hr
  have HRC := Lib.hid (fun wx => (show Calls Try.prog 20 #[.agg #[.int .u64 im.base, .int .i64 im.limit, .int .i64 im.order]] wx fun e w' => e = .returned (.int .u64 (z : Int)) ∧ Below wx.heap.size wx w' by
    rw [HO.out, hz]; exact R_d HO8.out im.base im.limit wx))
  have HPC := Lib.hid (fun wx => (show Calls Try.prog 30 #[.int .i64 im.order] wx fun e w' => e = .returned (.int .i64 (x : Int)) ∧ w' = wx by
    rw [HO.out]; exact power_x HXX.out (Nat.le_trans HO8.out (by decide)) wx))
  have hlm := HWF.out.lmem
  have hwl : IntKind.u64.wrap (im.mem.length : Int) = (im.mem.length : Int) := by clear n1 n4 n7 n8 e2 e3 hz hy ht; exact wrap_u64_in (by omega) (by omega)
  have HT := Lib.hid ht
  clear hr64 hz hy ht n7 n8 e2 e3 hreg hlm hr
  go_enter Try.func41, Try.ntmps41
  go_upto_region 4 with (go_at_call 71; refine (in_i _ _ _ _).mono ?_; rintro e w5 ⟨rfl, hw5⟩; have hw5s := hw5.symm; clear hw5; subst hw5s)
  clear h1 d0 d1 d2 d3 d4 d5 d6 d7 d8 g0 g1 g2 hW1 hWA c0 c1 c2 c3 c4 c5 c6 c7 c8
  by_cases h2 : im.mem.length = y
  case neg =>
    obtain ⟨b2, b1⟩ := ne_t' h2
    have HX := Lib.hid (r2_2 H1.out (by rw [E2.out]; omega))
    refine qg_region (by kernel_rfl) (by kernel_rfl) ?_
    iterate 1 (refine qg_want (by kernel_rfl) (fun K hK => ?_); go_simp; first | refine ⟨_, fun _ _ => rfl, hK _ ?_⟩ | refine hK _ ?_; clear hK K)
    iterate 1 (refine qg_want (by kernel_rfl) (fun K hK => ?_); go_simp; apply Exists.intro; refine ⟨fun wx hx => ?_, hK _ ?_⟩; ((obtain ⟨f0, f1, f2, f3, f4, f5, f6, f7, f8⟩ := (HVL.out wx (HVM.out wx hx)).cell; dsimp only at f0 f1 f2 f3 f4 f5 f6 f7 f8; rw [HR.out] at f3; obtain ⟨e0, e1, e2⟩ := HCF.out wx hx); go_simp; try rfl); clear hK K)
    iterate 2 (refine qg_want (by kernel_rfl) (fun K hK => ?_); go_simp; first | refine ⟨_, fun _ _ => rfl, hK _ ?_⟩ | refine hK _ ?_; clear hK K)
    iterate 1 (refine qg_want (by kernel_rfl) (fun K hK => ?_); go_simp; first | refine ⟨_, fun _ _ => rfl, hK _ ?_⟩ | refine hK _ ?_; clear hK K)
    iterate 1 (refine qg_want (by kernel_rfl) (fun K hK => ?_); go_simp; apply Exists.intro; refine ⟨fun wx hx => ?_, hK _ ?_⟩; ((obtain ⟨f0, f1, f2, f3, f4, f5, f6, f7, f8⟩ := (HVL.out wx (HVM.out wx hx)).cell; dsimp only at f0 f1 f2 f3 f4 f5 f6 f7 f8; rw [HR.out] at f3; obtain ⟨e0, e1, e2⟩ := HCF.out wx hx); go_simp; try rfl); clear hK K)
    iterate 1 (refine qg_want (by kernel_rfl) (fun K hK => ?_); go_simp; first | refine ⟨_, fun _ _ => rfl, hK _ ?_⟩ | refine hK _ ?_; clear hK K)
    iterate 1 (refine qg_want (by kernel_rfl) (fun K hK => ?_); go_simp; apply Exists.intro; refine ⟨fun wx hx => ?_, hK _ ?_⟩; ((obtain ⟨f0, f1, f2, f3, f4, f5, f6, f7, f8⟩ := (HVL.out wx (HVM.out wx hx)).cell; dsimp only at f0 f1 f2 f3 f4 f5 f6 f7 f8; rw [HR.out] at f3; obtain ⟨e0, e1, e2⟩ := HCF.out wx hx); go_simp; try rfl); clear hK K)
    (refine qg_want (by kernel_rfl) (fun K hK => ?_); go_simp; apply Exists.intro; refine ⟨fun wx hx => qg_calls hx (HRC.out wx), hK _ ?_⟩; clear hK K)
    iterate 2 (refine qg_want (by kernel_rfl) (fun K hK => ?_); go_simp; first | refine ⟨_, fun _ _ => rfl, hK _ ?_⟩ | refine hK _ ?_; clear hK K)
    refine qg_nil (fun w9 hw9 => ?_)
    go_wp2
    go_ret
    exact ⟨by rw [HX.out]; rfl, HBL.out _ (HB1.out.trans (hw9.mono HB1.out.size))⟩
  obtain ⟨b2, b1⟩ := ne_f' h2
  refine qg_region (by kernel_rfl) (by kernel_rfl) ?_
  iterate 1 (refine qg_want (by kernel_rfl) (fun K hK => ?_); go_simp; first | refine ⟨_, fun _ _ => rfl, hK _ ?_⟩ | refine hK _ ?_; clear hK K)
  iterate 1 (refine qg_want (by kernel_rfl) (fun K hK => ?_); go_simp; apply Exists.intro; refine ⟨fun wx hx => ?_, hK _ ?_⟩; ((obtain ⟨f0, f1, f2, f3, f4, f5, f6, f7, f8⟩ := (HVL.out wx (HVM.out wx hx)).cell; dsimp only at f0 f1 f2 f3 f4 f5 f6 f7 f8; rw [HR.out] at f3; obtain ⟨e0, e1, e2⟩ := HCF.out wx hx); go_simp; try rfl); clear hK K)
  iterate 2 (refine qg_want (by kernel_rfl) (fun K hK => ?_); go_simp; first | refine ⟨_, fun _ _ => rfl, hK _ ?_⟩ | refine hK _ ?_; clear hK K)
  iterate 1 (refine qg_want (by kernel_rfl) (fun K hK => ?_); go_simp; first | refine ⟨_, fun _ _ => rfl, hK _ ?_⟩ | refine hK _ ?_; clear hK K)
  iterate 1 (refine qg_want (by kernel_rfl) (fun K hK => ?_); go_simp; apply Exists.intro; refine ⟨fun wx hx => ?_, hK _ ?_⟩; ((obtain ⟨f0, f1, f2, f3, f4, f5, f6, f7, f8⟩ := (HVL.out wx (HVM.out wx hx)).cell; dsimp only at f0 f1 f2 f3 f4 f5 f6 f7 f8; rw [HR.out] at f3; obtain ⟨e0, e1, e2⟩ := HCF.out wx hx); go_simp; try rfl); clear hK K)
  iterate 1 (refine qg_want (by kernel_rfl) (fun K hK => ?_); go_simp; first | refine ⟨_, fun _ _ => rfl, hK _ ?_⟩ | refine hK _ ?_; clear hK K)
  iterate 1 (refine qg_want (by kernel_rfl) (fun K hK => ?_); go_simp; apply Exists.intro; refine ⟨fun wx hx => ?_, hK _ ?_⟩; ((obtain ⟨f0, f1, f2, f3, f4, f5, f6, f7, f8⟩ := (HVL.out wx (HVM.out wx hx)).cell; dsimp only at f0 f1 f2 f3 f4 f5 f6 f7 f8; rw [HR.out] at f3; obtain ⟨e0, e1, e2⟩ := HCF.out wx hx); go_simp; try rfl); clear hK K)
  (refine qg_want (by kernel_rfl) (fun K hK => ?_); go_simp; apply Exists.intro; refine ⟨fun wx hx => qg_calls hx (HRC.out wx), hK _ ?_⟩; clear hK K)
  iterate 2 (refine qg_want (by kernel_rfl) (fun K hK => ?_); go_simp; first | refine ⟨_, fun _ _ => rfl, hK _ ?_⟩ | refine hK _ ?_; clear hK K)
  refine qg_nil (fun w9 hw9 => ?_)
  have HWA9 := Lib.hid hw9
  have H2 := Lib.hid (show (im.mem.length : Int) = im.regions * RR im.order by rw [E2.out, h2])
  clear hw9 b1 b2 h2 n1 n2 n3 hwl
  go_wp2
  by_cases h3 : im.pages.length = t
  case neg =>
    obtain ⟨b2, b1⟩ := ne_t' h3
    have HX := Lib.hid (r2_3 H1.out H2.out (by rw [E3.out]; unfold Im.n; omega))
    refine qg_region (by kernel_rfl) (by kernel_rfl) ?_
    iterate 1 (refine qg_want (by kernel_rfl) (fun K hK => ?_); go_simp; first | refine ⟨_, fun _ _ => rfl, hK _ ?_⟩ | refine hK _ ?_; clear hK K)
    iterate 1 (refine qg_want (by kernel_rfl) (fun K hK => ?_); go_simp; apply Exists.intro; refine ⟨fun wx hx => ?_, hK _ ?_⟩; ((obtain ⟨f0, f1, f2, f3, f4, f5, f6, f7, f8⟩ := (HVL.out wx (HVM.out wx (HWA9.out.trans (hx.mono HWA9.out.size)))).cell; dsimp only at f0 f1 f2 f3 f4 f5 f6 f7 f8; rw [HR.out] at f3; obtain ⟨e0, e1, e2⟩ := HCF.out wx (HWA9.out.trans (hx.mono HWA9.out.size))); go_simp; try rfl); clear hK K)
    iterate 1 (refine qg_want (by kernel_rfl) (fun K hK => ?_); go_simp; first | refine ⟨_, fun _ _ => rfl, hK _ ?_⟩ | refine hK _ ?_; clear hK K)
    iterate 1 (refine qg_want (by kernel_rfl) (fun K hK => ?_); go_simp; first | refine ⟨_, fun _ _ => rfl, hK _ ?_⟩ | refine hK _ ?_; clear hK K)
    iterate 1 (refine qg_want (by kernel_rfl) (fun K hK => ?_); go_simp; apply Exists.intro; refine ⟨fun wx hx => ?_, hK _ ?_⟩; ((obtain ⟨f0, f1, f2, f3, f4, f5, f6, f7, f8⟩ := (HVL.out wx (HVM.out wx (HWA9.out.trans (hx.mono HWA9.out.size)))).cell; dsimp only at f0 f1 f2 f3 f4 f5 f6 f7 f8; rw [HR.out] at f3; obtain ⟨e0, e1, e2⟩ := HCF.out wx (HWA9.out.trans (hx.mono HWA9.out.size))); go_simp; try rfl); clear hK K)
    iterate 1 (refine qg_want (by kernel_rfl) (fun K hK => ?_); go_simp; first | refine ⟨_, fun _ _ => rfl, hK _ ?_⟩ | refine hK _ ?_; clear hK K)
    iterate 1 (refine qg_want (by kernel_rfl) (fun K hK => ?_); go_simp; apply Exists.intro; refine ⟨fun wx hx => ?_, hK _ ?_⟩; ((obtain ⟨f0, f1, f2, f3, f4, f5, f6, f7, f8⟩ := (HVL.out wx (HVM.out wx (HWA9.out.trans (hx.mono HWA9.out.size)))).cell; dsimp only at f0 f1 f2 f3 f4 f5 f6 f7 f8; rw [HR.out] at f3; obtain ⟨e0, e1, e2⟩ := HCF.out wx (HWA9.out.trans (hx.mono HWA9.out.size))); go_simp; try rfl); clear hK K)
    (refine qg_want (by kernel_rfl) (fun K hK => ?_); go_simp; apply Exists.intro; refine ⟨fun wx hx => qg_same hx (HPC.out wx), hK _ ?_⟩; clear hK K)
    iterate 2 (refine qg_want (by kernel_rfl) (fun K hK => ?_); go_simp; first | refine ⟨_, fun _ _ => rfl, hK _ ?_⟩ | refine hK _ ?_; clear hK K)
    refine qg_nil (fun w9 hw9 => ?_)
    go_wp2
    go_ret
    exact ⟨by rw [HX.out]; rfl, HBL.out _ (HB1.out.trans ((HWA9.out.trans (hw9.mono HWA9.out.size)).mono HB1.out.size))⟩
  obtain ⟨b2, b1⟩ := ne_f' h3
  refine qg_region (by kernel_rfl) (by kernel_rfl) ?_
  iterate 1 (refine qg_want (by kernel_rfl) (fun K hK => ?_); go_simp; first | refine ⟨_, fun _ _ => rfl, hK _ ?_⟩ | refine hK _ ?_; clear hK K)
  iterate 1 (refine qg_want (by kernel_rfl) (fun K hK => ?_); go_simp; apply Exists.intro; refine ⟨fun wx hx => ?_, hK _ ?_⟩; ((obtain ⟨f0, f1, f2, f3, f4, f5, f6, f7, f8⟩ := (HVL.out wx (HVM.out wx (HWA9.out.trans (hx.mono HWA9.out.size)))).cell; dsimp only at f0 f1 f2 f3 f4 f5 f6 f7 f8; rw [HR.out] at f3; obtain ⟨e0, e1, e2⟩ := HCF.out wx (HWA9.out.trans (hx.mono HWA9.out.size))); go_simp; try rfl); clear hK K)
  iterate 1 (refine qg_want (by kernel_rfl) (fun K hK => ?_); go_simp; first | refine ⟨_, fun _ _ => rfl, hK _ ?_⟩ | refine hK _ ?_; clear hK K)
  iterate 1 (refine qg_want (by kernel_rfl) (fun K hK => ?_); go_simp; first | refine ⟨_, fun _ _ => rfl, hK _ ?_⟩ | refine hK _ ?_; clear hK K)
  iterate 1 (refine qg_want (by kernel_rfl) (fun K hK => ?_); go_simp; apply Exists.intro; refine ⟨fun wx hx => ?_, hK _ ?_⟩; ((obtain ⟨f0, f1, f2, f3, f4, f5, f6, f7, f8⟩ := (HVL.out wx (HVM.out wx (HWA9.out.trans (hx.mono HWA9.out.size)))).cell; dsimp only at f0 f1 f2 f3 f4 f5 f6 f7 f8; rw [HR.out] at f3; obtain ⟨e0, e1, e2⟩ := HCF.out wx (HWA9.out.trans (hx.mono HWA9.out.size))); go_simp; try rfl); clear hK K)
  iterate 1 (refine qg_want (by kernel_rfl) (fun K hK => ?_); go_simp; first | refine ⟨_, fun _ _ => rfl, hK _ ?_⟩ | refine hK _ ?_; clear hK K)
  iterate 1 (refine qg_want (by kernel_rfl) (fun K hK => ?_); go_simp; apply Exists.intro; refine ⟨fun wx hx => ?_, hK _ ?_⟩; ((obtain ⟨f0, f1, f2, f3, f4, f5, f6, f7, f8⟩ := (HVL.out wx (HVM.out wx (HWA9.out.trans (hx.mono HWA9.out.size)))).cell; dsimp only at f0 f1 f2 f3 f4 f5 f6 f7 f8; rw [HR.out] at f3; obtain ⟨e0, e1, e2⟩ := HCF.out wx (HWA9.out.trans (hx.mono HWA9.out.size))); go_simp; try rfl); clear hK K)
  (refine qg_want (by kernel_rfl) (fun K hK => ?_); go_simp; apply Exists.intro; refine ⟨fun wx hx => qg_same hx (HPC.out wx), hK _ ?_⟩; clear hK K)
  iterate 2 (refine qg_want (by kernel_rfl) (fun K hK => ?_); go_simp; first | refine ⟨_, fun _ _ => rfl, hK _ ?_⟩ | refine hK _ ?_; clear hK K)
  refine qg_nil (fun w9 hw9 => ?_)
  have HWB := Lib.hid (show Below W1.heap.size W1 w9 from HWA9.out.trans (hw9.mono HWA9.out.size))
  have H3 := Lib.hid (show (im.n : Int) = im.regions * 2 ^ im.order.toNat by rw [E3.out]; unfold Im.n; rw [h3])
  have HN := Lib.hid (show im.pages.length ≤ 1024 by rw [h3, HT.out]; exact HRG.out)
  clear hw9 b1 b2 h3 n4 n5 n6
  obtain ⟨d0, d1, d2, d3, d4, d5, d6, d7, d8⟩ := (HVL.out w9 (HVM.out w9 HWB.out)).cell
  dsimp only at d0 d1 d2 d3 d4 d5 d6 d7 d8
  obtain ⟨g0, g1, g2⟩ := HCF.out w9 HWB.out
  by_cases h4 : (im.pairs.length : Int) = im.order
  case neg =>
    have b1 : ((im.pairs.length : Int) != im.order) = true := ne_t h4
    have HX := Lib.hid (r2_4 H1.out H2.out H3.out h4)
    clear h4
    go_wp2
    go_ret
    exact ⟨by rw [HX.out]; rfl, HBL.out _ (HB1.out.trans (HWB.out.mono HB1.out.size))⟩
  have b1 : ((im.pairs.length : Int) != im.order) = false := ne_f h4
  have HR25 := Lib.hid (r2_5 H1.out H2.out H3.out h4)
  have HPL := Lib.hid (show im.pairs.length = o by have := HO.out; omega)
  clear h4
  go_wp2
  clear d0 d1 d2 d3 d4 d5 d6 d7 d8 g0 g1 g2 b1
  go_loopg [4, 5, 41, 42, 43, 44, 45, 46, 47, 48, 49, 50, 51, 52, 53, 54, 55, 56, 57, 58, 59, 60, 61, 62, 63] o (fun g v _ _ _ _ _ _ _ _ _ _ _ _ _ _ _ _ _ _ _ _ _ _ _ _ wr => ∃ k : Nat, v = .int .i64 (k : Int) ∧ Aside0 (k + g = o) ∧ Aside0 (Below W1.heap.size W1 wr) ∧ Aside0 (scan (rowF im) g k = scan (rowF im) im.pairs.length 0))
  case atStart => exact ⟨0, rfl, ⟨by omega⟩, ⟨HWB.out⟩, ⟨by rw [HPL.out]⟩⟩
  case round =>
    obtain ⟨k, rfl, hkg, hbe, hsc⟩ := hrel
    obtain ⟨d0, d1, d2, d3, d4, d5, d6, d7, d8⟩ := (HVL.out wr (HVM.out wr hbe.out)).cell
    dsimp only at d0 d1 d2 d3 d4 d5 d6 d7 d8
    obtain ⟨g0, g1, g2⟩ := HCF.out wr hbe.out
    have HBE := Lib.hid hbe.out
    by_cases hk : k < o
    case neg =>
      have hkd : decide ((k : Int) < im.order) = false := decide_eq_false (by have := HO.out; omega)
      have hscn : scan (rowF im) im.pairs.length 0 = none := by have h := hsc.out; rw [show gk = 0 by have := hkg.out; omega, scan] at h; exact h.symm
      have HR26 := Lib.hid (show R2 im = if (im.heads.length : Int) ≠ im.order + 1 then some 4 else if im.parts.length ≠ 8 then some 5 else none by rw [HR25.out, hscn])
      have n9' : wrap64 (im.order + 1) = im.order + 1 := by rw [HO.out]; exact n9
      have n10' : IntKind.i64.wrap (im.order + 1) = im.order + 1 := by rw [HO.out]; exact n10
      clear hk hscn hsc hkg hbe n9 n10
      by_cases h5 : (im.heads.length : Int) = im.order + 1
      case neg =>
        have b1 := ne_t h5
        have HX := Lib.hid (show R2 im = some 4 by rw [HR26.out, if_pos h5])
        clear h5
        go_wp2
        go_ret
        exact ⟨by rw [HX.out]; rfl, HBL.out _ (HB1.out.trans (HBE.out.mono HB1.out.size))⟩
      have b1 := ne_f h5
      by_cases h6 : im.parts.length = 8
      case neg =>
        have b3 : (im.parts.length != 8) = true := by simpa using h6
        have b4 : ((im.parts.length : Int) != 8) = true := ne_t (by omega)
        have HX := Lib.hid (show R2 im = some 5 by rw [HR26.out, if_neg (fun hh => hh h5), if_pos h6])
        clear h5 h6
        go_wp2
        go_ret
        exact ⟨by rw [HX.out]; rfl, HBL.out _ (HB1.out.trans (HBE.out.mono HB1.out.size))⟩
      have b3 : (im.parts.length != 8) = false := by simpa using h6
      have b4 : ((im.parts.length : Int) != 8) = false := ne_f (by omega)
      have HX := Lib.hid (show R2 im = none by rw [HR26.out, if_neg (fun hh => hh h5), if_neg (fun hh => hh h6)])
      clear h5 h6
      go_wp2
      go_ret
      exact ⟨by rw [HX.out]; rfl, HBL.out _ (HB1.out.trans (HBE.out.mono HB1.out.size))⟩
    have hkd : decide ((k : Int) < im.order) = true := decide_eq_true (by have := HO.out; omega)
    obtain ⟨q1, rfl⟩ : ∃ g1, gk = g1 + 1 := ⟨gk - 1, by have := hkg.out; omega⟩
    have HG := Lib.hid (lp_step hkg.out)
    have hkp : k < im.pairs.length := by have := HPL.out; omega
    have hkI : (k : Int) < (im.pairs.length : Int) := by omega
    obtain ⟨adc, hec, -, hrows⟩ := (HVL.out wr (HVM.out wr hbe.out)).im.pairs (Nat.lt_of_le_of_lt (Nat.zero_le _) hkp)
    dsimp only at hec
    subst hec
    have HKP := Lib.hid hkp
    have HBAD := Lib.hid (show rowF im k = some 3 → R2 im = some 3 from fun h => by rw [HR25.out, ← hsc.out, scan_bad h])
    have HGOOD := Lib.hid (show rowF im k = none → scan (rowF im) q1 (k + 1) = scan (rowF im) im.pairs.length 0 from fun h => (scan_ok h).symm.trans hsc.out)
    obtain ⟨y2, hy2⟩ : ∃ y, 2 ^ (k + 1) = y := ⟨_, rfl⟩
    obtain ⟨np, hnp⟩ : ∃ np, im.pages.length / y2 = np := ⟨_, rfl⟩
    obtain ⟨m, hm⟩ : ∃ m, (np + 63) / 64 = m := ⟨_, rfl⟩
    obtain ⟨m1, m2, m3, m4, m5, m6, m7, m8, m9, m10, m11, m12⟩ := row_nums HN.out hk HO8.out hy2 hnp hm
    have HPW := Lib.hid (fun wx => (power_x hy2 m12 wx : Calls Try.prog 30 #[.int .i64 ((k : Int) + 1)] wx _))
    have HRF := Lib.hid (show rowF im k = if (im.row k).length = m then none else some 3 by unfold rowF Im.np Im.n; rw [hy2, hnp, hm])
    have M1 := Lib.hid m1
    clear hk hkg hsc hbe hy2 hnp hm m12 hrows hkp
    go_upto_region 13 with (fail)
    clear d0 d1 d2 d3 d4 d5 d6 d7 d8 g0 g1 g2
    refine qg_region (by kernel_rfl) (by kernel_rfl) ?_
    iterate 1 (refine qg_want (by kernel_rfl) (fun K hK => ?_); go_simp; first | refine ⟨_, fun _ _ => rfl, hK _ ?_⟩ | refine hK _ ?_; clear hK K)
    iterate 1 (refine qg_want (by kernel_rfl) (fun K hK => ?_); go_simp; apply Exists.intro; refine ⟨fun wx hx => ?_, hK _ ?_⟩; ((obtain ⟨f0, f1, f2, f3, f4, f5, f6, f7, f8⟩ := (HVL.out wx (HVM.out wx (HBE.out.trans (hx.mono HBE.out.size)))).cell; dsimp only at f0 f1 f2 f3 f4 f5 f6 f7 f8; rw [HR.out] at f3; obtain ⟨e0, e1, e2⟩ := HCF.out wx (HBE.out.trans (hx.mono HBE.out.size))); go_simp; try rfl); clear hK K)
    iterate 3 (refine qg_want (by kernel_rfl) (fun K hK => ?_); go_simp; first | refine ⟨_, fun _ _ => rfl, hK _ ?_⟩ | refine hK _ ?_; clear hK K)
    (refine qg_want (by kernel_rfl) (fun K hK => ?_); go_simp; apply Exists.intro; refine ⟨fun wx hx => qg_same hx (HPW.out wx), hK _ ?_⟩; clear hK K)
    iterate 2 (refine qg_want (by kernel_rfl) (fun K hK => ?_); go_simp; first | refine ⟨_, fun _ _ => rfl, hK _ ?_⟩ | refine hK _ ?_; clear hK K)
    refine qg_nil (fun w9 hw9 => ?_)
    have HBF := Lib.hid (show Below W1.heap.size W1 w9 from HBE.out.trans (hw9.mono HBE.out.size))
    clear hw9
    obtain ⟨d0, d1, d2, d3, d4, d5, d6, d7, d8⟩ := (HVL.out w9 (HVM.out w9 HBF.out)).cell
    dsimp only at d0 d1 d2 d3 d4 d5 d6 d7 d8
    obtain ⟨adq, heq, -, hrows⟩ := (HVL.out w9 (HVM.out w9 HBF.out)).im.pairs (Nat.lt_of_le_of_lt (Nat.zero_le _) HKP.out)
    obtain ⟨B2, cc, hcc, hcell, -⟩ := hrows k HKP.out
    dsimp only at heq
    injection heq with heq
    subst heq
    have hgd : im.pairs.getD k [] = im.row k := rfl
    rw [hgd] at hcc hcell
    generalize im.row k = row at *
    clear hrows hgd m3 m4 m5 m6
    by_cases hlm : row.length = m
    · obtain ⟨b2, b1⟩ := ne_f' hlm
      have HX := Lib.hid (HGOOD.out (by rw [HRF.out, if_pos hlm]))
      clear hlm
      go_wp2
      go_roundg q1
      case measure => omega
      case rel => exact ⟨k + 1, by simp; try exact M1.out, ⟨HG.out⟩, ⟨HBF.out⟩, ⟨HX.out⟩⟩
    · obtain ⟨b2, b1⟩ := ne_t' hlm
      have HX := Lib.hid (HBAD.out (by rw [HRF.out, if_neg hlm]))
      clear hlm
      go_wp2
      go_ret
      exact ⟨by rw [HX.out]; rfl, HBL.out _ (HB1.out.trans (HBF.out.mono HB1.out.size))⟩
end
end Go.Proofs.Ytkgedpcipaogjaa.WB
end
section
namespace Go.Proofs.Ytkgedpcipaogjaa.WB
open Go Go.RowKit Go.Proofs.YtkgedpcipaogjaaW.PrintWords Go.Proofs.YtkgedpcipaogjaaW.PrintLast Go.Proofs.YtkgedpcipaogjaaW.PrintMore
set_option linter.unusedVariables false
set_option linter.unusedSimpArgs false
def runS (im : Im) (a i : Nat) : Option Int := if (im.pg (a + i)).kd = (im.pg a).kd + 1 ∧ (im.pg (a + i)).od = (im.pg a).od ∧ plainB (im.pg (a + i)) = true then none else some ((a + i : Nat) : Int)
theorem run_end {im : Im} {d a : Nat} (h : ¬ a < im.pages.length) : runF im (d + 1) a = none := by
  rw [runF, if_neg (by unfold Im.n; exact h)]
theorem run_slab {im : Im} {d a : Nat} (h : a < im.pages.length) (hk : (im.pg a).kd = 4) (ho : (im.pg a).od = 0) : runF im (d + 1) a = runF im d (a + 1) := by
  rw [runF, if_pos (by unfold Im.n; exact h), if_pos hk, if_pos ho]
theorem run_slab_bad {im : Im} {d a : Nat} (h : a < im.pages.length) (hk : (im.pg a).kd = 4) (ho : ¬ (im.pg a).od = 0) : runF im (d + 1) a = some (a : Int) := by
  rw [runF, if_pos (by unfold Im.n; exact h), if_pos hk, if_neg ho]
theorem run_bad {im : Im} {d a : Nat} (h : a < im.pages.length) (hk : ¬ (im.pg a).kd = 4) (hc : ¬ (((im.pg a).kd = 0 ∨ (im.pg a).kd = 2) ∧ a % 2 ^ (im.pg a).od.toNat = 0 ∧ plainB (im.pg a) = true)) : runF im (d + 1) a = some (a : Int) := by
  rw [runF, if_pos (by unfold Im.n; exact h), if_neg hk, if_neg hc]
theorem run_go {im : Im} {d a z : Nat} (h : a < im.pages.length) (hk : ¬ (im.pg a).kd = 4) (hz : 2 ^ (im.pg a).od.toNat = z) (hc : ((im.pg a).kd = 0 ∨ (im.pg a).kd = 2) ∧ a % z = 0 ∧ plainB (im.pg a) = true) : runF im (d + 1) a = match scan (runS im a) (z - 1) 1 with
    | some p => some p
    | none => runF im d (a + z) := by
  rw [runF, if_pos (by unfold Im.n; exact h), if_neg hk, hz, if_pos hc]
  rfl
theorem run_nums {im : Im} {o r : Nat} (g : Geo im o r) {a k z m : Nat} (ha : a < im.pages.length) (hk : k ≤ o) (hz : 2 ^ k = z) (hm : a % z = m) : (m = 0 → a + z ≤ im.pages.length) ∧ Int.tmod (a : Int) (z : Int) = (m : Int) ∧ wrap64 (m : Int) = (m : Int) ∧ ¬ z = 0 ∧ 0 < z ∧ im.pages.length ≤ 1024 ∧ z ≤ 256 := by
  have hz0 : 0 < z := by rw [← hz]; exact Nat.pow_pos (by decide)
  have h1024 : im.pages.length ≤ 1024 := g.n1024
  have hz8 : z ≤ 2 ^ 8 := by rw [← hz]; exact Nat.pow_le_pow_right (by decide) (Nat.le_trans hk g.o8)
  have hml : m ≤ a := by rw [← hm]; exact Nat.mod_le _ _
  refine ⟨fun h0 => ?_, ?_, ?_, Nat.ne_of_gt hz0, hz0, h1024, hz8⟩
  · have := g.fits (k := k) (i := a) hk ha (by rw [hz, hm]; exact h0)
    rw [hz] at this
    exact this
  · rw [Int.tmod_eq_emod_of_nonneg (Int.natCast_nonneg a), ← hm]
    rfl
  · clear hz hm hz8; unfold wrap64; omega
theorem run_ai {a i z n : Nat} (h : a + z ≤ n) (hi : i < z) (hn : n ≤ 1024) {m : Nat} (hm : m = a + i) : wrap64 ((a : Int) + (i : Int)) = (m : Int) ∧ m < n ∧ (m : Int) < (n : Int) ∧ wrap64 ((i : Int) + 1) = (i : Int) + 1 ∧ i + 1 ≤ 140737488355328 := by
  refine ⟨by unfold wrap64; omega, by omega, by omega, by unfold wrap64; omega, by omega⟩
theorem run_az {a z n : Nat} (h : a + z ≤ n) (hn : n ≤ 1024) {m : Nat} (hm : m = a + z) : wrap64 ((a : Int) + (z : Int)) = (m : Int) := by unfold wrap64; omega
theorem ne_z {m : Nat} (h : ¬ m = 0) : ((m : Int) != 0) = true ∧ (m != 0) = true := ⟨ne_t (by omega), by simpa using h⟩
theorem eq_z {m : Nat} (h : m = 0) : ((m : Int) != 0) = false ∧ (m != 0) = false := ⟨ne_f (by omega), by simpa using h⟩
theorem run_lt {n k z g : Nat} (h : n < k + (g + 1)) (hz : 0 < z) : n < k + z + g := by omega
theorem run_start {z : Nat} (hz : 0 < z) : 1 + (z - 1) = z := by omega
theorem lp_end0 {j g n : Nat} (h : j + g = n) (hj : ¬ j < n) : g = 0 := by omega
theorem kd1 {k : Int} (h0 : 0 ≤ k) (h4 : k ≤ 4) : wrap64 (k + 1) = k + 1 := by unfold wrap64; omega
section
variable {F : Nat → Prop} {im : Im} {s : Sl} {w : World}
set_option maxRecDepth 100000 in
set_option maxHeartbeats 8000000 in
theorem runs_d (h : ImAt F w im s) (hF : ∀ b, F b → b < w.heap.size) {o r : Nat} (g : Geo im o r) (hR : ∀ i, i < im.pages.length → Rng im.order ((im.n : Int) - 1) (im.pg i)) : Calls Try.prog 43 #[.agg (im.cells s)] w (DocP w (.int .i64 (doc (R4 im)))) := by
  obtain ⟨A, a, B, b, C, c, D, d, E, e⟩ := s
  obtain ⟨WA, hWA⟩ : ∃ W, w.alloc (imO im ⟨A, a, B, b, C, c, D, d, E, e⟩) = W := ⟨_, rfl⟩
  obtain ⟨hsa, hbl, hvl⟩ := box_facts h hF hWA
  have HBL := Lib.hid hbl
  have HVL := Lib.hid hvl
  have HFA := Lib.hid (show ∀ b, F b → b < WA.heap.size from fun b hb => by have := hF b hb; omega)
  have HWF := Lib.hid h.wf
  have hl := len_i64 h.wf
  obtain ⟨c0, c1, c2, c3, c4, c5, c6, c7, c8⟩ := (hvl WA (Below.refl _ _)).cell
  dsimp only at c0 c1 c2 c3 c4 c5 c6 c7 c8
  unfold imO Im.cells at hWA
  unfold Im.cells
  clear h hF hvl hbl
  have HGEO := Lib.hid g
  have HO := Lib.hid g.order
  have HR := Lib.hid hR
  obtain ⟨RR, hRR⟩ : ∃ R, R4 im = R := ⟨_, rfl⟩
  have HRR := Lib.hid (show runF im (im.pages.length + 1) 0 = RR from hRR)
  rw [hRR]
  clear hRR g hR
  go_enter Try.func43, Try.ntmps43
  go_wp2
  clear hWA c0 c1 c2 c3 c4 c5 c6 c7 c8
  go_loopg [3] (im.pages.length + 1) (fun g v wr => ∃ a : Nat, v = .int .i64 (a : Int) ∧ Aside0 (a ≤ im.pages.length) ∧ Aside0 (im.pages.length < a + g) ∧ Aside0 (Below WA.heap.size WA wr) ∧ Aside0 (runF im g a = RR))
  case atStart => exact ⟨0, rfl, ⟨Nat.zero_le _⟩, ⟨by omega⟩, ⟨Below.refl _ _⟩, ⟨HRR.out⟩⟩
  case round =>
    obtain ⟨k, rfl, hka, hkg, hbe, hrf⟩ := hrel
    obtain ⟨-, -, -, -, -, c5, -, -, -⟩ := (HVL.out wr hbe.out).cell
    dsimp only at c5
    obtain ⟨g1, rfl⟩ : ∃ g1, gk = g1 + 1 := ⟨gk - 1, by have := hkg.out; have := hka.out; omega⟩
    by_cases hk : k < im.pages.length
    case neg =>
      have hkd : decide ((k : Int) < (im.pages.length : Int)) = false := decide_eq_false (by omega)
      have hkd' : decide (k < im.pages.length) = false := decide_eq_false hk
      have HX := Lib.hid (show RR = none from hrf.out.symm.trans (run_end hk))
      clear hk
      go_wp2
      go_ret
      exact ⟨by rw [HX.out]; first | rfl | (show Ending.returned (.int .i64 (wrap64 ((k : Int) + (j : Int)))) = _; rw [y1]; rfl), HBL.out _ hbe.out⟩
    have hkI : (k : Int) < (im.pages.length : Int) := by omega
    have hkd : decide ((k : Int) < (im.pages.length : Int)) = true := decide_eq_true hkI
    have hkd' : decide (k < im.pages.length) = true := decide_eq_true hk
    obtain ⟨ad, he, -, p0, p1, p2, p3, p4, p5, p6, p7, p8, p9, p10⟩ := (HVL.out wr hbe.out).page k hk
    dsimp only at he
    subst he
    obtain ⟨W1, hW1⟩ : ∃ W, wr.alloc (pageO (im.pg k)) = W := ⟨_, rfl⟩
    obtain ⟨hlt1, hb1, hpv⟩ := pg_facts hbe.out hW1
    have HB1 := Lib.hid hb1
    have HLT1 := Lib.hid hlt1
    have HPV := Lib.hid hpv
    obtain ⟨q0, q1, q2, q3, q4, q5, q6, q7, q8, q9, q10⟩ := hpv W1 rfl
    have HK := Lib.hid hk
    have HKG := Lib.hid hkg.out
    have HRF := Lib.hid hrf.out
    obtain ⟨od, hod⟩ : ∃ od : Nat, (im.pg k).od = od := ⟨(im.pg k).od.toNat, by have := (HR.out k hk).od; omega⟩
    have HODO := Lib.hid (show od ≤ o by have := (HR.out k hk).od; have := HO.out; omega)
    have HOD61 := Lib.hid (show od ≤ 61 from Nat.le_trans HODO.out (Nat.le_trans HGEO.out.o8 (by decide)))
    have HOD := Lib.hid hod
    have hodn : (im.pg k).od.toNat = od := by rw [hod]; exact Int.toNat_natCast od
    have HODN := Lib.hid hodn
    have hkk := kd1 (HR.out k hk).kd.1 (HR.out k hk).kd.2
    have HKDR := Lib.hid (HR.out k hk).kd
    obtain ⟨z, hz⟩ : ∃ z, 2 ^ od = z := ⟨_, rfl⟩
    obtain ⟨m, hm⟩ : ∃ m, k % z = m := ⟨_, rfl⟩
    obtain ⟨n1, n2, n3, n4, n5, n6, n7⟩ := run_nums HGEO.out hk HODO.out hz hm
    have HPOW := Lib.hid (fun wx => power_x hz HOD61.out wx)
    have HZ := Lib.hid hz
    have HM := Lib.hid hm
    have HFIT := Lib.hid n1
    have HN6 := Lib.hid n6
    have HZ0 := Lib.hid n5
    have HN7 := Lib.hid n7
    have HPL := Lib.hid (fun wx => plain_d (im.pg k) wx)
    unfold Pg.vals at HPL
    rw [hod] at q1 HPL
    unfold pageO at hW1
    clear hk hbe hb1 hlt1 hpv hrf hkg hka hod hodn hz hm n1 n5 n6 n7
    by_cases h4 : (im.pg k).kd = 4
    case pos =>
      have e0 : ((im.pg k).kd == 4) = true := by simpa using h4
      have e1 : ((im.pg k).kd != 4) = false := by simpa using h4
      by_cases ho0 : od = 0
      case neg =>
        have e2 : ((od : Int) != 0) = true := ne_t (by omega)
        have e2' : (od != 0) = true := by simpa using ho0
        have HX := Lib.hid (show RR = some (k : Int) from HRF.out.symm.trans (run_slab_bad HK.out h4 (by rw [HOD.out]; omega)))
        clear h4 ho0
        go_wp2_with (go_at_call 30; refine (HPOW.out _).mono ?_; rintro e w5 ⟨rfl, hw5⟩; have hw5s := hw5.symm; clear hw5; subst hw5s)
        go_ret
        exact ⟨by rw [HX.out]; first | rfl | (show Ending.returned (.int .i64 (wrap64 ((k : Int) + (j : Int)))) = _; rw [y1]; rfl), HBL.out _ HB1.out⟩
      have e2 : ((od : Int) != 0) = false := ne_f (by omega)
      have e2' : (od != 0) = false := by simpa using ho0
      have hz1 : z = 1 := by rw [← HZ.out, ho0]
      subst hz1
      have HX := Lib.hid (show runF im g1 (k + 1) = RR from (run_slab HK.out h4 (by rw [HOD.out, ho0]; rfl)).symm.trans HRF.out)
      have HLE := Lib.hid (show k + 1 ≤ im.pages.length from HK.out)
      have HLG := Lib.hid (show im.pages.length < k + 1 + g1 by have := HKG.out; omega)
      clear h4 ho0
      go_wp2_with (go_at_call 30; refine (HPOW.out _).mono ?_; rintro e w5 ⟨rfl, hw5⟩; have hw5s := hw5.symm; clear hw5; subst hw5s)
      clear p0 p1 p2 p3 p4 p5 p6 p7 p8 p9 p10 q0 q1 q2 q3 q4 q5 q6 q7 q8 q9 q10 hW1 c5
      go_loopg [6, 7, 56, 57, 58, 59, 60, 61, 62, 63, 64, 65, 66, 67, 68, 69, 70, 71, 72, 73, 74, 75, 76, 77, 78, 79, 80, 81, 82, 83, 84, 85, 86, 87, 88] 0 (fun g v _ _ _ _ _ _ _ _ _ _ _ _ _ _ _ _ _ _ _ _ _ _ _ _ _ _ _ _ _ _ _ _ _ _ wi => v = .int .i64 1 ∧ wi = W1)
      case atStart => exact ⟨rfl, rfl⟩
      case round =>
        obtain ⟨rfl, rfl⟩ := hrel
        go_wp2
        go_roundg g1
        case measure => omega
        case rel => exact ⟨k + 1, by simp, ⟨HLE.out⟩, ⟨HLG.out⟩, ⟨HB1.out⟩, ⟨HX.out⟩⟩
    have e0 : ((im.pg k).kd == 4) = false := by simpa using h4
    have e1 : ((im.pg k).kd != 4) = true := by simpa using h4
    have H4 := Lib.hid h4
    clear h4
    by_cases h0 : (im.pg k).kd = 0
    case pos =>
      have e3 : ((im.pg k).kd != 0) = false := ne_f h0
      have HKK := Lib.hid (show (im.pg k).kd = 0 ∨ (im.pg k).kd = 2 from Or.inl h0)
      clear h0
      by_cases hm0 : m = 0
      case neg =>
        obtain ⟨e5, e5'⟩ := ne_z hm0
        have HX := Lib.hid (show RR = some (k : Int) from HRF.out.symm.trans (run_bad HK.out H4.out (fun hh => by have := hh.2.1; rw [HODN.out, HZ.out, HM.out] at this; exact hm0 this)))
        clear hm0
        go_wp2_with (go_at_call 30; refine (HPOW.out _).mono ?_; rintro e w5 ⟨rfl, hw5⟩; have hw5s := hw5.symm; clear hw5; subst hw5s)
        go_ret
        exact ⟨by rw [HX.out]; first | rfl | (show Ending.returned (.int .i64 (wrap64 ((k : Int) + (j : Int)))) = _; rw [y1]; rfl), HBL.out _ HB1.out⟩
      obtain ⟨e5, e5'⟩ := eq_z hm0
      have HM0 := Lib.hid hm0
      clear hm0
      cases hp : plainB (im.pg k) with
      | false =>
        have HX := Lib.hid (show RR = some (k : Int) from HRF.out.symm.trans (run_bad HK.out H4.out (fun hh => by have := hh.2.2; rw [hp] at this; cases this)))
        have HPB := Lib.hid hp
        clear hp
        go_wp2_with (first | (go_at_call 30; refine (HPOW.out _).mono ?_; rintro e w5 ⟨rfl, hw5⟩; have hw5s := hw5.symm; clear hw5; subst hw5s) | (go_at_call 72; refine (HPL.out _).mono ?_; rintro e w6 ⟨rfl, hb6⟩; have HB6 := Lib.hid hb6; rw [HPB.out]; obtain ⟨s0, s1, s2, s3, s4, s5, s6, s7, s8, s9, s10⟩ := HPV.out w6 (hb6.block _ HLT1.out); rw [HOD.out] at s1; clear hb6))
        go_ret
        exact ⟨by rw [HX.out]; first | rfl | (show Ending.returned (.int .i64 (wrap64 ((k : Int) + (j : Int)))) = _; rw [y1]; rfl), HBL.out _ (HB1.out.trans (HB6.out.mono HB1.out.size))⟩
      | true =>
        have HGO := Lib.hid (HRF.out.symm.trans (run_go (z := z) HK.out H4.out (by rw [HODN.out]; exact HZ.out) ⟨HKK.out, by rw [HM.out]; exact HM0.out, hp⟩))
        have HPB := Lib.hid hp
        clear hp
        obtain ⟨S, hS⟩ : ∃ S, scan (runS im k) (z - 1) 1 = S := ⟨_, rfl⟩
        have HS := Lib.hid hS
        rw [hS] at HGO
        have HLE := Lib.hid (HFIT.out HM0.out)
        have HLG := Lib.hid (run_lt HKG.out HZ0.out)
        have HSZ := Lib.hid (run_start HZ0.out)
        clear hS
        go_wp2_with (first | (go_at_call 30; refine (HPOW.out _).mono ?_; rintro e w5 ⟨rfl, hw5⟩; have hw5s := hw5.symm; clear hw5; subst hw5s) | (go_at_call 72; refine (HPL.out _).mono ?_; rintro e w6 ⟨rfl, hb6⟩; have HB6 := Lib.hid hb6; rw [HPB.out]; obtain ⟨s0, s1, s2, s3, s4, s5, s6, s7, s8, s9, s10⟩ := HPV.out w6 (hb6.block _ HLT1.out); rw [HOD.out] at s1; clear hb6))
        clear p0 p1 p2 p3 p4 p5 p6 p7 p8 p9 p10 q0 q1 q2 q3 q4 q5 q6 q7 q8 q9 q10 hW1 c5 n2 n3 n4
        have HBW := Lib.hid (show Below W1.heap.size W1 w6 from HB6.out)
        go_loopg [6, 7, 56, 57, 58, 59, 60, 61, 62, 63, 64, 65, 66, 67, 68, 69, 70, 71, 72, 73, 74, 75, 76, 77, 78, 79, 80, 81, 82, 83, 84, 85, 86, 87, 88] (z - 1) (fun g v _ _ _ _ _ _ _ _ _ _ _ _ _ _ _ _ _ _ _ _ _ _ _ _ _ _ _ _ _ _ _ _ _ _ wi => ∃ j : Nat, v = .int .i64 (j : Int) ∧ Aside0 (j + g = z) ∧ Aside0 (scan (runS im k) g j = S) ∧ Aside0 (Below W1.heap.size W1 wi))
        case atStart => exact ⟨1, rfl, ⟨HSZ.out⟩, ⟨HS.out⟩, ⟨HBW.out⟩⟩
        case round =>
          obtain ⟨j, rfl, hjg, hsc, hbi⟩ := hrel
          obtain ⟨-, -, -, -, -, c5, -, -, -⟩ := (HVL.out wr (HB1.out.trans (hbi.out.mono HB1.out.size))).cell
          dsimp only at c5
          have HBI := Lib.hid hbi.out
          by_cases hj : j < z
          case neg =>
            obtain ⟨t1, t2⟩ := nlt_dec hj
            have HX := Lib.hid (show runF im g1 (k + z) = RR by
              have h := hsc.out
              rw [show gk = 0 from lp_end0 hjg.out hj, scan] at h
              have h2 := HGO.out
              rw [← h] at h2
              exact h2.symm)
            have hkz := run_az HLE.out HN6.out rfl
            clear hj hsc hjg hbi
            go_wp2
            go_roundg g1
            case measure => omega
            case rel => exact ⟨k + z, by first | rfl | (simp; done) | (rw [hkz]), ⟨HLE.out⟩, ⟨HLG.out⟩, ⟨HB1.out.trans (HBI.out.mono HB1.out.size)⟩, ⟨HX.out⟩⟩
          obtain ⟨t1, t2⟩ := lt_dec hj
          obtain ⟨g2, rfl⟩ := lp_pos hjg.out hj
          have HJG := Lib.hid (lp_step hjg.out)
          obtain ⟨m2, hm2⟩ : ∃ m, m = k + j := ⟨_, rfl⟩
          obtain ⟨y1, y2, y3, y4, y5⟩ := run_ai HLE.out hj HN6.out hm2
          have HBJ := Lib.hid (show ∀ pl, runS im k j = some pl → RR = some pl from fun pl h => by have h1 := HGO.out; rw [← hsc.out, scan_bad h] at h1; exact h1)
          have HGJ := Lib.hid (show runS im k j = none → scan (runS im k) g2 (j + 1) = S from fun h => (scan_ok h).symm.trans hsc.out)
          have HRS := Lib.hid (show runS im k j = if (im.pg m2).kd = (im.pg k).kd + 1 ∧ (im.pg m2).od = (im.pg k).od ∧ plainB (im.pg m2) = true then none else some (m2 : Int) by unfold runS; rw [hm2])
          obtain ⟨adq, heq, -, p0, p1, p2, p3, p4, p5, p6, p7, p8, p9, p10⟩ := (HVL.out wr (HB1.out.trans (hbi.out.mono HB1.out.size))).page m2 y2
          dsimp only at heq
          injection heq with heq
          subst heq
          obtain ⟨W2, hW2⟩ : ∃ W, wr.alloc (pageO (im.pg m2)) = W := ⟨_, rfl⟩
          obtain ⟨hlt2, hb2, hpv2⟩ := pg_facts hbi.out hW2
          obtain ⟨r0, r1, r2, r3, r4, r5, r6, r7, r8, r9, r10⟩ := hpv2 W2 rfl
          obtain ⟨q0, q1, q2, q3, q4, q5, q6, q7, q8, q9, q10⟩ := HPV.out W2 (hb2.block _ HLT1.out)
          rw [HOD.out] at q1
          have HB2 := Lib.hid hb2
          have HPL2 := Lib.hid (plain_d (im.pg m2) W2)
          unfold Pg.vals at HPL2
          unfold pageO at hW2
          have Y4 := Lib.hid y4
          clear hj hsc hjg hbi hm2 y2 y5 hlt2 hb2 hpv2
          by_cases h5 : (im.pg m2).kd = (im.pg k).kd + 1
          case neg =>
            have b1 := ne_t h5
            have HX := Lib.hid (HBJ.out (m2 : Int) (by rw [HRS.out, if_neg (fun hh => h5 hh.1)]))
            clear h5
            go_wp2
            go_ret
            exact ⟨by rw [HX.out]; first | rfl | (show Ending.returned (.int .i64 (wrap64 ((k : Int) + (j : Int)))) = _; rw [y1]; rfl), HBL.out _ (HB1.out.trans (HB2.out.mono HB1.out.size))⟩
          have b1 := ne_f h5
          by_cases h6 : (im.pg m2).od = (od : Int)
          case neg =>
            have b2 := ne_t h6
            have HX := Lib.hid (HBJ.out (m2 : Int) (by rw [HRS.out, if_neg (fun hh => h6 (by rw [← HOD.out]; exact hh.2.1))]))
            clear h5 h6
            go_wp2
            go_ret
            exact ⟨by rw [HX.out]; first | rfl | (show Ending.returned (.int .i64 (wrap64 ((k : Int) + (j : Int)))) = _; rw [y1]; rfl), HBL.out _ (HB1.out.trans (HB2.out.mono HB1.out.size))⟩
          have b2 := ne_f h6
          cases hp2 : plainB (im.pg m2) with
          | false =>
            have HX := Lib.hid (HBJ.out (m2 : Int) (by rw [HRS.out, if_neg (fun hh => by have := hh.2.2; rw [hp2] at this; cases this)]))
            have HPB2 := Lib.hid hp2
            clear h5 h6 hp2
            go_wp2_with (go_at_call 72; refine HPL2.out.mono ?_; rintro e w7 ⟨rfl, hb7⟩; have HB7 := Lib.hid hb7; rw [HPB2.out]; clear hb7)
            go_ret
            exact ⟨by rw [HX.out]; first | rfl | (show Ending.returned (.int .i64 (wrap64 ((k : Int) + (j : Int)))) = _; rw [y1]; rfl), HBL.out _ (HB1.out.trans ((HB2.out.trans (HB7.out.mono HB2.out.size)).mono HB1.out.size))⟩
          | true =>
            have HX := Lib.hid (HGJ.out (by rw [HRS.out, if_pos ⟨h5, by rw [HOD.out]; exact h6, hp2⟩]))
            have HPB2 := Lib.hid hp2
            clear h5 h6 hp2
            go_wp2_with (go_at_call 72; refine HPL2.out.mono ?_; rintro e w7 ⟨rfl, hb7⟩; have HB7 := Lib.hid hb7; rw [HPB2.out]; clear hb7)
            go_roundg g2
            case measure => omega
            case rel => exact ⟨j + 1, by simp; try exact Y4.out, ⟨HJG.out⟩, ⟨HX.out⟩, ⟨HB2.out.trans (HB7.out.mono HB2.out.size)⟩⟩
    have e3 : ((im.pg k).kd != 0) = true := ne_t h0
    by_cases h2 : (im.pg k).kd = 2
    case pos =>
      have e4 : ((im.pg k).kd != 2) = false := ne_f h2
      have HKK := Lib.hid (show (im.pg k).kd = 0 ∨ (im.pg k).kd = 2 from Or.inr h2)
      clear h0 h2
      by_cases hm0 : m = 0
      case neg =>
        obtain ⟨e5, e5'⟩ := ne_z hm0
        have HX := Lib.hid (show RR = some (k : Int) from HRF.out.symm.trans (run_bad HK.out H4.out (fun hh => by have := hh.2.1; rw [HODN.out, HZ.out, HM.out] at this; exact hm0 this)))
        clear hm0
        go_wp2_with (go_at_call 30; refine (HPOW.out _).mono ?_; rintro e w5 ⟨rfl, hw5⟩; have hw5s := hw5.symm; clear hw5; subst hw5s)
        go_ret
        exact ⟨by rw [HX.out]; first | rfl | (show Ending.returned (.int .i64 (wrap64 ((k : Int) + (j : Int)))) = _; rw [y1]; rfl), HBL.out _ HB1.out⟩
      obtain ⟨e5, e5'⟩ := eq_z hm0
      have HM0 := Lib.hid hm0
      clear hm0
      cases hp : plainB (im.pg k) with
      | false =>
        have HX := Lib.hid (show RR = some (k : Int) from HRF.out.symm.trans (run_bad HK.out H4.out (fun hh => by have := hh.2.2; rw [hp] at this; cases this)))
        have HPB := Lib.hid hp
        clear hp
        go_wp2_with (first | (go_at_call 30; refine (HPOW.out _).mono ?_; rintro e w5 ⟨rfl, hw5⟩; have hw5s := hw5.symm; clear hw5; subst hw5s) | (go_at_call 72; refine (HPL.out _).mono ?_; rintro e w6 ⟨rfl, hb6⟩; have HB6 := Lib.hid hb6; rw [HPB.out]; obtain ⟨s0, s1, s2, s3, s4, s5, s6, s7, s8, s9, s10⟩ := HPV.out w6 (hb6.block _ HLT1.out); rw [HOD.out] at s1; clear hb6))
        go_ret
        exact ⟨by rw [HX.out]; first | rfl | (show Ending.returned (.int .i64 (wrap64 ((k : Int) + (j : Int)))) = _; rw [y1]; rfl), HBL.out _ (HB1.out.trans (HB6.out.mono HB1.out.size))⟩
      | true =>
        have HGO := Lib.hid (HRF.out.symm.trans (run_go (z := z) HK.out H4.out (by rw [HODN.out]; exact HZ.out) ⟨HKK.out, by rw [HM.out]; exact HM0.out, hp⟩))
        have HPB := Lib.hid hp
        clear hp
        obtain ⟨S, hS⟩ : ∃ S, scan (runS im k) (z - 1) 1 = S := ⟨_, rfl⟩
        have HS := Lib.hid hS
        rw [hS] at HGO
        have HLE := Lib.hid (HFIT.out HM0.out)
        have HLG := Lib.hid (run_lt HKG.out HZ0.out)
        have HSZ := Lib.hid (run_start HZ0.out)
        clear hS
        go_wp2_with (first | (go_at_call 30; refine (HPOW.out _).mono ?_; rintro e w5 ⟨rfl, hw5⟩; have hw5s := hw5.symm; clear hw5; subst hw5s) | (go_at_call 72; refine (HPL.out _).mono ?_; rintro e w6 ⟨rfl, hb6⟩; have HB6 := Lib.hid hb6; rw [HPB.out]; obtain ⟨s0, s1, s2, s3, s4, s5, s6, s7, s8, s9, s10⟩ := HPV.out w6 (hb6.block _ HLT1.out); rw [HOD.out] at s1; clear hb6))
        clear p0 p1 p2 p3 p4 p5 p6 p7 p8 p9 p10 q0 q1 q2 q3 q4 q5 q6 q7 q8 q9 q10 hW1 c5 n2 n3 n4
        have HBW := Lib.hid (show Below W1.heap.size W1 w6 from HB6.out)
        go_loopg [6, 7, 56, 57, 58, 59, 60, 61, 62, 63, 64, 65, 66, 67, 68, 69, 70, 71, 72, 73, 74, 75, 76, 77, 78, 79, 80, 81, 82, 83, 84, 85, 86, 87, 88] (z - 1) (fun g v _ _ _ _ _ _ _ _ _ _ _ _ _ _ _ _ _ _ _ _ _ _ _ _ _ _ _ _ _ _ _ _ _ _ wi => ∃ j : Nat, v = .int .i64 (j : Int) ∧ Aside0 (j + g = z) ∧ Aside0 (scan (runS im k) g j = S) ∧ Aside0 (Below W1.heap.size W1 wi))
        case atStart => exact ⟨1, rfl, ⟨HSZ.out⟩, ⟨HS.out⟩, ⟨HBW.out⟩⟩
        case round =>
          obtain ⟨j, rfl, hjg, hsc, hbi⟩ := hrel
          obtain ⟨-, -, -, -, -, c5, -, -, -⟩ := (HVL.out wr (HB1.out.trans (hbi.out.mono HB1.out.size))).cell
          dsimp only at c5
          have HBI := Lib.hid hbi.out
          by_cases hj : j < z
          case neg =>
            obtain ⟨t1, t2⟩ := nlt_dec hj
            have HX := Lib.hid (show runF im g1 (k + z) = RR by
              have h := hsc.out
              rw [show gk = 0 from lp_end0 hjg.out hj, scan] at h
              have h2 := HGO.out
              rw [← h] at h2
              exact h2.symm)
            have hkz := run_az HLE.out HN6.out rfl
            clear hj hsc hjg hbi
            go_wp2
            go_roundg g1
            case measure => omega
            case rel => exact ⟨k + z, by first | rfl | (simp; done) | (rw [hkz]), ⟨HLE.out⟩, ⟨HLG.out⟩, ⟨HB1.out.trans (HBI.out.mono HB1.out.size)⟩, ⟨HX.out⟩⟩
          obtain ⟨t1, t2⟩ := lt_dec hj
          obtain ⟨g2, rfl⟩ := lp_pos hjg.out hj
          have HJG := Lib.hid (lp_step hjg.out)
          obtain ⟨m2, hm2⟩ : ∃ m, m = k + j := ⟨_, rfl⟩
          obtain ⟨y1, y2, y3, y4, y5⟩ := run_ai HLE.out hj HN6.out hm2
          have HBJ := Lib.hid (show ∀ pl, runS im k j = some pl → RR = some pl from fun pl h => by have h1 := HGO.out; rw [← hsc.out, scan_bad h] at h1; exact h1)
          have HGJ := Lib.hid (show runS im k j = none → scan (runS im k) g2 (j + 1) = S from fun h => (scan_ok h).symm.trans hsc.out)
          have HRS := Lib.hid (show runS im k j = if (im.pg m2).kd = (im.pg k).kd + 1 ∧ (im.pg m2).od = (im.pg k).od ∧ plainB (im.pg m2) = true then none else some (m2 : Int) by unfold runS; rw [hm2])
          obtain ⟨adq, heq, -, p0, p1, p2, p3, p4, p5, p6, p7, p8, p9, p10⟩ := (HVL.out wr (HB1.out.trans (hbi.out.mono HB1.out.size))).page m2 y2
          dsimp only at heq
          injection heq with heq
          subst heq
          obtain ⟨W2, hW2⟩ : ∃ W, wr.alloc (pageO (im.pg m2)) = W := ⟨_, rfl⟩
          obtain ⟨hlt2, hb2, hpv2⟩ := pg_facts hbi.out hW2
          obtain ⟨r0, r1, r2, r3, r4, r5, r6, r7, r8, r9, r10⟩ := hpv2 W2 rfl
          obtain ⟨q0, q1, q2, q3, q4, q5, q6, q7, q8, q9, q10⟩ := HPV.out W2 (hb2.block _ HLT1.out)
          rw [HOD.out] at q1
          have HB2 := Lib.hid hb2
          have HPL2 := Lib.hid (plain_d (im.pg m2) W2)
          unfold Pg.vals at HPL2
          unfold pageO at hW2
          have Y4 := Lib.hid y4
          clear hj hsc hjg hbi hm2 y2 y5 hlt2 hb2 hpv2
          by_cases h5 : (im.pg m2).kd = (im.pg k).kd + 1
          case neg =>
            have b1 := ne_t h5
            have HX := Lib.hid (HBJ.out (m2 : Int) (by rw [HRS.out, if_neg (fun hh => h5 hh.1)]))
            clear h5
            go_wp2
            go_ret
            exact ⟨by rw [HX.out]; first | rfl | (show Ending.returned (.int .i64 (wrap64 ((k : Int) + (j : Int)))) = _; rw [y1]; rfl), HBL.out _ (HB1.out.trans (HB2.out.mono HB1.out.size))⟩
          have b1 := ne_f h5
          by_cases h6 : (im.pg m2).od = (od : Int)
          case neg =>
            have b2 := ne_t h6
            have HX := Lib.hid (HBJ.out (m2 : Int) (by rw [HRS.out, if_neg (fun hh => h6 (by rw [← HOD.out]; exact hh.2.1))]))
            clear h5 h6
            go_wp2
            go_ret
            exact ⟨by rw [HX.out]; first | rfl | (show Ending.returned (.int .i64 (wrap64 ((k : Int) + (j : Int)))) = _; rw [y1]; rfl), HBL.out _ (HB1.out.trans (HB2.out.mono HB1.out.size))⟩
          have b2 := ne_f h6
          cases hp2 : plainB (im.pg m2) with
          | false =>
            have HX := Lib.hid (HBJ.out (m2 : Int) (by rw [HRS.out, if_neg (fun hh => by have := hh.2.2; rw [hp2] at this; cases this)]))
            have HPB2 := Lib.hid hp2
            clear h5 h6 hp2
            go_wp2_with (go_at_call 72; refine HPL2.out.mono ?_; rintro e w7 ⟨rfl, hb7⟩; have HB7 := Lib.hid hb7; rw [HPB2.out]; clear hb7)
            go_ret
            exact ⟨by rw [HX.out]; first | rfl | (show Ending.returned (.int .i64 (wrap64 ((k : Int) + (j : Int)))) = _; rw [y1]; rfl), HBL.out _ (HB1.out.trans ((HB2.out.trans (HB7.out.mono HB2.out.size)).mono HB1.out.size))⟩
          | true =>
            have HX := Lib.hid (HGJ.out (by rw [HRS.out, if_pos ⟨h5, by rw [HOD.out]; exact h6, hp2⟩]))
            have HPB2 := Lib.hid hp2
            clear h5 h6 hp2
            go_wp2_with (go_at_call 72; refine HPL2.out.mono ?_; rintro e w7 ⟨rfl, hb7⟩; have HB7 := Lib.hid hb7; rw [HPB2.out]; clear hb7)
            go_roundg g2
            case measure => omega
            case rel => exact ⟨j + 1, by simp; try exact Y4.out, ⟨HJG.out⟩, ⟨HX.out⟩, ⟨HB2.out.trans (HB7.out.mono HB2.out.size)⟩⟩
    have e4 : ((im.pg k).kd != 2) = true := ne_t h2
    have HX := Lib.hid (show RR = some (k : Int) from HRF.out.symm.trans (run_bad HK.out H4.out (fun hh => by rcases hh.1 with h | h; exact h0 h; exact h2 h)))
    clear h0 h2
    go_wp2_with (go_at_call 30; refine (HPOW.out _).mono ?_; rintro e w5 ⟨rfl, hw5⟩; have hw5s := hw5.symm; clear hw5; subst hw5s)
    go_ret
    exact ⟨by rw [HX.out]; first | rfl | (show Ending.returned (.int .i64 (wrap64 ((k : Int) + (j : Int)))) = _; rw [y1]; rfl), HBL.out _ HB1.out⟩
end
end Go.Proofs.Ytkgedpcipaogjaa.WB
end
