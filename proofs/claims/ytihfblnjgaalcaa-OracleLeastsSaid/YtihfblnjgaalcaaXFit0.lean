/- Stretches and pages by blocks, plain. -/
import Derived.Test.YtihfblnjgaalcaaXRef
import Derived.Test.YtihfblnjgaalcaaXBytes
namespace Go.Proofs.Ytihfblnjgaalcaa.OX
open Go Go.RowKit Go.Proofs.Ytihfblnjgaalcaa.R Go.Proofs.Ytihfblnjgaalcaa.OP Go.Proofs.Ytihfblnjgaalcaa.OB Go.Proofs.Ytihfblnjgaalcaa.OV Go.Proofs.Ytihfblnjgaalcaa.OS Go.Proofs.Ytihfblnjgaalcaa.OW Go.Proofs.Ytihfblnjgaalcaa.ON Go.Proofs.Ytihfblnjgaalcaa.OC
set_option linter.unusedVariables false
set_option linter.unusedSimpArgs false
theorem run_ok {base order n : Int} : ∀ (l : List S55) (m m' : PM), (∀ b ∈ l, 0 ≤ b.f1) → run base order n m l = some m' → ∀ b ∈ l, okB base order n b = true
 | [], _, _, _, _, b, hb => by cases hb
 | c :: l, m, m', hw, h, b, hb => by
  obtain ⟨m1, h1, h2⟩ := run_cons.1 h
  rcases List.mem_cons.1 hb with rfl | hb
  ·exact ((step_iff (hw _ (List.mem_cons_self ..))).1 h1).1
  ·exact run_ok l m1 m' (fun c hc => hw c (List.mem_cons_of_mem _ hc)) h2 b hb
/-- What a sound list's pages are. -/
theorem sound_says {base limit order n : Int} {l : List S55} (hw : OP.Wd l) (h : soundI base limit order n l = -1) :
  mayB base limit order = true ∧ 0 ≤ n ∧ n ≤ limit ∧ ∃ m, scan base order n PM.none l 0 = (some m, -1) ∧ run base order n PM.none l = some m ∧ Tells base l m ∧ Fine order n m l.length ∧ ∀ b ∈ l, okB base order n b = true ∧ Plc base b := by
 obtain ⟨hm, h0, hn, m, hsc, hf⟩ := sound_ok hw h
 have h1 := scan_run (base := base) (order := order) (n := n) l PM.none 0
 rw [hsc] at h1
 have hrun : run base order n PM.none l = some m := h1.symm
 have ht := run_tells hm h0 hn l [] PM.none m hw (tells_none base) hrun
 rw [List.nil_append] at ht
 refine ⟨hm, h0, hn, m, hsc, hrun, ht, hf, fun b hb => ?_⟩
 have hok := run_ok l PM.none m (fun c hc => (hw c hc).2.1) hrun b hb
 exact ⟨hok, plc hm h0 hn (hw b hb).2 hok⟩
theorem told_iff {base : Int} {l : List S55} {m : PM} (h : Tells base l m) (x : Int) : (m x).isSome = true ↔ ∃ b ∈ l, onP base b x := by
 have hx := h x
 cases hm : m x with
 | none =>
  rw [hm] at hx
  constructor
  ·intro h; cases h
  ·rintro ⟨b, hb, ho⟩; exact absurd ho (hx b hb)
 | some lt =>
  rw [hm] at hx
  refine ⟨fun _ => ?_, fun _ => rfl⟩
  cases lt with
  | great s => obtain ⟨b, hb, ho, -⟩ := hx; exact ⟨b, hb, ho⟩
  | small z cs q =>
   obtain ⟨h8, h1, h2, h3, h4, h5⟩ := hx
   obtain ⟨c, hc, hcx⟩ := List.countP_pos_iff.1 (show 0 < l.countP (fun b => decide (onP base b x)) by omega)
   exact ⟨c, hc, by simpa using hcx⟩
theorem div_iff {x pg j : Nat} (h : 0 < pg) : x / pg = j ↔ pg * j ≤ x ∧ x < pg * j + pg := by
 have h1 := Nat.div_add_mod x pg
 have h2 := Nat.mod_lt x h
 constructor
 ·intro e; subst e; omega
 ·rintro ⟨a, b⟩
  refine Nat.div_eq_of_lt_le ?_ ?_
  ·rw [Nat.mul_comm]; exact a
  ·rw [Nat.add_mul, Nat.mul_comm j, Nat.one_mul]; exact b
theorem countP_short {p : Nat → Bool} {u : Nat} (h : ∀ j, p j = true → j < u) : ∀ d, (List.range (u + d)).countP p = (List.range u).countP p
 | 0 => rfl
 | d + 1 => by
  rw [← Nat.add_assoc, List.range_succ, List.countP_append, countP_short h d, List.countP_singleton]
  have : p (u + d) = false := by
   cases e : p (u + d) with
   | false => rfl
   | true => have := h _ e; omega
  rw [this]; simp
theorem occ_all {m : PM} {T pg u : Nat} (hpg : 0 < pg) (hT : T = pg * u) (hu : u ≤ 1024) : T / pg ≤ occN m T pg ↔ ∀ j, j < u → occ m T pg j = true := by
 have hs : ∀ j, occ m T pg j = true → j < u := by
  intro j hj
  obtain ⟨x, h1, h2, -⟩ := occ_iff.1 hj
  rw [← h2]
  apply Nat.div_lt_of_lt_mul
  omega
 rw [hT, Nat.mul_div_cancel_left u hpg, ← hT]
 have e : occN m T pg = (List.range u).countP (occ m T pg) := by
  have := countP_short hs (1024 - u)
  rw [show u + (1024 - u) = 1024 by omega] at this
  exact this
 rw [e]
 have hle := List.countP_le_length (p := occ m T pg) (l := List.range u)
 rw [List.length_range] at hle
 constructor
 ·intro h j hj
  have h2 : (List.range u).countP (occ m T pg) = (List.range u).length := by rw [List.length_range]; omega
  exact List.countP_eq_length.1 h2 j (List.mem_range.2 hj)
 ·intro h
  have h2 := List.countP_eq_length.2 (fun j hj => h j (List.mem_range.1 hj))
  rw [List.length_range] at h2
  omega
end Go.Proofs.Ytihfblnjgaalcaa.OX
