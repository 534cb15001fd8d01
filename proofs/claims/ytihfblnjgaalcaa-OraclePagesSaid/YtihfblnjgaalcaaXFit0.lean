/- Stretches and pages by blocks, plain. -/
import Derived.Test.YtihfblnjgaalcaaXRef
import Derived.Test.YtihfblnjgaalcaaXBytes
namespace Go.Proofs.Ytihfblnjgaalcaa.OX
open Go Go.RowKit Go.Proofs.Ytihfblnjgaalcaa.R Go.Proofs.Ytihfblnjgaalcaa.OP Go.Proofs.Ytihfblnjgaalcaa.OB Go.Proofs.Ytihfblnjgaalcaa.OV Go.Proofs.Ytihfblnjgaalcaa.OS Go.Proofs.Ytihfblnjgaalcaa.OW Go.Proofs.Ytihfblnjgaalcaa.ON Go.Proofs.Ytihfblnjgaalcaa.OC
set_option linter.unusedVariables false
set_option linter.unusedSimpArgs false
def anyMeet (p s : Int) (l : List S55) : Bool := l.any (fun b => decide (meetP ⟨p, s⟩ b))
/-- The bytes of blocks that meet a page; is one of size r among them? -/
def sumM (p : Int) : List S55 → Int
  | [] => 0
  | b :: l => (if meetP ⟨p, 4096⟩ b then b.f1 else 0) + sumM p l
def someM (p r : Int) (l : List S55) : Bool := l.any (fun b => decide (meetP ⟨p, 4096⟩ b) && (b.f1 == r))
theorem sumM_bd (p : Int) : ∀ {l : List S55}, (∀ b ∈ l, 0 ≤ b.f1) → 0 ≤ sumM p l ∧ sumM p l ≤ total l
  | [], _ => ⟨Int.le_refl 0, Int.le_refl 0⟩
  | b :: l, h => by
    have h1 := sumM_bd p (l := l) (fun c hc => h c (List.mem_cons_of_mem _ hc))
    have h2 := h b (List.mem_cons_self ..)
    have h3 : total (b :: l) = b.f1 + total l := rfl
    rw [h3, sumM]
    split <;> omega
/-- The second loop: pages with free cells of size r. -/
def part2 (base r : Int) (l : List S55) (x : Nat) : Bool := someM (base + ((4096 * x : Nat) : Int)) r l && decide (sumM (base + ((4096 * x : Nat) : Int)) l < 4096)
theorem run_ok {base order n : Int} : ∀ (l : List S55) (m m' : PM), (∀ b ∈ l, 0 ≤ b.f1) → run base order n m l = some m' → ∀ b ∈ l, okB base order n b = true
  | [], _, _, _, _, b, hb => by cases hb
  | c :: l, m, m', hw, h, b, hb => by
    obtain ⟨m1, h1, h2⟩ := run_cons.1 h
    rcases List.mem_cons.1 hb with rfl | hb
    · exact ((step_iff (hw _ (List.mem_cons_self ..))).1 h1).1
    · exact run_ok l m1 m' (fun c hc => hw c (List.mem_cons_of_mem _ hc)) h2 b hb
/-- What a sound list's pages are. -/
theorem sound_says {base limit order n : Int} {l : List S55} (hw : OP.Wd l) (h : soundI base limit order n l = -1) :
    mayB base limit order = true ∧ 0 ≤ n ∧ n ≤ limit ∧ ∃ m, scan base order n PM.none l 0 = (some m, -1) ∧ run base order n PM.none l = some m ∧ Tells base l m ∧ Fine order n m l.length ∧ ∀ b ∈ l, okB base order n b = true ∧ Plc base b := by
  obtain ⟨hm, h0, hn, m, hsc, hf⟩ := sound_ok hw h
  have h1 := scan_run (base := base) (order := order) (n := n) l PM.none 0
  rw [hsc] at h1
  have hrun : run base order n PM.none l = some m := h1.symm
  have ht := run_tells hm h0 hn l [] PM.none m hw (tells_none base) hrun
  rw [List.nil_append] at ht
  refine ⟨hm, h0, hn, m, hsc, hrun, ht, hf, fun b hb => ?_⟩
  have hok := run_ok l PM.none m (fun c hc => (hw c hc).2.1) hrun b hb
  exact ⟨hok, plc hm h0 hn (hw b hb).2 hok⟩
/-- No block of the list ends behind the numbers. -/
def Ends (l : List S49) : Prop := ∀ i, i < l.length → (0 ≤ (el l i).f0 ∧ 0 ≤ (el l i).f1 ∧ (el l i).f0 + (el l i).f1 < 18446744073709551616)
theorem ends_of {base limit order n : Int} {l : List S49} (hw : Wd49 l) (hm : mayB base limit order = true) (h0 : 0 ≤ n) (hn : n ≤ limit) (h : ∀ b ∈ cv l, okB base order n b = true) (hb : 0 ≤ base) : Ends l := by
  intro i hi
  have hmem : el l i ∈ cv l := by rw [el_get hi]; exact List.mem_map.2 ⟨_, List.getElem_mem hi, rfl⟩
  have := ok_end hm h0 hn (cv_wd hw _ hmem).2 (h _ hmem)
  omega
theorem onP_meet {base : Int} {b : S55} (h : Plc base b) (x : Nat) : onP base b (x : Int) ↔ meetP ⟨base + ((4096 * x : Nat) : Int), 4096⟩ b := by
  have e : meetP ⟨base + ((4096 * x : Nat) : Int), 4096⟩ b ↔ base + ((4096 * x : Nat) : Int) < b.f0 + b.f1 ∧ b.f0 < base + ((4096 * x : Nat) : Int) + 4096 := Iff.rfl
  rw [e]
  unfold onP
  by_cases hs : b.f1 < 4096
  · have := small_in h hs
    rw [if_pos hs]; omega
  · have := great_in h hs
    rw [if_neg hs]; omega
theorem stretch_meet {base : Int} {b : S55} (h : Plc base b) (q pg : Nat) (hpg : 0 < pg) : meetP ⟨base + ((4096 * q : Nat) : Int), ((4096 * pg : Nat) : Int)⟩ b ↔ ∃ x : Nat, q ≤ x ∧ x < q + pg ∧ onP base b (x : Int) := by
  have e : meetP ⟨base + ((4096 * q : Nat) : Int), ((4096 * pg : Nat) : Int)⟩ b ↔ base + ((4096 * q : Nat) : Int) < b.f0 + b.f1 ∧ b.f0 < base + ((4096 * q : Nat) : Int) + ((4096 * pg : Nat) : Int) := Iff.rfl
  rw [e]
  by_cases hs : b.f1 < 4096
  · have h1 := small_in h hs
    have hg := h.ge
    have ob : ∀ x : Nat, onP base b (x : Int) ↔ (x : Int) = pageOf base b := by intro x; unfold onP; rw [if_pos hs]; omega
    constructor
    · intro h2
      exact ⟨(pageOf base b).toNat, by omega, by omega, (ob _).2 (by omega)⟩
    · rintro ⟨x, h2, h3, h4⟩
      have h4 := (ob x).1 h4
      omega
  · have h1 := great_in h hs
    have hg := h.ge
    have ob : ∀ x : Nat, onP base b (x : Int) ↔ pageOf base b ≤ (x : Int) ∧ (x : Int) < pageOf base b + b.f1 / 4096 := by intro x; unfold onP; rw [if_neg hs]
    constructor
    · intro h2
      exact ⟨max q (pageOf base b).toNat, by omega, by omega, (ob _).2 (by omega)⟩
    · rintro ⟨x, h2, h3, h4⟩
      have h4 := (ob x).1 h4
      omega
theorem told_iff {base : Int} {l : List S55} {m : PM} (h : Tells base l m) (x : Int) : (m x).isSome = true ↔ ∃ b ∈ l, onP base b x := by
  have hx := h x
  cases hm : m x with
  | none =>
    rw [hm] at hx
    constructor
    · intro h; cases h
    · rintro ⟨b, hb, ho⟩; exact absurd ho (hx b hb)
  | some lt =>
    rw [hm] at hx
    refine ⟨fun _ => ?_, fun _ => rfl⟩
    cases lt with
    | great s => obtain ⟨b, hb, ho, -⟩ := hx; exact ⟨b, hb, ho⟩
    | small z cs q =>
      obtain ⟨h8, h1, h2, h3, h4, h5⟩ := hx
      obtain ⟨c, hc, hcx⟩ := List.countP_pos_iff.1 (show 0 < l.countP (fun b => decide (onP base b x)) by omega)
      exact ⟨c, hc, by simpa using hcx⟩
theorem div_iff {x pg j : Nat} (h : 0 < pg) : x / pg = j ↔ pg * j ≤ x ∧ x < pg * j + pg := by
  have h1 := Nat.div_add_mod x pg
  have h2 := Nat.mod_lt x h
  constructor
  · intro e; subst e; omega
  · rintro ⟨a, b⟩
    refine Nat.div_eq_of_lt_le ?_ ?_
    · rw [Nat.mul_comm]; exact a
    · rw [Nat.add_mul, Nat.mul_comm j, Nat.one_mul]; exact b
/-- A stretch is met where a page of it is told. -/
theorem occ_meet {base : Int} {l : List S55} {m : PM} (h : Tells base l m) (hp : ∀ b ∈ l, Plc base b) {T pg u j : Nat} (hpg : 0 < pg) (hT : T = pg * u) (hj : j < u) : occ m T pg j = true ↔ anyMeet (base + ((4096 * pg * j : Nat) : Int)) ((4096 * pg : Nat) : Int) l = true := by
  have hju : pg * (j + 1) ≤ pg * u := Nat.mul_le_mul_left pg (by omega)
  rw [Nat.mul_succ] at hju
  rw [occ_iff]
  unfold anyMeet
  rw [List.any_eq_true]
  have ea : 4096 * pg * j = 4096 * (pg * j) := Nat.mul_assoc ..
  rw [ea]
  constructor
  · rintro ⟨x, hx, hd, hs⟩
    obtain ⟨b, hb, ho⟩ := (told_iff h _).1 hs
    have hd := (div_iff hpg).1 hd
    exact ⟨b, hb, decide_eq_true ((stretch_meet (hp b hb) (pg * j) pg hpg).2 ⟨x, hd.1, hd.2, ho⟩)⟩
  · rintro ⟨b, hb, hd⟩
    obtain ⟨x, h1, h2, h3⟩ := (stretch_meet (hp b hb) (pg * j) pg hpg).1 (of_decide_eq_true hd)
    exact ⟨x, by omega, (div_iff hpg).2 ⟨h1, h2⟩, (told_iff h _).2 ⟨b, hb, h3⟩⟩
theorem countP_short {p : Nat → Bool} {u : Nat} (h : ∀ j, p j = true → j < u) : ∀ d, (List.range (u + d)).countP p = (List.range u).countP p
  | 0 => rfl
  | d + 1 => by
    rw [← Nat.add_assoc, List.range_succ, List.countP_append, countP_short h d, List.countP_singleton]
    have : p (u + d) = false := by
      cases e : p (u + d) with
      | false => rfl
      | true => have := h _ e; omega
    rw [this]; simp
theorem occ_all {m : PM} {T pg u : Nat} (hpg : 0 < pg) (hT : T = pg * u) (hu : u ≤ 1024) : T / pg ≤ occN m T pg ↔ ∀ j, j < u → occ m T pg j = true := by
  have hs : ∀ j, occ m T pg j = true → j < u := by
    intro j hj
    obtain ⟨x, h1, h2, -⟩ := occ_iff.1 hj
    rw [← h2]
    apply Nat.div_lt_of_lt_mul
    omega
  rw [hT, Nat.mul_div_cancel_left u hpg, ← hT]
  have e : occN m T pg = (List.range u).countP (occ m T pg) := by
    have := countP_short hs (1024 - u)
    rw [show u + (1024 - u) = 1024 by omega] at this
    exact this
  rw [e]
  have hle := List.countP_le_length (p := occ m T pg) (l := List.range u)
  rw [List.length_range] at hle
  constructor
  · intro h j hj
    have h2 : (List.range u).countP (occ m T pg) = (List.range u).length := by rw [List.length_range]; omega
    exact List.countP_eq_length.1 h2 j (List.mem_range.2 hj)
  · intro h
    have h2 := List.countP_eq_length.2 (fun j hj => h j (List.mem_range.1 hj))
    rw [List.length_range] at h2
    omega
theorem sum_small {base z : Int} {x : Nat} : ∀ {l : List S55}, (∀ b ∈ l, Plc base b) → (∀ b ∈ l, onP base b (x : Int) → b.f1 = z) → sumM (base + ((4096 * x : Nat) : Int)) l = z * (l.countP (fun b => decide (onP base b (x : Int))) : Int)
  | [], _, _ => by simp [sumM]
  | b :: l, hp, hz => by
    have ih := sum_small (l := l) (fun c hc => hp c (List.mem_cons_of_mem _ hc)) (fun c hc => hz c (List.mem_cons_of_mem _ hc))
    have ho := onP_meet (hp b (List.mem_cons_self ..)) x
    rw [sumM, ih, List.countP_cons]
    by_cases hb : onP base b (x : Int)
    · rw [if_pos (ho.1 hb), if_pos (by simpa using hb), hz b (List.mem_cons_self ..) hb, Int.natCast_add, Int.mul_add]
      omega
    · rw [if_neg (fun h => hb (ho.2 h)), if_neg (by simpa using hb)]
      simp
theorem some_iff {base r : Int} {x : Nat} {l : List S55} (hp : ∀ b ∈ l, Plc base b) : someM (base + ((4096 * x : Nat) : Int)) r l = true ↔ ∃ b ∈ l, onP base b (x : Int) ∧ b.f1 = r := by
  unfold someM
  rw [List.any_eq_true]
  constructor
  · rintro ⟨b, hb, h⟩
    rw [Bool.and_eq_true, decide_eq_true_eq, beq_iff_eq] at h
    exact ⟨b, hb, (onP_meet (hp b hb) x).2 h.1, h.2⟩
  · rintro ⟨b, hb, h1, h2⟩
    refine ⟨b, hb, ?_⟩
    rw [Bool.and_eq_true, decide_eq_true_eq, beq_iff_eq]
    exact ⟨(onP_meet (hp b hb) x).1 h1, h2⟩
theorem cells8 {z q : Int} (h : S8 z) : q < 4096 / z ↔ z * q < 4096 := by
  rcases h with rfl | rfl | rfl | rfl | rfl | rfl | rfl | rfl <;> omega
/-- A page with free cells. -/
theorem part_iff {base r : Int} {l : List S55} {m : PM} (h : Tells base l m) (hp : ∀ b ∈ l, Plc base b) (hr : r < 4096) (x : Nat) : partB m r x = part2 base r l x := by
  have hx := h (x : Int)
  unfold partB part2
  cases hm : m (x : Int) with
  | none =>
    rw [hm] at hx
    have : someM (base + ((4096 * x : Nat) : Int)) r l = false := by
      cases e : someM (base + ((4096 * x : Nat) : Int)) r l with
      | false => rfl
      | true => obtain ⟨b, hb, ho, -⟩ := (some_iff hp).1 e; exact absurd ho (hx b hb)
    rw [this]; rfl
  | some lt =>
    rw [hm] at hx
    cases lt with
    | great s =>
      obtain ⟨b, hb, ho, hg, hs, huniq⟩ := hx
      have : someM (base + ((4096 * x : Nat) : Int)) r l = false := by
        cases e : someM (base + ((4096 * x : Nat) : Int)) r l with
        | false => rfl
        | true =>
          obtain ⟨c, hc, hoc, hcr⟩ := (some_iff hp).1 e
          rw [huniq c hc hoc] at hcr
          omega
      rw [this]; rfl
    | small z cs q =>
      obtain ⟨h8, h1, h2, h3, h4, h5⟩ := hx
      have hsum := sum_small (x := x) hp (fun b hb ho => (h1 b hb ho).2)
      rw [← h4] at hsum
      rw [hsum]
      obtain ⟨c, hc, hcx⟩ := List.countP_pos_iff.1 (show 0 < l.countP (fun b => decide (onP base b (x : Int))) by omega)
      have hcx : onP base c (x : Int) := by simpa using hcx
      by_cases hz : z = r
      · subst hz
        rw [(some_iff hp).2 ⟨c, hc, hcx, (h1 c hc hcx).2⟩]
        show (decide (z = z) && decide ((q : Int) < 4096 / z)) = _
        rw [decide_eq_true (Eq.refl z), Bool.true_and, Bool.true_and, decide_eq_decide]
        exact cells8 h8
      · have : someM (base + ((4096 * x : Nat) : Int)) r l = false := by
          cases e : someM (base + ((4096 * x : Nat) : Int)) r l with
          | false => rfl
          | true =>
            obtain ⟨d, hd, hod, hdr⟩ := (some_iff hp).1 e
            exact absurd ((h1 d hd hod).2.symm.trans hdr) hz
        show (decide (z = r) && decide ((q : Int) < 4096 / r)) = _
        rw [this, decide_eq_false hz]; rfl
theorem part_all {base r order n : Int} {l : List S55} {m : PM} {T i : Nat} (h : Tells base l m) (hp : ∀ b ∈ l, Plc base b) (hf : Fine order n m i) (hT : n * RR order = ((4096 * T : Nat) : Int)) (hT2 : T ≤ 1024) (hr : r < 4096) : partAny m r = false ↔ ∀ y, y < T → part2 base r l y = false := by
  unfold partAny
  rw [List.any_eq_false]
  constructor
  · intro h1 y hy
    have := h1 y (List.mem_range.2 (by omega))
    rw [part_iff h hp hr] at this
    simpa using this
  · intro h1 y hy
    by_cases e : y < T
    · rw [part_iff h hp hr, h1 y e]; simp
    · have : m (y : Int) = none := by
        cases e2 : m (y : Int) with
        | none => rfl
        | some lt => have := hf.1 (y : Int) (by rw [e2]; rfl); omega
      unfold partB
      rw [this]; simp
theorem part_big {base r : Int} {l : List S55} {m : PM} (h : Tells base l m) (hr : ¬ r < 4096) : partAny m r = false := by
  unfold partAny
  rw [List.any_eq_false]
  intro y hy
  have hx := h (y : Int)
  unfold partB
  cases hm : m (y : Int) with
  | none => simp
  | some lt =>
    cases lt with
    | great s => simp
    | small z cs q =>
      rw [hm] at hx
      have := hx.1.pos
      have hz : ¬ z = r := by omega
      simp [hz]
end Go.Proofs.Ytihfblnjgaalcaa.OX
