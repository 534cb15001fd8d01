/- The reference's laying, pass by pass. -/
import Derived.Test.YtihfblnjgaalcaaRE3
import Derived.Test.YtihfblnjgaalcaaXLd1
namespace Go.Proofs.Ytihfblnjgaalcaa.OL
open Go Go.RowKit Go.Proofs.Ytihfblnjgaalcaa.R Go.Proofs.Ytihfblnjgaalcaa.OM Go.Proofs.Ytihfblnjgaalcaa.OP Go.Proofs.Ytihfblnjgaalcaa.OB Go.Proofs.Ytihfblnjgaalcaa.OV Go.Proofs.Ytihfblnjgaalcaa.OS Go.Proofs.Ytihfblnjgaalcaa.OW Go.Proofs.Ytihfblnjgaalcaa.OF Go.Proofs.Ytihfblnjgaalcaa.ON Go.Proofs.Ytihfblnjgaalcaa.OC Go.Proofs.Ytihfblnjgaalcaa.OX
set_option linter.unusedVariables false
set_option linter.unusedSimpArgs false
theorem conf_symm (base : Int) (a b : S55) : conf base a b ↔ conf base b a := by
 unfold conf meetP
 constructor
 ·rintro (h | h)
  ·exact Or.inl ⟨h.2, h.1⟩
  ·exact Or.inr ⟨h.2.1, h.1, fun e => h.2.2.1 e.symm, h.2.2.2.symm⟩
 ·rintro (h | h)
  ·exact Or.inl ⟨h.2, h.1⟩
  ·exact Or.inr ⟨h.2.1, h.1, fun e => h.2.2.1 e.symm, h.2.2.2.symm⟩
section
variable {base limit order n : Int} {lv : List S49} {m : PM}
theorem St.elb (h : St base limit order n lv m) {i : Nat} (hi : i < lv.length) : base ≤ (el lv i).f0 ∧ 0 ≤ (el lv i).f1 ∧ (el lv i).f0 + (el lv i).f1 < 18446744073709551616 := by
 have hmem : el lv i ∈ cv lv := by rw [el_get hi]; exact List.mem_map.2 ⟨_, List.getElem_mem hi, rfl⟩
 have := ok_end h.may h.n0 h.nl (cv_wd h.wd _ hmem).2 (h.says.2.2 _ hmem).1
 omega
/-- May a block stand there? -/
def freeB (base : Int) (b : S55) (l : List S55) : Bool := !l.any (fun a => decide (conf base a b))
theorem free_l0 (h : St base limit order n lv m) {p s : Int} (hp : base ≤ p ∧ 0 ≤ s ∧ p + s < 18446744073709551616) (d : Nat) :
  ∀ (k i : Nat), i + d = lv.length → d < k → croftref11_free.l0 k lv (i : Int) base limit order p s = some (freeB base ⟨p, s⟩ (cv (lv.drop i))) := by
 have hlen := h.len
 have hb := h.b0
 induction d with
 | zero =>
  intro k i hi hk
  obtain ⟨k, rfl⟩ : ∃ q, k = q + 1 := ⟨k - 1, by omega⟩
  obtain rfl : i = lv.length := hi
  rw [croftref11_free.l0, if_neg (by omega), List.drop_length]
  rfl
 | succ d ih =>
  intro k i hi hk
  obtain ⟨k, rfl⟩ : ∃ q, k = q + 1 := ⟨k - 1, by omega⟩
  have hil : i < lv.length := by omega
  have he := h.elb hil
  have hnext := ih k (i + 1) (by omega) (by omega)
  have hmf := meet_f (a0 := (el lv i).f0) (a1 := (el lv i).f1) (b0 := p) (b1 := s) (by omega) (by omega)
  have hpi := page_f (limit := limit) (order := order) (s := (el lv i).f1) hb (show base ≤ (el lv i).f0 ∧ (el lv i).f0 < 18446744073709551616 by omega)
  have hpb := page_f (limit := limit) (order := order) (s := s) hb (show base ≤ p ∧ p < 18446744073709551616 by omega)
  change croftref11_Meet.f (rd_T49 lv (i : Int)).f0 (rd_T49 lv (i : Int)).f1 p s = some (decide (meetP (el lv i) ⟨p, s⟩)) at hmf
  change croftref11_page.f base limit order (rd_T49 lv (i : Int)).f0 = some (pageOf base (el lv i)) at hpi
  have hc : conf base (el lv i) ⟨p, s⟩ ↔ (meetP (el lv i) ⟨p, s⟩ ∨ ((el lv i).f1 < 4096 ∧ s < 4096 ∧ (el lv i).f1 ≠ s ∧ pageOf base (el lv i) = pageOf base ⟨p, s⟩)) := Iff.rfl
  have hval : freeB base ⟨p, s⟩ (cv (lv.drop i)) = (!decide (conf base (el lv i) ⟨p, s⟩) && freeB base ⟨p, s⟩ (cv (lv.drop (i + 1)))) := by
   unfold freeB
   rw [cv_drop hil, List.any_cons, Bool.not_or]
  have hyes : conf base (el lv i) ⟨p, s⟩ → freeB base ⟨p, s⟩ (cv (lv.drop i)) = false := fun h => by rw [hval, decide_eq_true h]; rfl
  have hno : ¬ conf base (el lv i) ⟨p, s⟩ → freeB base ⟨p, s⟩ (cv (lv.drop i)) = freeB base ⟨p, s⟩ (cv (lv.drop (i + 1))) := fun h => by rw [hval, decide_eq_false h]; rfl
  rw [croftref11_free.l0, if_pos (by omega), if_pos (by omega), hmf, Option.bind_some, hpi, hpb, inc64 (by omega), hnext]
  simp only [Option.bind_some]
  by_cases hmt : meetP (el lv i) ⟨p, s⟩
  ·rw [decide_eq_true hmt, if_pos rfl, hyes (hc.2 (Or.inl hmt))]
  rw [decide_eq_false hmt, if_neg (by decide)]
  by_cases hs : s < 4096
  ·rw [if_pos hs]
   change (if (el lv i).f1 < 4096 then _ else _) = _
   by_cases hsi : (el lv i).f1 < 4096
   ·rw [if_pos hsi]
    change (if (el lv i).f1 = s then _ else _) = _
    by_cases heq : (el lv i).f1 = s
    ·rw [if_pos heq, hno (fun h => by rcases hc.1 h with h | h; exact hmt h; exact h.2.2.1 heq)]
    ·rw [if_neg heq]
     by_cases hpg : pageOf base (el lv i) = pageOf base ⟨p, s⟩
     ·rw [if_pos hpg, hyes (hc.2 (Or.inr ⟨hsi, hs, heq, hpg⟩))]
     ·rw [if_neg hpg, hno (fun h => by rcases hc.1 h with h | h; exact hmt h; exact hpg h.2.2.2)]
   ·rw [if_neg hsi, hno (fun h => by rcases hc.1 h with h | h; exact hmt h; exact hsi h.1)]
  ·rw [if_neg hs, hno (fun h => by rcases hc.1 h with h | h; exact hmt h; exact hs h.2.1)]
theorem freeB_iff (h : St base limit order n lv m) {b : S55} (hok : okB base order n b = true) (hb : 0 ≤ b.f1 ∧ b.f1 < 18446744073709551616) : freeB base b (cv lv) = (OP.step base order n m b).isSome := by
 obtain ⟨ht, hf, hall⟩ := h.says
 have hplc := plc h.may h.n0 h.nl hb hok
 unfold freeB
 cases e : OP.step base order n m b with
 | some m2 =>
  obtain ⟨-, h2, -⟩ := (step_iff hb.1).1 e
  have : (cv lv).any (fun a => decide (conf base a b)) = false := by
   rw [List.any_eq_false]
   intro a ha hc
   have hc := (conf_symm base a b).1 (of_decide_eq_true hc)
   exact ((conf_iff (hall a ha).2 hplc).1 (fun x hx hax => (add_some (ht x) hx).1 (h2 x hx) a ha hax)) hc
  rw [this]; rfl
 | none =>
  have : (cv lv).any (fun a => decide (conf base a b)) = true := by
   cases e2 : (cv lv).any (fun a => decide (conf base a b)) with
   | true => rfl
   | false =>
    rw [List.any_eq_false] at e2
    have hs : OP.step base order n m b = some (addAll base b m) := (step_iff hb.1).2 ⟨hok, fun x hx => (add_some (ht x) hx).2 (fun a hal hax => (conf_iff (hall a hal).2 hplc).2 (fun hc => e2 a hal (decide_eq_true ((conf_symm base a b).2 hc))) x hx hax), rfl⟩
    rw [e] at hs; cases hs
  rw [this]; rfl
theorem free_f (h : St base limit order n lv m) {p s : Int} (hok : okB base order n ⟨p, s⟩ = true) (hs : 0 ≤ s ∧ s < 18446744073709551616) {k : Nat} (hk : 262144 < k) : croftref11_free.f k base limit order lv p s = some (OP.step base order n m ⟨p, s⟩).isSome := by
 have hlen := h.len
 have he := ok_end h.may h.n0 h.nl (b := ⟨p, s⟩) hs hok
 have := free_l0 h (p := p) (s := s) ⟨he.1, hs.1, he.2.2⟩ lv.length k 0 (by omega) (by omega)
 rw [List.drop_zero, freeB_iff h hok hs] at this
 exact this
/-- Is there one of its size on the page? -/
def shareB (base : Int) (b : S55) (l : List S55) : Bool := l.any (fun a => decide (b.f1 < 4096 ∧ a.f1 = b.f1 ∧ pageOf base a = pageOf base b))
theorem shares_l0 (h : St base limit order n lv m) {p s : Int} (hp : base ≤ p ∧ p < 18446744073709551616) (d : Nat) :
  ∀ (k i : Nat), i + d = lv.length → d < k → croftref11_shares.l0 k lv (i : Int) base limit order p s = some (shareB base ⟨p, s⟩ (cv (lv.drop i))) := by
 have hlen := h.len
 have hb := h.b0
 induction d with
 | zero =>
  intro k i hi hk
  obtain ⟨k, rfl⟩ : ∃ q, k = q + 1 := ⟨k - 1, by omega⟩
  obtain rfl : i = lv.length := hi
  rw [croftref11_shares.l0, if_neg (by omega), List.drop_length]
  rfl
 | succ d ih =>
  intro k i hi hk
  obtain ⟨k, rfl⟩ : ∃ q, k = q + 1 := ⟨k - 1, by omega⟩
  have hil : i < lv.length := by omega
  have he := h.elb hil
  have hnext := ih k (i + 1) (by omega) (by omega)
  have hpi := page_f (limit := limit) (order := order) (s := (el lv i).f1) hb (show base ≤ (el lv i).f0 ∧ (el lv i).f0 < 18446744073709551616 by omega)
  have hpb := page_f (limit := limit) (order := order) (s := s) hb hp
  change croftref11_page.f base limit order (rd_T49 lv (i : Int)).f0 = some (pageOf base (el lv i)) at hpi
  have hval : shareB base ⟨p, s⟩ (cv (lv.drop i)) = (decide (s < 4096 ∧ (el lv i).f1 = s ∧ pageOf base (el lv i) = pageOf base ⟨p, s⟩) || shareB base ⟨p, s⟩ (cv (lv.drop (i + 1)))) := by
   unfold shareB
   rw [cv_drop hil, List.any_cons]
  rw [croftref11_shares.l0, if_pos (by omega), hpi, hpb, inc64 (by omega), hnext, hval, if_pos (show 0 ≤ (i : Int) by omega)]
  simp only [Option.bind_some]
  by_cases hs : s < 4096
  ·rw [if_pos hs]
   change (if (el lv i).f1 = s then _ else _) = _
   by_cases heq : (el lv i).f1 = s
   ·rw [if_pos heq]
    by_cases hpg : pageOf base (el lv i) = pageOf base ⟨p, s⟩
    ·rw [if_pos hpg, decide_eq_true ⟨hs, heq, hpg⟩]; rfl
    ·rw [if_neg hpg, decide_eq_false (fun h => hpg h.2.2)]; rfl
   ·rw [if_neg heq, decide_eq_false (fun h => heq h.2.1)]; rfl
  ·rw [if_neg hs, decide_eq_false (fun h => hs h.1)]; rfl
theorem shares_great (h : St base limit order n lv m) {p s : Int} (hp : base ≤ p ∧ p < 18446744073709551616) (hs : ¬ s < 4096) {k : Nat} (hk : 262144 < k) : croftref11_shares.f k base limit order lv p s = some false := by
 have hlen := h.len
 have := shares_l0 h (p := p) (s := s) hp lv.length k 0 (by omega) (by omega)
 rw [List.drop_zero] at this
 have e : shareB base ⟨p, s⟩ (cv lv) = false := by
  unfold shareB
  rw [List.any_eq_false]
  intro a ha hc
  exact hs (of_decide_eq_true hc).1
 rw [e] at this
 exact this
/-- Does a page hold small blocks of size r? -/
def isR (m : PM) (r x : Nat) : Bool := match m (x : Int) with
 | some (.small z _ _) => decide (z = (r : Int))
 | _ => false
theorem isR_iff {r x : Nat} : isR m r x = true ↔ ∃ cs q, m (x : Int) = some (.small (r : Int) cs q) := by
 unfold isR
 cases hm : m (x : Int) with
 | none => simp
 | some lt =>
  cases lt with
  | great s => simp
  | small z cs q =>
   simp only [decide_eq_true_eq]
   constructor
   ·rintro rfl; exact ⟨cs, q, rfl⟩
   ·rintro ⟨cs2, q2, e⟩
    have e := Option.some.inj e
    injection e
theorem shares_small (h : St base limit order n lv m) {r c x y : Nat} (hc : Cut r c) (hy : y < c) (hx : x < totP order n) {k : Nat} (hk : 262144 < k) : croftref11_shares.f k base limit order lv (cellB base r x y).f0 (r : Int) = some (isR m r x) := by
 have hlen := h.len
 obtain ⟨ht, hf, hall⟩ := h.says
 have hb := hc.bd
 have hok := cell_ok h hc hy hx
 have he := ok_end h.may h.n0 h.nl (b := cellB base r x y) (by constructor; exact Int.natCast_nonneg _; show (r : Int) < _; omega) hok
 have h16 : (cellB base r x y).f1 = (r : Int) := rfl
 have := shares_l0 h (p := (cellB base r x y).f0) (s := (r : Int)) ⟨he.1, by omega⟩ lv.length k 0 (by omega) (by omega)
 rw [List.drop_zero] at this
 have e : shareB base ⟨(cellB base r x y).f0, (r : Int)⟩ (cv lv) = isR m r x := by
  have hpg : pageOf base (⟨(cellB base r x y).f0, (r : Int)⟩ : S55) = (x : Int) := cell_page hc hy
  rw [Bool.eq_iff_iff, isR_iff]
  unfold shareB
  rw [List.any_eq_true]
  constructor
  ·rintro ⟨a, ha, hd⟩
   have hd := of_decide_eq_true hd
   rw [hpg] at hd
   have har : a.f1 = (r : Int) := hd.2.1
   have hon : onP base a (x : Int) := by
    unfold onP
    rw [if_pos (by omega), hd.2.2]
    exact ⟨Int.le_refl _, rfl⟩
   have hx2 := ht (x : Int)
   cases hm : m (x : Int) with
   | none => rw [hm] at hx2; exact absurd hon (hx2 a ha)
   | some lt =>
    rw [hm] at hx2
    cases lt with
    | great s =>
     obtain ⟨b, hb2, ho, hg, hs, hu⟩ := hx2
     rw [← hu a ha hon] at hg
     omega
    | small z cs q =>
     have := (hx2.2.1 a ha hon).2
     rw [har] at this
     subst this
     exact ⟨cs, q, rfl⟩
  ·rintro ⟨cs, q, hm⟩
   have hx2 := ht (x : Int)
   rw [hm] at hx2
   obtain ⟨h8, h1, h2, h3, h4, h5⟩ := hx2
   obtain ⟨a, ha, hax⟩ := List.countP_pos_iff.1 (show 0 < (cv lv).countP (fun b => decide (onP base b (x : Int))) by omega)
   have hax : onP base a (x : Int) := by simpa using hax
   have h6 := h1 a ha hax
   refine ⟨a, ha, decide_eq_true ⟨show (r : Int) < 4096 by omega, h6.2, ?_⟩⟩
   rw [hpg]
   exact onP_small hax h6.1
 rw [e] at this
 exact this
end
end Go.Proofs.Ytihfblnjgaalcaa.OL
