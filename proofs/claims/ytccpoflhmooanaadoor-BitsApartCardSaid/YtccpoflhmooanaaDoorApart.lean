/- BitsApart, walked: two sets of the same words, changed in turns. -/
import Derived.Test.YtccpoflhmooanaaDoorApart0
namespace Go.Proofs.YtccpoflhmooanaaDoor.Ref2
open Go.RowKit Go.Proofs.YtccpoflhmooanaaDoorW.PrintWords Go.Proofs.YtccpoflhmooanaaDoorW.PrintLast Go.Proofs.YtccpoflhmooanaaDoorW.PrintMore Go.Proofs.YtccpoflhmooanaaDoor.Nums Go.Proofs.YtccpoflhmooanaaDoor.NumF Go.Proofs.YtccpoflhmooanaaDoor.Sets Go.Proofs.YtccpoflhmooanaaDoor.SetF Go.Proofs.YtccpoflhmooanaaDoor.Mem Go.Proofs.YtccpoflhmooanaaDoor.Kept Go.Proofs.YtccpoflhmooanaaDoor.Tz Go.Proofs.YtccpoflhmooanaaDoor.R Go.Proofs.YtccpoflhmooanaaDoor.Walks
set_option linter.unusedVariables false
set_option linter.unusedSimpArgs false
/-- A pair's blocks are apart from another's. -/
def Far (F G F' G' : Nat → Prop) : Prop := ∀ k, FG F G k → ¬ FG F' G' k
theorem Far.after {F G F' G' F2 G2 : Nat → Prop} {w : World} (h : Far F G F' G') (hb : ∀ k, FG F' G' k → k < w.heap.size) (hf : ∀ k, F2 k → Or F w k) (hg : ∀ k, G2 k → Or G w k) : Far F2 G2 F' G' := by
  intro k hk h2
  have hl := hb k h2
  rcases hk with hk | hk
  · rcases hf k hk with h3 | h3
    · exact h k (.inl h3) h2
    · omega
  · rcases hg k hk with h3 | h3
    · exact h k (.inr h3) h2
    · omega
theorem Far.symm {F G F' G' : Nat → Prop} (h : Far F G F' G') : Far F' G' F G := fun k h1 h2 => h k h2 h1
theorem Both.fg {F G : Nat → Prop} {w : World} {b m : Nat} {ws : List Int} {A : Option Addr} {c : Nat} (h : Both F G w b m ws A c) : ∀ k, FG F G k → k < w.heap.size := fun k hk => hk.elim (h.f k) (h.g k)
/-- Another pair's call leaves a pair as it is. -/
theorem Both.far {F G F' G' : Nat → Prop} {w w' : World} {b m : Nat} {ws : List Int} {A : Option Addr} {c : Nat} (h : Both F' G' w b m ws A c) (hu : Upd (FG F G) w w') (hd : Far F G F' G') : Both F' G' w' b m ws A c :=
  h.upd hu (fun k hk h2 => hd k h2 (.inl hk)) (fun k hk h2 => hd k h2 (.inr hk))
/-- Both pairs as they are made. -/
theorem pairs_made {l : List Int} (hw : Wd l) (n : Int) (m : Nat) (hm : fitN n = m) {w1 w2 w3 w4 w5 : World} {b b2 : Nat} (hs : SetR (New w1) w2 b (m : Int) (ofW l n)) (u3 : Upd No w2 w3) (hs2 : SetR (New w2) w3 b2 (m : Int) (ofW l n))
    {A A2 : Option Addr} {c c2 : Nat} (ht : TR (New w3) w4 A m c (tbl m (bitN (ofW l n)))) (hb4 : Below w3.heap.size w3 w4) (ht2 : TR (New w4) w5 A2 m c2 (tbl m (bitN (ofW l n)))) (hb5 : Below w4.heap.size w4 w5) :
    Both (fun k => New w1 k ∧ k < w2.heap.size) (fun k => New w3 k ∧ k < w4.heap.size) w5 b m (ofW l n) A c ∧ Both (fun k => New w2 k ∧ k < w3.heap.size) (fun k => New w4 k ∧ k < w5.heap.size) w5 b2 m (ofW l n) A2 c2 ∧
      Far (fun k => New w1 k ∧ k < w2.heap.size) (fun k => New w3 k ∧ k < w4.heap.size) (fun k => New w2 k ∧ k < w3.heap.size) (fun k => New w4 k ∧ k < w5.heap.size) := by
  have s3 := u3.size
  have s4 := hb4.size
  have s5 := hb5.size
  have v4 : Upd No w3 w4 := Upd.of_below hb4
  have v5 : Upd No w4 w5 := Upd.of_below hb5
  have no : ∀ {P : Nat → Prop}, ∀ k, P k → ¬ No k := fun _ _ h => h
  refine ⟨⟨((hs.bound.upd u3 no).upd v4 no).upd v5 no, ofW_clean hw n m hm, ht.bound.upd v5 no, ?_, ?_, ?_⟩, ⟨(hs2.bound.upd v4 no).upd v5 no, ofW_clean hw n m hm, ht2.bound, ?_, ?_, fun k hk => hk.2⟩, ?_⟩
  · rintro k ⟨-, h1⟩ ⟨h2, -⟩; unfold New at h2; omega
  · rintro k ⟨-, h1⟩; omega
  · rintro k ⟨-, h1⟩; omega
  · rintro k ⟨-, h1⟩ ⟨h2, -⟩; unfold New at h2; omega
  · rintro k ⟨-, h1⟩; omega
  · rintro k h1 h2
    simp only [FG, New] at h1 h2
    omega
end Go.Proofs.YtccpoflhmooanaaDoor.Ref2
