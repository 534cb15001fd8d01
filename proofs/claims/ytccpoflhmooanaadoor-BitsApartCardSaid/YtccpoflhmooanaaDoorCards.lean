/-
  DERIVED. GIVEN WITH THE SEED: THE CARDS: each row of YtccpoflhmooanaaDoorRows.lean that lists a variable, with what it lists TIED to the program's text (the seventh form; the later family's looks); each row that meets fmt, with fmt's text TOLD by the authors' own Lean function (tested against real Go, not proved from fmt's source: count such statements apart). THE CARD IS WHAT COUNTS. Prove the row's statement (the work); the ties are given (YtccpoflhmooanaaDoorTie.lean); close each card by the builder's one call (the guide's Derived/Test/ToyasCard.lean, 'card_holds'). Laid BY PROGRAM, IN A SANDBOX (cutbox-door.mjs). By AI agents, Wed Nov 11 2026. No macro, syntax, notation, axiom, sorry.
-/
import Derived.Test.YtccpoflhmooanaaDoorRows
import GoSem.ClaimSeven
namespace Go.Proofs.YtccpoflhmooanaaDoor
namespace Rows

/-- THE TIED CARD OF 'croftlaw1.BitsOfs'. -/
def bitsOfsCard : Claim7 := { stood := { row := bitsOfsRow, standIns := [], harness := (true, "6c163a0b289f2620d2b4663f54570326097af584923e2c1ad515813e1f05f016"), looks := false }, kinds := [], alts := [], laidByText := true, laidKinds := [.data], laidTests := true, laidLooks := .later }
def BitsOfsCardSaid : Prop := Claim7.holds Tryd.pinned (.plain (OpenSpec.ofChange bitsOfsSpec)) bitsOfsCard

/-- THE TIED CARD OF 'croftlaw1.BitsWalks'. -/
def bitsWalksCard : Claim7 := { stood := { row := bitsWalksRow, standIns := [], harness := (true, "6c163a0b289f2620d2b4663f54570326097af584923e2c1ad515813e1f05f016"), looks := false }, kinds := [], alts := [], laidByText := true, laidKinds := [.data], laidTests := true, laidLooks := .later }
def BitsWalksCardSaid : Prop := Claim7.holds Tryd.pinned (.plain (OpenSpec.ofChange bitsWalksSpec)) bitsWalksCard

/-- THE TIED CARD OF 'croftlaw1.BitsPlays'. -/
def bitsPlaysCard : Claim7 := { stood := { row := bitsPlaysRow, standIns := [], harness := (true, "6c163a0b289f2620d2b4663f54570326097af584923e2c1ad515813e1f05f016"), looks := false }, kinds := [], alts := [], laidByText := true, laidKinds := [.data], laidTests := true, laidLooks := .later }
def BitsPlaysCardSaid : Prop := Claim7.holds Tryd.pinned (.plain (OpenSpec.ofChange bitsPlaysSpec)) bitsPlaysCard

/-- THE TIED CARD OF 'croftlaw1.BitsApart'. -/
def bitsApartCard : Claim7 := { stood := { row := bitsApartRow, standIns := [], harness := (true, "6c163a0b289f2620d2b4663f54570326097af584923e2c1ad515813e1f05f016"), looks := false }, kinds := [], alts := [], laidByText := true, laidKinds := [.data], laidTests := true, laidLooks := .later }
def BitsApartCardSaid : Prop := Claim7.holds Tryd.pinned (.plain (OpenSpec.ofChange bitsApartSpec)) bitsApartCard

/-- THE TIED CARD OF 'croftlaw1.BitsKnown'. -/
def bitsKnownCard : Claim7 := { stood := { row := bitsKnownRow, standIns := [], harness := (true, "6c163a0b289f2620d2b4663f54570326097af584923e2c1ad515813e1f05f016"), looks := false }, kinds := [], alts := [], laidByText := true, laidKinds := [.data], laidTests := true, laidLooks := .later }
def BitsKnownCardSaid : Prop := Claim7.holds Tryd.pinned (.plain (OpenSpec.ofChange bitsKnownSpec)) bitsKnownCard

/-- THE SECOND FORM's CARD OF 'croftlaw1.BitsOfs'. -/
def bitsOfsUptoCard : Claim7 := { stood := { row := bitsOfsUptoRow, standIns := [], harness := (true, "6c163a0b289f2620d2b4663f54570326097af584923e2c1ad515813e1f05f016"), looks := false }, kinds := [], alts := [], laidByText := true, laidKinds := [.data], laidTests := true, laidLooks := .later }
def BitsOfsUptoCardSaid : Prop := Claim7.holds Tryd.pinned (.plain (OpenSpec.upto bitsOfsSpec)) bitsOfsUptoCard

/-- THE SECOND FORM's CARD OF 'croftlaw1.BitsWalks'. -/
def bitsWalksUptoCard : Claim7 := { stood := { row := bitsWalksUptoRow, standIns := [], harness := (true, "6c163a0b289f2620d2b4663f54570326097af584923e2c1ad515813e1f05f016"), looks := false }, kinds := [], alts := [], laidByText := true, laidKinds := [.data], laidTests := true, laidLooks := .later }
def BitsWalksUptoCardSaid : Prop := Claim7.holds Tryd.pinned (.plain (OpenSpec.upto bitsWalksSpec)) bitsWalksUptoCard

/-- THE SECOND FORM's CARD OF 'croftlaw1.BitsPlays'. -/
def bitsPlaysUptoCard : Claim7 := { stood := { row := bitsPlaysUptoRow, standIns := [], harness := (true, "6c163a0b289f2620d2b4663f54570326097af584923e2c1ad515813e1f05f016"), looks := false }, kinds := [], alts := [], laidByText := true, laidKinds := [.data], laidTests := true, laidLooks := .later }
def BitsPlaysUptoCardSaid : Prop := Claim7.holds Tryd.pinned (.plain (OpenSpec.upto bitsPlaysSpec)) bitsPlaysUptoCard

/-- THE SECOND FORM's CARD OF 'croftlaw1.BitsApart'. -/
def bitsApartUptoCard : Claim7 := { stood := { row := bitsApartUptoRow, standIns := [], harness := (true, "6c163a0b289f2620d2b4663f54570326097af584923e2c1ad515813e1f05f016"), looks := false }, kinds := [], alts := [], laidByText := true, laidKinds := [.data], laidTests := true, laidLooks := .later }
def BitsApartUptoCardSaid : Prop := Claim7.holds Tryd.pinned (.plain (OpenSpec.upto bitsApartSpec)) bitsApartUptoCard

/-- THE SECOND FORM's CARD OF 'croftlaw1.BitsKnown'. -/
def bitsKnownUptoCard : Claim7 := { stood := { row := bitsKnownUptoRow, standIns := [], harness := (true, "6c163a0b289f2620d2b4663f54570326097af584923e2c1ad515813e1f05f016"), looks := false }, kinds := [], alts := [], laidByText := true, laidKinds := [.data], laidTests := true, laidLooks := .later }
def BitsKnownUptoCardSaid : Prop := Claim7.holds Tryd.pinned (.plain (OpenSpec.upto bitsKnownSpec)) bitsKnownUptoCard
end Rows
end Go.Proofs.YtccpoflhmooanaaDoor
