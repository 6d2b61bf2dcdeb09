/-
  DERIVED. GIVEN WITH THE SEED: THE CARDS: each row of YtecpdmoieoibnaaDoorRows.lean that lists a variable, with what it lists TIED to the program's text (the seventh form; the later family's looks); each row that meets fmt, with fmt's text TOLD by the authors' own Lean function (tested against real Go, not proved from fmt's source: count such statements apart). THE CARD IS WHAT COUNTS. Prove the row's statement (the work); the ties are given (YtecpdmoieoibnaaDoorTie.lean); close each card by the builder's one call (the guide's Derived/Test/ToyasCard.lean, 'card_holds'). Laid BY PROGRAM, IN A SANDBOX (cutbox-door.mjs). By AI agents, Wed Nov 11 2026. No macro, syntax, notation, axiom, sorry.
-/
import Derived.Test.YtecpdmoieoibnaaDoorRows
import GoSem.ClaimSeven
namespace Go.Proofs.YtecpdmoieoibnaaDoor
namespace Rows

/-- THE TIED CARD OF 'graftlaw20.ShellWords'. -/
def shellWordsCard : Claim7 := { stood := { row := shellWordsRow, standIns := [], harness := (true, "c1ea347ef9d9b8435dfe8f14fddbf0bdf81f70e628ed5a74bcce7b238c716e67"), looks := false }, kinds := [], alts := [], laidByText := true, laidKinds := [.data], laidTests := true, laidLooks := .later }
def ShellWordsCardSaid : Prop := Claim7.holds Tryd.pinned (.plain (OpenSpec.ofChange shellWordsSpec)) shellWordsCard

/-- THE TIED CARD OF 'graftlaw20.ShellOwn'. -/
def shellOwnCard : Claim7 := { stood := { row := shellOwnRow, standIns := [], harness := (true, "c1ea347ef9d9b8435dfe8f14fddbf0bdf81f70e628ed5a74bcce7b238c716e67"), looks := false }, kinds := [], alts := [], laidByText := true, laidKinds := [.data], laidTests := true, laidLooks := .later }
def ShellOwnCardSaid : Prop := Claim7.holds Tryd.pinned (.plain (OpenSpec.ofChange shellOwnSpec)) shellOwnCard

/-- THE TIED CARD OF 'graftlaw20.ShellQuotes'. -/
def shellQuotesCard : Claim7 := { stood := { row := shellQuotesRow, standIns := [], harness := (true, "c1ea347ef9d9b8435dfe8f14fddbf0bdf81f70e628ed5a74bcce7b238c716e67"), looks := false }, kinds := [], alts := [], laidByText := true, laidKinds := [.data], laidTests := true, laidLooks := .later }
def ShellQuotesCardSaid : Prop := Claim7.holds Tryd.pinned (.plain (OpenSpec.ofChange shellQuotesSpec)) shellQuotesCard

/-- THE TIED CARD OF 'graftlaw20.ShellJoins'. -/
def shellJoinsCard : Claim7 := { stood := { row := shellJoinsRow, standIns := [], harness := (true, "c1ea347ef9d9b8435dfe8f14fddbf0bdf81f70e628ed5a74bcce7b238c716e67"), looks := false }, kinds := [], alts := [], laidByText := true, laidKinds := [.data], laidTests := true, laidLooks := .later }
def ShellJoinsCardSaid : Prop := Claim7.holds Tryd.pinned (.plain (OpenSpec.ofChange shellJoinsSpec)) shellJoinsCard

/-- THE SECOND FORM's CARD OF 'graftlaw20.ShellWords'. -/
def shellWordsUptoCard : Claim7 := { stood := { row := shellWordsUptoRow, standIns := [], harness := (true, "c1ea347ef9d9b8435dfe8f14fddbf0bdf81f70e628ed5a74bcce7b238c716e67"), looks := false }, kinds := [], alts := [], laidByText := true, laidKinds := [.data], laidTests := true, laidLooks := .later }
def ShellWordsUptoCardSaid : Prop := Claim7.holds Tryd.pinned (.plain (OpenSpec.upto shellWordsSpec)) shellWordsUptoCard

/-- THE SECOND FORM's CARD OF 'graftlaw20.ShellOwn'. -/
def shellOwnUptoCard : Claim7 := { stood := { row := shellOwnUptoRow, standIns := [], harness := (true, "c1ea347ef9d9b8435dfe8f14fddbf0bdf81f70e628ed5a74bcce7b238c716e67"), looks := false }, kinds := [], alts := [], laidByText := true, laidKinds := [.data], laidTests := true, laidLooks := .later }
def ShellOwnUptoCardSaid : Prop := Claim7.holds Tryd.pinned (.plain (OpenSpec.upto shellOwnSpec)) shellOwnUptoCard

/-- THE SECOND FORM's CARD OF 'graftlaw20.ShellQuotes'. -/
def shellQuotesUptoCard : Claim7 := { stood := { row := shellQuotesUptoRow, standIns := [], harness := (true, "c1ea347ef9d9b8435dfe8f14fddbf0bdf81f70e628ed5a74bcce7b238c716e67"), looks := false }, kinds := [], alts := [], laidByText := true, laidKinds := [.data], laidTests := true, laidLooks := .later }
def ShellQuotesUptoCardSaid : Prop := Claim7.holds Tryd.pinned (.plain (OpenSpec.upto shellQuotesSpec)) shellQuotesUptoCard

/-- THE SECOND FORM's CARD OF 'graftlaw20.ShellJoins'. -/
def shellJoinsUptoCard : Claim7 := { stood := { row := shellJoinsUptoRow, standIns := [], harness := (true, "c1ea347ef9d9b8435dfe8f14fddbf0bdf81f70e628ed5a74bcce7b238c716e67"), looks := false }, kinds := [], alts := [], laidByText := true, laidKinds := [.data], laidTests := true, laidLooks := .later }
def ShellJoinsUptoCardSaid : Prop := Claim7.holds Tryd.pinned (.plain (OpenSpec.upto shellJoinsSpec)) shellJoinsUptoCard
end Rows
end Go.Proofs.YtecpdmoieoibnaaDoor
