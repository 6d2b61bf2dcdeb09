/-
  DERIVED. GIVEN WITH THE SEED: THE CARDS: each row of YtpnkifincadakaaGreatDoorRows.lean that lists a variable, with what it lists TIED to the program's text (the seventh form; the later family's looks); each row that meets fmt, with fmt's text TOLD by the authors' own Lean function (tested against real Go, not proved from fmt's source: count such statements apart). THE CARD IS WHAT COUNTS. Prove the row's statement (the work); the ties are given (YtpnkifincadakaaGreatDoorTie.lean); close each card by the builder's one call (the guide's Derived/Test/ToyasCard.lean, 'card_holds'). Laid BY PROGRAM, IN A SANDBOX (cutbox-door.mjs). By AI agents, Wed Nov 11 2026. No macro, syntax, notation, axiom, sorry.
-/
import Derived.Test.YtpnkifincadakaaGreatDoorRows
import GoSem.ClaimSeven
namespace Go.Proofs.YtpnkifincadakaaGreatDoor
namespace Rows

/-- THE TIED CARD OF 'graftlaw18.PackSpecs'. -/
def packSpecsCard : Claim7 := { stood := { row := packSpecsRow, standIns := [], harness := (true, "17d6701856d421e3136610bc099c6b5cdf414b40a991d14579584bafa2395863"), looks := true }, kinds := [], alts := [], laidByText := true, laidKinds := [.data, .data, .data, .data], laidTests := true, laidLooks := .later }
def PackSpecsCardSaid : Prop := Claim7.holds Tryz.pinned (.plain (OpenSpec.ofChange packSpecsSpec)) packSpecsCard

/-- THE TIED CARD OF 'graftlaw18.PackReads'. -/
def packReadsCard : Claim7 := { stood := { row := packReadsRow, standIns := [], harness := (true, "17d6701856d421e3136610bc099c6b5cdf414b40a991d14579584bafa2395863"), looks := true }, kinds := [], alts := [], laidByText := true, laidKinds := [.data, .data, .data, .data], laidTests := true, laidLooks := .later }
def PackReadsCardSaid : Prop := Claim7.holds Tryz.pinned (.plain (OpenSpec.ofChange packReadsSpec)) packReadsCard

/-- THE TIED CARD OF 'graftlaw18.PackRound'. -/
def packRoundCard : Claim7 := { stood := { row := packRoundRow, standIns := [], harness := (true, "17d6701856d421e3136610bc099c6b5cdf414b40a991d14579584bafa2395863"), looks := true }, kinds := [], alts := [], laidByText := true, laidKinds := [.data, .data, .data, .data], laidTests := true, laidLooks := .later }
def PackRoundCardSaid : Prop := Claim7.holds Tryz.pinned (.plain (OpenSpec.ofChange packRoundSpec)) packRoundCard

/-- THE SECOND FORM's CARD OF 'graftlaw18.PackSpecs'. -/
def packSpecsUptoCard : Claim7 := { stood := { row := packSpecsUptoRow, standIns := [], harness := (true, "17d6701856d421e3136610bc099c6b5cdf414b40a991d14579584bafa2395863"), looks := true }, kinds := [], alts := [], laidByText := true, laidKinds := [.data, .data, .data, .data], laidTests := true, laidLooks := .later }
def PackSpecsUptoCardSaid : Prop := Claim7.holds Tryz.pinned (.plain (OpenSpec.upto packSpecsSpec)) packSpecsUptoCard

/-- THE SECOND FORM's CARD OF 'graftlaw18.PackReads'. -/
def packReadsUptoCard : Claim7 := { stood := { row := packReadsUptoRow, standIns := [], harness := (true, "17d6701856d421e3136610bc099c6b5cdf414b40a991d14579584bafa2395863"), looks := true }, kinds := [], alts := [], laidByText := true, laidKinds := [.data, .data, .data, .data], laidTests := true, laidLooks := .later }
def PackReadsUptoCardSaid : Prop := Claim7.holds Tryz.pinned (.plain (OpenSpec.upto packReadsSpec)) packReadsUptoCard

/-- THE SECOND FORM's CARD OF 'graftlaw18.PackRound'. -/
def packRoundUptoCard : Claim7 := { stood := { row := packRoundUptoRow, standIns := [], harness := (true, "17d6701856d421e3136610bc099c6b5cdf414b40a991d14579584bafa2395863"), looks := true }, kinds := [], alts := [], laidByText := true, laidKinds := [.data, .data, .data, .data], laidTests := true, laidLooks := .later }
def PackRoundUptoCardSaid : Prop := Claim7.holds Tryz.pinned (.plain (OpenSpec.upto packRoundSpec)) packRoundUptoCard
end Rows
end Go.Proofs.YtpnkifincadakaaGreatDoor
