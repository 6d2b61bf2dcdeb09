/- Proved: part 35 of the proof of PackReads (Cgp2). Conditions: each theorem states its own. -/
import Derived.SevenTiedAt
import Derived.Test.YtpnkifincadakaaGreatDoorCards
set_option linter.unusedVariables false
set_option linter.unusedSimpArgs false
section
namespace Go.Proofs.YtpnkifincadakaaGreatDoor.Wr
open Go
theorem p_goes : false = Rows.packReadsRow.goesBy Tryz.prog := by kernel_rfl
end Go.Proofs.YtpnkifincadakaaGreatDoor.Wr
end
