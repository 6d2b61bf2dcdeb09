/- Proved: part 32 of the proof of PackRound (Jr). Conditions: each theorem states its own. -/
import Derived.JoinedOf
import Derived.Test.YtpnkifincadakaaGreatDoorRows
set_option linter.unusedVariables false
set_option linter.unusedSimpArgs false
section
namespace Go.Proofs.YtpnkifincadakaaGreatDoor.Wr
open Go
theorem r_inPlace : (Rows.packRoundRow.inPlace == Tryz.prog.inPlace 5) = true := by kernel_rfl
theorem r_unfollowed : (Rows.packRoundRow.unfollowed == Tryz.prog.unfollowed 5) = true := by kernel_rfl
theorem r_recurses : (Rows.packRoundRow.recurses == Tryz.prog.recurses 5) = true := by kernel_rfl
theorem r_named : (Rows.packRoundRow.named == Tryz.prog.varsNamed 5) = true := by kernel_rfl
theorem jfr : joinedFacts Tryz.prog 5 Tryz.f5 Rows.packRoundSpec Rows.packRoundRow = true := by
  unfold joinedFacts
  rw [r_inPlace, r_unfollowed, r_recurses, r_named]
  kernel_rfl
end Go.Proofs.YtpnkifincadakaaGreatDoor.Wr
end
