/- Proved: part 33 of the proof of PackReads (Jp). Conditions: each theorem states its own. -/
import Derived.JoinedOf
import Derived.Test.YtpnkifincadakaaGreatDoorRows
set_option linter.unusedVariables false
set_option linter.unusedSimpArgs false
section
namespace Go.Proofs.YtpnkifincadakaaGreatDoor.Wr
open Go
theorem p_inPlace : (Rows.packReadsRow.inPlace == Tryz.prog.inPlace 4) = true := by kernel_rfl
theorem p_unfollowed : (Rows.packReadsRow.unfollowed == Tryz.prog.unfollowed 4) = true := by kernel_rfl
theorem p_recurses : (Rows.packReadsRow.recurses == Tryz.prog.recurses 4) = true := by kernel_rfl
theorem p_named : (Rows.packReadsRow.named == Tryz.prog.varsNamed 4) = true := by kernel_rfl
theorem jfp : joinedFacts Tryz.prog 4 Tryz.f4 Rows.packReadsSpec Rows.packReadsRow = true := by
  unfold joinedFacts
  rw [p_inPlace, p_unfollowed, p_recurses, p_named]
  kernel_rfl
end Go.Proofs.YtpnkifincadakaaGreatDoor.Wr
end
