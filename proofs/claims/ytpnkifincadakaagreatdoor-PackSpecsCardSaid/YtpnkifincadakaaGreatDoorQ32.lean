/- Proved: part 32 of the proof of PackSpecs (Jf). Conditions: each theorem states its own. -/
import Derived.JoinedOf
import Derived.Test.YtpnkifincadakaaGreatDoorRows
set_option linter.unusedVariables false
set_option linter.unusedSimpArgs false
section
namespace Go.Proofs.YtpnkifincadakaaGreatDoor.Wr
open Go
theorem q_inPlace : (Rows.packSpecsRow.inPlace == Tryz.prog.inPlace 3) = true := by kernel_rfl
theorem q_unfollowed : (Rows.packSpecsRow.unfollowed == Tryz.prog.unfollowed 3) = true := by kernel_rfl
theorem q_recurses : (Rows.packSpecsRow.recurses == Tryz.prog.recurses 3) = true := by kernel_rfl
theorem q_named : (Rows.packSpecsRow.named == Tryz.prog.varsNamed 3) = true := by kernel_rfl
theorem jf : joinedFacts Tryz.prog 3 Tryz.f3 Rows.packSpecsSpec Rows.packSpecsRow = true := by
  unfold joinedFacts
  rw [q_inPlace, q_unfollowed, q_recurses, q_named]
  kernel_rfl
end Go.Proofs.YtpnkifincadakaaGreatDoor.Wr
end
