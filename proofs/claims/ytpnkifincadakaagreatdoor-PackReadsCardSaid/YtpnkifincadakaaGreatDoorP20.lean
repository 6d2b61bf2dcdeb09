/- Proved: part 20 of the proof of PackReads (MemoB). Conditions: each theorem states its own. -/
import Derived.Test.YtpnkifincadakaaGreatDoorP19
set_option linter.unusedVariables false
set_option linter.unusedSimpArgs false
section
namespace Go.Am.Memo
open Go.Am Go.Proofs
set_option maxRecDepth 1000000 in
theorem run53 : (fns Tryz.prog 5 orcY orcDZ 2990).call 53 #[.slice none 0 0] before = some (res, after) := by kernel_rfl
end Go.Am.Memo
end
