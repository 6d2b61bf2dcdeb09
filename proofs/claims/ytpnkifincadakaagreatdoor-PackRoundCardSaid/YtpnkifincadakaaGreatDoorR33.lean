/- Proved: part 33 of the proof of PackRound (Cr2, Cg1). Conditions: each theorem states its own. -/
import Derived.JoinedOf
import Derived.SevenTiedAt
import Derived.Test.YtpnkifincadakaaGreatDoorCards
import Derived.Test.YtpnkifincadakaaGreatDoorR31
import Derived.Test.YtpnkifincadakaaGreatDoorR32
set_option linter.unusedVariables false
set_option linter.unusedSimpArgs false
section
namespace Go.Proofs.YtpnkifincadakaaGreatDoor.Wr
open Go.ChangeShapes Go.WideShapes Go.ChangeAt Go.RowKit
theorem overR : Rows.PackRoundSaid :=
  OpenClaim.holds_of_wide 5 Tryz.f5 rfl rfl rfl rfl rfl rfl rfl ⟨rfl, rfl, rfl, rfl, rfl⟩ rfl rfl rfl rfl rfl (by kernel_rfl) Tryz.func5 jfr
    (of_decide_eq_true (by kernel_rfl)) (by unfold Func.isWrapper; first | (rw [if_pos (by decide +kernel)]; kernel_rfl) | (rw [if_neg (by decide +kernel)]; exact ⟨rfl, rfl⟩))
    (fun os started H enc _ => liftedR os started H enc)
end Go.Proofs.YtpnkifincadakaaGreatDoor.Wr
end
section
namespace Go.Proofs.YtpnkifincadakaaGreatDoor.Wr
open Go
theorem c_looks : true = Tryz.prog.looks [] := by kernel_rfl
end Go.Proofs.YtpnkifincadakaaGreatDoor.Wr
end
