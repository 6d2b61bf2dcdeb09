/- Proved: part 34 of the proof of PackReads (Cp2, Cg1). Conditions: each theorem states its own. -/
import Derived.JoinedOf
import Derived.SevenTiedAt
import Derived.Test.YtpnkifincadakaaGreatDoorCards
import Derived.Test.YtpnkifincadakaaGreatDoorP32
import Derived.Test.YtpnkifincadakaaGreatDoorP33
set_option linter.unusedVariables false
set_option linter.unusedSimpArgs false
section
namespace Go.Proofs.YtpnkifincadakaaGreatDoor.Wr
open Go.ChangeShapes Go.WideShapes Go.ChangeAt Go.RowKit
theorem overP : Rows.PackReadsSaid :=
  OpenClaim.holds_of_wide 4 Tryz.f4 rfl rfl rfl rfl rfl rfl rfl ⟨rfl, rfl, rfl, rfl, rfl⟩ rfl rfl rfl rfl rfl (by kernel_rfl) Tryz.func4 jfp
    (of_decide_eq_true (by kernel_rfl)) (by unfold Func.isWrapper; first | (rw [if_pos (by decide +kernel)]; kernel_rfl) | (rw [if_neg (by decide +kernel)]; exact ⟨rfl, rfl⟩))
    (fun os started H enc _ => liftedP os started H enc)
end Go.Proofs.YtpnkifincadakaaGreatDoor.Wr
end
section
namespace Go.Proofs.YtpnkifincadakaaGreatDoor.Wr
open Go
theorem c_looks : true = Tryz.prog.looks [] := by kernel_rfl
end Go.Proofs.YtpnkifincadakaaGreatDoor.Wr
end
