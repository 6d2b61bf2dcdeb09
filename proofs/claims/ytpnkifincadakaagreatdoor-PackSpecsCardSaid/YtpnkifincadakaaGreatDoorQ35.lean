/- Proved: part 35 of the proof of PackSpecs (Cg3, Cd3). Conditions: each theorem states its own. -/
import Derived.SevenTiedAt
import Derived.Test.YtpnkifincadakaaGreatDoorCards
import Derived.Test.YtpnkifincadakaaGreatDoorQ33
import Derived.Test.YtpnkifincadakaaGreatDoorQ34
set_option linter.unusedVariables false
set_option linter.unusedSimpArgs false
section
namespace Go.Proofs.YtpnkifincadakaaGreatDoor.Wr
open Go
theorem c_wf : Rows.packSpecsRow.wfByText (OpenSpec.ofChange Rows.packSpecsSpec) = true := by kernel_rfl
theorem c_main : Tryz.prog.mainIs = some (true, "17d6701856d421e3136610bc099c6b5cdf414b40a991d14579584bafa2395863".toList) := by kernel_rfl
theorem c_stand : Tryz.prog.wantsStandIn 22 = false := by kernel_rfl
theorem c_func : Tryz.prog.funcNamed "graft/graftlaw18.PackSpecs" = some 3 := by kernel_rfl
end Go.Proofs.YtpnkifincadakaaGreatDoor.Wr
end
section
namespace Go.Proofs.YtpnkifincadakaaGreatDoor.Wr
open Go
theorem proved : Rows.PackSpecsCardSaid :=
  Claim7.holds_tied_plain_at .later [] [.data, .data, .data, .data] true (true, "17d6701856d421e3136610bc099c6b5cdf414b40a991d14579584bafa2395863") true
    over (fun _ h => by cases h) c_wf (fun _ h => by cases h) packSpecs_row_tie rfl ⟨rfl, rfl⟩ c_main rfl
    (fun f fn hf hfn => by
      obtain rfl : f = 3 := Option.some.inj (c_func.symm.trans hf) |>.symm
      obtain rfl : fn = Tryz.f3 := (Option.some.inj (Tryz.func3.symm.trans hfn)).symm
      exact ⟨c_looks, fun j t ht => by
        rw [Tryz.params3] at ht
        have h3 : t = 22 := by
          rcases j with _ | j
          · simpa using ht.symm
          · simp at ht
        subst h3
        exact c_stand⟩)
    c_goes
end Go.Proofs.YtpnkifincadakaaGreatDoor.Wr
end
