/- Proved: part 35 of the proof of PackRound (Cgr3, Cr3). Conditions: each theorem states its own. -/
import Derived.SevenTiedAt
import Derived.Test.YtpnkifincadakaaGreatDoorCards
import Derived.Test.YtpnkifincadakaaGreatDoorR33
import Derived.Test.YtpnkifincadakaaGreatDoorR34
set_option linter.unusedVariables false
set_option linter.unusedSimpArgs false
section
namespace Go.Proofs.YtpnkifincadakaaGreatDoor.Wr
open Go
theorem r_wf : Rows.packRoundRow.wfByText (OpenSpec.ofChange Rows.packRoundSpec) = true := by kernel_rfl
theorem r_main : Tryz.prog.mainIs = some (true, "17d6701856d421e3136610bc099c6b5cdf414b40a991d14579584bafa2395863".toList) := by kernel_rfl
theorem r_stand : Tryz.prog.wantsStandIn 28 = false := by kernel_rfl
theorem r_func : Tryz.prog.funcNamed "graft/graftlaw18.PackRound" = some 5 := by kernel_rfl
end Go.Proofs.YtpnkifincadakaaGreatDoor.Wr
end
section
namespace Go.Proofs.YtpnkifincadakaaGreatDoor.Wr
open Go
theorem provedR : Rows.PackRoundCardSaid :=
  Claim7.holds_tied_plain_at .later [] [.data, .data, .data, .data] true (true, "17d6701856d421e3136610bc099c6b5cdf414b40a991d14579584bafa2395863") true
    overR (fun _ h => by cases h) r_wf (fun _ h => by cases h) packRound_row_tie rfl ⟨rfl, rfl⟩ r_main rfl
    (fun f fn hf hfn => by
      obtain rfl : f = 5 := Option.some.inj (r_func.symm.trans hf) |>.symm
      obtain rfl : fn = Tryz.f5 := (Option.some.inj (Tryz.func5.symm.trans hfn)).symm
      exact ⟨c_looks, fun j t ht => by
        rw [Tryz.params5] at ht
        have h3 : t = 28 := by
          rcases j with _ | j
          · simpa using ht.symm
          · simp at ht
        subst h3
        exact r_stand⟩)
    r_goes
end Go.Proofs.YtpnkifincadakaaGreatDoor.Wr
end
