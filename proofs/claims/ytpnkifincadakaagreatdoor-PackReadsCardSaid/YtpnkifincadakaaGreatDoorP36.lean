/- Proved: part 36 of the proof of PackReads (Cgp3, Cp3). Conditions: each theorem states its own. -/
import Derived.SevenTiedAt
import Derived.Test.YtpnkifincadakaaGreatDoorCards
import Derived.Test.YtpnkifincadakaaGreatDoorP34
import Derived.Test.YtpnkifincadakaaGreatDoorP35
set_option linter.unusedVariables false
set_option linter.unusedSimpArgs false
section
namespace Go.Proofs.YtpnkifincadakaaGreatDoor.Wr
open Go
theorem p_wf : Rows.packReadsRow.wfByText (OpenSpec.ofChange Rows.packReadsSpec) = true := by kernel_rfl
theorem p_main : Tryz.prog.mainIs = some (true, "17d6701856d421e3136610bc099c6b5cdf414b40a991d14579584bafa2395863".toList) := by kernel_rfl
theorem p_stand : Tryz.prog.wantsStandIn 44 = false := by kernel_rfl
theorem p_stand4 : Tryz.prog.wantsStandIn 4 = false := by kernel_rfl
theorem p_func : Tryz.prog.funcNamed "graft/graftlaw18.PackReads" = some 4 := by kernel_rfl
end Go.Proofs.YtpnkifincadakaaGreatDoor.Wr
end
section
namespace Go.Proofs.YtpnkifincadakaaGreatDoor.Wr
open Go
theorem provedP : Rows.PackReadsCardSaid :=
  Claim7.holds_tied_plain_at .later [] [.data, .data, .data, .data] true (true, "17d6701856d421e3136610bc099c6b5cdf414b40a991d14579584bafa2395863") true
    overP (fun _ h => by cases h) p_wf (fun _ h => by cases h) packReads_row_tie rfl ⟨rfl, rfl⟩ p_main rfl
    (fun f fn hf hfn => by
      obtain rfl : f = 4 := Option.some.inj (p_func.symm.trans hf) |>.symm
      obtain rfl : fn = Tryz.f4 := (Option.some.inj (Tryz.func4.symm.trans hfn)).symm
      exact ⟨c_looks, fun j t ht => by
        rw [Tryz.params4] at ht
        have h3 : t = 44 ∨ t = 4 := by
          rcases j with _ | _ | j
          · exact .inl (by simpa using ht.symm)
          · exact .inr (by simpa using ht.symm)
          · simp at ht
        rcases h3 with rfl | rfl
        · exact p_stand
        · exact p_stand4⟩)
    p_goes
end Go.Proofs.YtpnkifincadakaaGreatDoor.Wr
end
