/- Proved: part 22 of the proof of PackReads (Head). Conditions: each theorem states its own. -/
import Derived.Test.YtpnkifincadakaaGreatDoorP21
set_option linter.unusedVariables false
set_option linter.unusedSimpArgs false
section
namespace Go.Am
open Go.Proofs Go.RowKit Go.Pk
def tabI : List Int := [0,498536548,997073096,651767980,1994146192,1802195444,1303535960,1342533948,3988292384,4027552580,3604390888,3412177804,2607071920,2262029012,2685067896,3183342108]
def tabV : List Value := tabI.map (Value.int .u32)
noncomputable def h0 : Heap := hpush (hpush (hpush (hpush (hpush ⟨0, .leaf⟩ (some (ofObj (.cells tabV.toArray 263)))) none) none) none) none
noncomputable def isTrue : Option (Value × Heap) → Bool
  | some (.bool true, _) => true
  | _ => false
set_option maxRecDepth 1000000 in
theorem headRuns : isTrue ((fns Tryz.prog 5 orcX orcDZ 3000).call 6 #[] h0) = true := by kernel_rfl
theorem isTrue_spec {r : Option (Value × Heap)} (h : isTrue r = true) : ∃ A, r = some (.bool true, A) := by
  unfold isTrue at h
  split at h
  · exact ⟨_, rfl⟩
  · cases h
end Go.Am
end
