/- Proved: graftlaw20.marked gives one text for each number. Conditions: none. -/
import Derived.Test.YtecpdmoieoibnaaDoorOw2
import Derived.Test.YtecpdmoieoibnaaDoorPShellOwnx2
set_option linter.unusedVariables false
set_option linter.unusedSimpArgs false
namespace Go.Proofs.YtecpdmoieoibnaaDoor.Ow
open Go.RowKit Go.Lib Go.Proofs.YtecpdmoieoibnaaDoorW.PrintWords

theorem wrap_small (n : Nat) (h : n < 1000000) : wrap64 (n : Int) = (n : Int) := by unfold wrap64; omega
theorem marked_some : ∀ (d : Nat) (n : Nat), d < 100 → n < 10 ^ (d + 1) → n < 1000000 → ∃ r, PShellOwn.graftlaw20_marked.f (d + 1) (n : Int) = some r ∧ r.size ≤ d + 1
  | 0, n, hd, h, h1 => by
    have hn : (n : Int) < 10 := by omega
    unfold PShellOwn.graftlaw20_marked.f
    rw [if_pos hn]
    exact ⟨_, rfl, Nat.le_refl _⟩
  | d + 1, n, hd, h, h1 => by
    by_cases hn : (n : Int) < 10
    · unfold PShellOwn.graftlaw20_marked.f
      rw [if_pos hn]
      exact ⟨_, rfl, by show 1 ≤ _; omega⟩
    · have e : wrap64 (Int.tdiv (n : Int) 10) = ((n / 10 : Nat) : Int) := by
        have e1 : Int.tdiv (n : Int) 10 = ((n / 10 : Nat) : Int) := by
          rw [Int.tdiv_eq_ediv_of_nonneg (by omega)]; omega
        rw [e1, wrap_small _ (by omega)]
      obtain ⟨r, hr, hs⟩ := marked_some d (n / 10) (by omega) (by have : 10 ^ (d + 1 + 1) = 10 ^ (d + 1) * 10 := Nat.pow_succ ..; omega) (by omega)
      unfold PShellOwn.graftlaw20_marked.f
      rw [if_neg hn, e, hr]
      have h1' : (strOfNums (([(wrap64 (48 + (Int.tmod (n : Int) 10))) % 256] : List Int))).size = 1 := rfl
      refine ⟨r ++ strOfNums (([(wrap64 (48 + (Int.tmod (n : Int) 10))) % 256] : List Int)), ?_, ?_⟩
      · simp only [Option.bind_some]
        rw [if_pos (by rw [h1']; omega)]
      · rw [ByteArray.size_append, h1']
        omega
theorem marks : ∃ M : Nat → ByteArray, ∀ n : Nat, n < 100000 → (M n).size ≤ 10 ∧ ∀ w, Calls Tryd.prog 10 #[.int .i64 (n : Int)] w fun e w' => e = .returned (.string (M n)) ∧ Below w.heap.size w w' := by
  have h : ∀ n : Nat, ∃ r : ByteArray, n < 100000 → r.size ≤ 10 ∧ ∀ w, Calls Tryd.prog 10 #[.int .i64 (n : Int)] w fun e w' => e = .returned (.string r) ∧ Below w.heap.size w w' := fun n => by
    by_cases hn : n < 100000
    · obtain ⟨r, hr, hs⟩ := marked_some 5 n (by omega) (by omega) (by omega)
      exact ⟨r, fun _ => ⟨by omega, fun w => PShellOwn.graftlaw20_marked.calls _ n r w hr⟩⟩
    · exact ⟨⟨#[]⟩, fun h => absurd h hn⟩
  exact ⟨fun n => Classical.choose (h n), fun n => Classical.choose_spec (h n)⟩
end Go.Proofs.YtecpdmoieoibnaaDoor.Ow
