/- Proved: where the variable escapes reads as listed, its cells are the eight that the walks use; a world that meets the condition. Conditions: none. -/
import Derived.Test.YtecpdmoieoibnaaDoorRows
import Derived.Test.YtecpdmoieoibnaaDoorSh2
import Derived.ChangeSame
import Derived.ChangeVars
import Derived.JoinedOf
import Derived.RowKit
import Derived.RowKitTokens
import Derived.LaidLaws
import Derived.LaidHandle
import Derived.OpenShut
import Derived.ProofKit
set_option linter.unusedVariables false
set_option linter.unusedSimpArgs false
namespace Go.Proofs.YtecpdmoieoibnaaDoor.Ld
open Go.ChangeShapes Go.WideShapes Go.RowKit
open Go.Proofs.YtecpdmoieoibnaaDoor.Sh (EscVar escCells)

theorem own : ownKnob Tryd.prog.godebug = none := by kernel_rfl
theorem glob : Tryd.prog.globalNamed "graft/shell.escapes" = some 0 := by kernel_rfl
theorem globType : (Tryd.prog.globals[0]?).map (·.type) = some 61 := by kernel_rfl
theorem cells61 : Tryd.prog.cellsOf 61 = 8 := by kernel_rfl
theorem cells60 : Tryd.prog.cellsOf 60 = 2 := by kernel_rfl
theorem cells5 : Tryd.prog.cellsOf 5 = 1 := by kernel_rfl

theorem int_of_trod {H : Type} {enc : TypeId × Value → H} {P : Program} {w : World} {base : Nat} {sp : Nat → Bool} {held : Bool} {fuel : Nat} {t : TypeId} {k : IntKind} {c : Value} {y : DataW H × List MemPlace}
    (ht : P.underlying t = some (.int k)) (h : DataW.trod enc P w base sp held fuel t [c] = some y) : ∃ n, c = .int k n ∧ y = (.lit (.int k n), []) := by
  cases fuel with
  | zero => simp [DataW.trod] at h
  | succ fuel =>
    cases c <;> simp [DataW.trod, ht] at h
    rename_i k' n
    obtain ⟨⟨rfl, _⟩, rfl⟩ := h
    exact ⟨n, rfl, rfl⟩
theorem pair_of_trod {H : Type} {enc : TypeId × Value → H} {w : World} {base : Nat} {sp : Nat → Bool} {held : Bool} {fuel : Nat} {a b : Value} {y : DataW H × List MemPlace}
    (h : DataW.trod enc Tryd.prog w base sp held fuel 60 [a, b] = some y) : ∃ m n, a = .int .u8 m ∧ b = .int .u8 n ∧ y = (.agg [.lit (.int .u8 m), .lit (.int .u8 n)], []) := by
  cases fuel with
  | zero => simp [DataW.trod] at h
  | succ fuel =>
    simp only [DataW.trod, Tryd.underlying60, cells60, cells5] at h
    simp [Option.bind_eq_some_iff] at h
    obtain ⟨d0, p0, h0, _, ⟨d1, p1, h1, rfl⟩, rfl⟩ := h
    rw [cells5] at h0 h1
    obtain ⟨m, rfl, e0⟩ := int_of_trod Tryd.underlying5 (by simpa using h0)
    obtain ⟨n, rfl, e1⟩ := int_of_trod Tryd.underlying5 (by simpa using h1)
    cases e0
    cases e1
    exact ⟨m, n, rfl, rfl, rfl⟩
theorem esc_of_laid {W : World} (h : laidMet Tryd.prog [("graft/shell.escapes", Rows.laid_graft_shell_escapes)] W) : EscVar W := by
  obtain ⟨ps, ⟨g, t, cs, fuel, p, q, hg, ht, hvar, hd, _, _⟩, _⟩ := h
  obtain rfl := Option.some.inj (glob.symm.trans hg)
  obtain rfl := Option.some.inj (globType.symm.trans ht)
  have key : cs = escCells.toArray := by
    obtain ⟨l⟩ := cs
    cases fuel with
    | zero => simp [DataW.trod] at hd
    | succ fuel =>
      simp only [DataW.trod, Tryd.underlying61, cells61, cells60] at hd
      split at hd
      · rename_i hl
        obtain ⟨c0, c1, c2, c3, c4, c5, c6, c7, rfl⟩ : ∃ c0 c1 c2 c3 c4 c5 c6 c7, l = [c0, c1, c2, c3, c4, c5, c6, c7] := by
          match l, hl with
          | [a, b, c, d, e, f, g, h], _ => exact ⟨a, b, c, d, e, f, g, h, rfl⟩
        have e : List.range 4 = [0, 1, 2, 3] := rfl
        rw [e] at hd
        simp only [Option.map_eq_some_iff, List.mapM_cons, List.mapM_nil, Option.bind_eq_bind, Option.bind_eq_some_iff, Option.pure_def, Option.some.injEq] at hd
        obtain ⟨xs, ⟨y0, h0, _, ⟨y1, h1, _, ⟨y2, h2, _, ⟨y3, h3, _, rfl, rfl⟩, rfl⟩, rfl⟩, rfl⟩, hx⟩ := hd
        obtain ⟨n0, m0, rfl, rfl, rfl⟩ := pair_of_trod h0
        obtain ⟨n1, m1, rfl, rfl, rfl⟩ := pair_of_trod h1
        obtain ⟨n2, m2, rfl, rfl, rfl⟩ := pair_of_trod h2
        obtain ⟨n3, m3, rfl, rfl, rfl⟩ := pair_of_trod h3
        simp [Rows.laid_graft_shell_escapes] at hx
        obtain ⟨⟨⟨rfl, rfl⟩, ⟨rfl, rfl⟩, ⟨rfl, rfl⟩, ⟨rfl, rfl⟩⟩, _⟩ := hx
        rfl
      · cases hd
  subst key
  intro j v hj
  have e : ((⟨0, 0, none⟩ : Addr).add j) = ⟨0, j, none⟩ := by unfold Addr.add; split <;> simp_all
  rw [e, World.var?_cell hg hvar j]
  simpa using hj

/-- A world that meets the condition: the settled one, the variable's cells laid. -/
noncomputable def laidWorld (os : Os) : World :=
  { World.holding Tryd.prog os ⟨#[], #[], []⟩ with heap := (World.holding Tryd.prog os ⟨#[], #[], []⟩).heap.modify 0 fun
      | .cells _ t frozen => .cells escCells.toArray t frozen
      | o => o }
theorem laidWorld_row (os : Os) (args : Array Value) : ((laidWorld os).forCall (fun _ _ => 0) ⟨#[], args, []⟩).memory.heap[0]? = some (.cells escCells.toArray 61 (0, 0)) := by kernel_rfl
theorem laidWorld_met (os : Os) (args : Array Value) : laidMet Tryd.prog [("graft/shell.escapes", Rows.laid_graft_shell_escapes)] ((laidWorld os).forCall (fun _ _ => 0) ⟨#[], args, []⟩).memory :=
  ⟨_, ⟨0, 61, escCells.toArray, 8, [], [], by kernel_rfl, by kernel_rfl, by kernel_rfl, by kernel_rfl, rfl, rfl⟩, by decide, fun b off h => by
    have h' : MemPlace.cell b off ∈ [MemPlace.cell 0 0, .cell 0 1, .cell 0 2, .cell 0 3, .cell 0 4, .cell 0 5, .cell 0 6, .cell 0 7] := h
    have hb : b = 0 := by
      simp at h'
      omega
    subst hb
    refine ⟨⟨_, _, laidWorld_row os args⟩, fun u v hc => ?_⟩
    simp only [World.cell?, laidWorld_row os args] at hc
    simp at h'
    rcases h' with rfl | rfl | rfl | rfl | rfl | rfl | rfl | rfl <;> simp [escCells] at hc⟩
end Go.Proofs.YtecpdmoieoibnaaDoor.Ld
