/-
  No cell of these rows narrows 'for every input' (looked for: loops, veiled, ifaces, maps, wideKeys, modest, calm, conditions, laid).
  DERIVED. THE GIVEN ROWS OF THIS SEAT. 5 by the template 'for every input the law returns true; each argument reads behind the call as it read before'; 0 by the template 'total and deterministic' (their statements: YtecpdmoieoibnaaTotals.lean).
  GIVEN WITH THE SEED: the statements are not yours to turn. If you find one false, say at which input.
  Laid BY PROGRAM, IN A SANDBOX (cutbox-rows.mjs): the forced cells as the released guide's own fill.sh prints them over the translation 7919d26d50403a5f… (all of the seat's roots in one cut). By AI agents, Wed Nov 11 2026. No macro, syntax, notation, axiom, sorry.
-/
import Derived.Test.YtecpdmoieoibnaaChecked
import GoSem.Claim
import GoSem.ClaimJoined
import GoSem.ClaimMapViews
import Derived.JoinedTies
import Derived.KernelRfl
namespace Go.Proofs.Ytecpdmoieoibnaa
/- THE CELL 'sum', in the pinned program and in every row, IS THE sha256 OF THE DUMP (.gsa) THAT YtecpdmoieoibnaaProg.lean LOADS. Nothing in Lean hashes anything: it is a label: what it is worth is what the hold of that sum in a sandbox is worth. -/
noncomputable def Try.pinned : Pinned := { name := "ytecpdmoieoibnaa", sum := "7919d26d50403a5f5b15ddff16bde0f0bcd2bf6e0bb4cfddc304e15225ae31fa", checked := Try.checked }
namespace Rows
def none {H : Type} : Left H := { results := [], args := [] }

/-- 'graftlaw13.EngineNames': WHATEVER THE INPUT: true; the input reads as it did. -/
def engineNamesSpec : ChangeSpec := { name := "engineNames", fn := fun _ => fun
  | [] => { results := [.lit (.bool true)], args := [] }
  | _ => none }
def engineNamesRow : OpenClaim := { program := "ytecpdmoieoibnaa", sum := "7919d26d50403a5f5b15ddff16bde0f0bcd2bf6e0bb4cfddc304e15225ae31fa", func := "graft/graftlaw13.EngineNames", spec := "engineNames", apart := false }
def EngineNamesSaid : Prop := engineNamesRow.holds Try.pinned (OpenSpec.ofChange engineNamesSpec)

/-- ITS FALSE NEIGHBOUR: 'it returns false'. Refute it at one input. -/
def engineNamesWrong : ChangeSpec := { name := "engineNames", fn := fun _ => fun
  | [] => { results := [.lit (.bool false)], args := [] }
  | _ => none }
def EngineNamesWrongFalsely : Prop := engineNamesRow.holds Try.pinned (OpenSpec.ofChange engineNamesWrong)

/-- 'graftlaw18.PackNames': WHATEVER THE INPUT: true; the input reads as it did. -/
def packNamesSpec : ChangeSpec := { name := "packNames", fn := fun _ => fun
  | [] => { results := [.lit (.bool true)], args := [] }
  | _ => none }
def packNamesRow : OpenClaim := { program := "ytecpdmoieoibnaa", sum := "7919d26d50403a5f5b15ddff16bde0f0bcd2bf6e0bb4cfddc304e15225ae31fa", func := "graft/graftlaw18.PackNames", spec := "packNames", apart := false }
def PackNamesSaid : Prop := packNamesRow.holds Try.pinned (OpenSpec.ofChange packNamesSpec)

/-- ITS FALSE NEIGHBOUR: 'it returns false'. Refute it at one input. -/
def packNamesWrong : ChangeSpec := { name := "packNames", fn := fun _ => fun
  | [] => { results := [.lit (.bool false)], args := [] }
  | _ => none }
def PackNamesWrongFalsely : Prop := packNamesRow.holds Try.pinned (OpenSpec.ofChange packNamesWrong)

/-- 'graftlaw19.DeskNames': WHATEVER THE INPUT: true; the input reads as it did. -/
def deskNamesSpec : ChangeSpec := { name := "deskNames", fn := fun _ => fun
  | [] => { results := [.lit (.bool true)], args := [] }
  | _ => none }
def deskNamesRow : OpenClaim := { program := "ytecpdmoieoibnaa", sum := "7919d26d50403a5f5b15ddff16bde0f0bcd2bf6e0bb4cfddc304e15225ae31fa", func := "graft/graftlaw19.DeskNames", spec := "deskNames", apart := false }
def DeskNamesSaid : Prop := deskNamesRow.holds Try.pinned (OpenSpec.ofChange deskNamesSpec)

/-- ITS FALSE NEIGHBOUR: 'it returns false'. Refute it at one input. -/
def deskNamesWrong : ChangeSpec := { name := "deskNames", fn := fun _ => fun
  | [] => { results := [.lit (.bool false)], args := [] }
  | _ => none }
def DeskNamesWrongFalsely : Prop := deskNamesRow.holds Try.pinned (OpenSpec.ofChange deskNamesWrong)

/-- 'graftlaw16.PaintNames': WHATEVER THE INPUT: true; the input reads as it did. -/
def paintNamesSpec : ChangeSpec := { name := "paintNames", fn := fun _ => fun
  | [] => { results := [.lit (.bool true)], args := [] }
  | _ => none }
def paintNamesRow : OpenClaim := { program := "ytecpdmoieoibnaa", sum := "7919d26d50403a5f5b15ddff16bde0f0bcd2bf6e0bb4cfddc304e15225ae31fa", func := "graft/graftlaw16.PaintNames", spec := "paintNames", apart := false }
def PaintNamesSaid : Prop := paintNamesRow.holds Try.pinned (OpenSpec.ofChange paintNamesSpec)

/-- ITS FALSE NEIGHBOUR: 'it returns false'. Refute it at one input. -/
def paintNamesWrong : ChangeSpec := { name := "paintNames", fn := fun _ => fun
  | [] => { results := [.lit (.bool false)], args := [] }
  | _ => none }
def PaintNamesWrongFalsely : Prop := paintNamesRow.holds Try.pinned (OpenSpec.ofChange paintNamesWrong)

/-- 'graftlaw20.ShellNames': WHATEVER THE INPUT: true; the input reads as it did. -/
def shellNamesSpec : ChangeSpec := { name := "shellNames", fn := fun _ => fun
  | [] => { results := [.lit (.bool true)], args := [] }
  | _ => none }
def shellNamesRow : OpenClaim := { program := "ytecpdmoieoibnaa", sum := "7919d26d50403a5f5b15ddff16bde0f0bcd2bf6e0bb4cfddc304e15225ae31fa", func := "graft/graftlaw20.ShellNames", spec := "shellNames", apart := false }
def ShellNamesSaid : Prop := shellNamesRow.holds Try.pinned (OpenSpec.ofChange shellNamesSpec)

/-- ITS FALSE NEIGHBOUR: 'it returns false'. Refute it at one input. -/
def shellNamesWrong : ChangeSpec := { name := "shellNames", fn := fun _ => fun
  | [] => { results := [.lit (.bool false)], args := [] }
  | _ => none }
def ShellNamesWrongFalsely : Prop := shellNamesRow.holds Try.pinned (OpenSpec.ofChange shellNamesWrong)

/- THE SECOND FORM. 'bulk': how many values and letters a reading holds, each counted each time it is reached (what is shared counts as often as it is met; a slice's spare places count too). A statement '..UptoSaid' is the law's where the arguments, and the package variables that the reading takes, are together of bulk at most 1048576: NARROWER than '..Said'. Prove '..Said' where nothing that the law and all that it calls make is longer than what came in: it says more and counts as full. Else prove '..UptoSaid'. A law counts once. -/
mutual
def uptoBulk {H : Type} : DataW H → Nat
  | .lit (.string bytes) => bytes.length + 1
  | .lit _ => 1
  | .nil => 1
  | .ptr d => uptoBulk d + 1
  | .slice elems spare => uptoBulkAll elems + uptoBulkAll spare + 1
  | .agg parts => uptoBulkAll parts + 1
  | .iface _ d => uptoBulk d + 1
  | .map entries => uptoBulkEntries entries + 1
  | .held _ => 1
def uptoBulkAll {H : Type} : List (DataW H) → Nat
  | [] => 0
  | d :: r => uptoBulk d + uptoBulkAll r
def uptoBulkEntries {H : Type} : List (Lit × DataW H) → Nat
  | [] => 0
  | x :: r => uptoBulkEntry x + uptoBulkEntries r
def uptoBulkEntry {H : Type} : Lit × DataW H → Nat
  | (.string bytes, d) => bytes.length + uptoBulk d + 1
  | (_, d) => uptoBulk d + 1
 end
def uptoSmall : (H : Type) → List (DataW H) → Bool := fun _ ds => decide (uptoBulkAll ds ≤ 1048576)
def OpenSpec.upto (s : _root_.Go.ChangeSpec) : _root_.Go.OpenSpec := { _root_.Go.OpenSpec.ofChange s with cond := some uptoSmall }

/-- 'graftlaw13.EngineNames', WHERE WHAT IT READS IS OF BULK AT MOST 1048576: true; the input reads as it did. -/
def engineNamesUptoRow : OpenClaim := { program := "ytecpdmoieoibnaa", sum := "7919d26d50403a5f5b15ddff16bde0f0bcd2bf6e0bb4cfddc304e15225ae31fa", func := "graft/graftlaw13.EngineNames", spec := "engineNames", apart := false, narrowed := true }
def EngineNamesUptoSaid : Prop := engineNamesUptoRow.holds Try.pinned (OpenSpec.upto engineNamesSpec)

/-- 'graftlaw18.PackNames', WHERE WHAT IT READS IS OF BULK AT MOST 1048576: true; the input reads as it did. -/
def packNamesUptoRow : OpenClaim := { program := "ytecpdmoieoibnaa", sum := "7919d26d50403a5f5b15ddff16bde0f0bcd2bf6e0bb4cfddc304e15225ae31fa", func := "graft/graftlaw18.PackNames", spec := "packNames", apart := false, narrowed := true }
def PackNamesUptoSaid : Prop := packNamesUptoRow.holds Try.pinned (OpenSpec.upto packNamesSpec)

/-- 'graftlaw19.DeskNames', WHERE WHAT IT READS IS OF BULK AT MOST 1048576: true; the input reads as it did. -/
def deskNamesUptoRow : OpenClaim := { program := "ytecpdmoieoibnaa", sum := "7919d26d50403a5f5b15ddff16bde0f0bcd2bf6e0bb4cfddc304e15225ae31fa", func := "graft/graftlaw19.DeskNames", spec := "deskNames", apart := false, narrowed := true }
def DeskNamesUptoSaid : Prop := deskNamesUptoRow.holds Try.pinned (OpenSpec.upto deskNamesSpec)

/-- 'graftlaw16.PaintNames', WHERE WHAT IT READS IS OF BULK AT MOST 1048576: true; the input reads as it did. -/
def paintNamesUptoRow : OpenClaim := { program := "ytecpdmoieoibnaa", sum := "7919d26d50403a5f5b15ddff16bde0f0bcd2bf6e0bb4cfddc304e15225ae31fa", func := "graft/graftlaw16.PaintNames", spec := "paintNames", apart := false, narrowed := true }
def PaintNamesUptoSaid : Prop := paintNamesUptoRow.holds Try.pinned (OpenSpec.upto paintNamesSpec)

/-- 'graftlaw20.ShellNames', WHERE WHAT IT READS IS OF BULK AT MOST 1048576: true; the input reads as it did. -/
def shellNamesUptoRow : OpenClaim := { program := "ytecpdmoieoibnaa", sum := "7919d26d50403a5f5b15ddff16bde0f0bcd2bf6e0bb4cfddc304e15225ae31fa", func := "graft/graftlaw20.ShellNames", spec := "shellNames", apart := false, narrowed := true }
def ShellNamesUptoSaid : Prop := shellNamesUptoRow.holds Try.pinned (OpenSpec.upto shellNamesSpec)

end Rows
end Go.Proofs.Ytecpdmoieoibnaa
