/-
  NARROWER THAN 'FOR EVERY INPUT', by the rows' own cells (each row's printed sentence says how): ShellWords: laid · ShellOwn: laid · ShellQuotes: laid · ShellJoins: laid.
  DERIVED. THE GIVEN ROWS OF THIS SEAT. 4 by the template 'for every input the law returns true; each argument reads behind the call as it read before'; 0 by the template 'total and deterministic' (their statements: YtecpdmoieoibnaaDoorTotals.lean).
  GIVEN WITH THE SEED: the statements are not yours to turn. If you find one false, say at which input.
  Laid BY PROGRAM, IN A SANDBOX (cutbox-rows.mjs): the forced cells as the released guide's own fill.sh prints them over the translation 52bb8b80f86cb40c… (all of the seat's roots in one cut). By AI agents, Wed Nov 11 2026. No macro, syntax, notation, axiom, sorry.
-/
import Derived.Test.YtecpdmoieoibnaaDoorChecked
import GoSem.Claim
import GoSem.ClaimJoined
import GoSem.ClaimMapViews
import Derived.JoinedTies
import Derived.KernelRfl
namespace Go.Proofs.YtecpdmoieoibnaaDoor
/- THE CELL 'sum', in the pinned program and in every row, IS THE sha256 OF THE DUMP (.gsa) THAT YtecpdmoieoibnaaDoorProg.lean LOADS. Nothing in Lean hashes anything: it is a label: what it is worth is what the hold of that sum in a sandbox is worth. -/
noncomputable def Tryd.pinned : Pinned := { name := "ytecpdmoieoibnaadoor", sum := "52bb8b80f86cb40cd5b8a54014cb4f46ef1f07cb231d644cf3822dd3dc1c8d88", checked := Tryd.checked }
namespace Rows
def none {H : Type} : Left H := { results := [], args := [] }

/- WHAT THE LISTED PACKAGE-LEVEL VARIABLES READ AS WHEN THE CALL BEGINS. Each datum BY PROGRAM (the guide's laid-datum.mjs) off the statement by which the dump's own 'gosem.cut.vars' lays the variable. In a bare row this is a premise. The card (YtecpdmoieoibnaaDoorCards.lean) ties it to the program's text. -/
def laid_graft_shell_escapes {H : Type} : DataW H := .agg [.agg [.lit (.int .u8 92), .lit (.int .u8 92)], .agg [.lit (.int .u8 34), .lit (.int .u8 34)], .agg [.lit (.int .u8 110), .lit (.int .u8 10)], .agg [.lit (.int .u8 116), .lit (.int .u8 9)]]

/-- 'graftlaw20.ShellWords': WHATEVER THE INPUT: true; the input reads as it did. -/
def shellWordsSpec : ChangeSpec := { name := "shellWords", fn := fun _ => fun
  | [d] => { results := [.lit (.bool true)], args := [d] }
  | _ => none }
def shellWordsRow : OpenClaim := { program := "ytecpdmoieoibnaadoor", sum := "52bb8b80f86cb40cd5b8a54014cb4f46ef1f07cb231d644cf3822dd3dc1c8d88", func := "graft/graftlaw20.ShellWords", spec := "shellWords", inPlace := ["internal/abi.NoEscape"], unfollowed := true, recurses := true, named := ["graft/shell.escapes"], apart := false, laid := [("graft/shell.escapes", laid_graft_shell_escapes)] }
def ShellWordsSaid : Prop := shellWordsRow.holds Tryd.pinned (OpenSpec.ofChange shellWordsSpec)

/-- ITS FALSE NEIGHBOUR: 'it returns false'. Refute it at one input. -/
def shellWordsWrong : ChangeSpec := { name := "shellWords", fn := fun _ => fun
  | [d] => { results := [.lit (.bool false)], args := [d] }
  | _ => none }
def ShellWordsWrongFalsely : Prop := shellWordsRow.holds Tryd.pinned (OpenSpec.ofChange shellWordsWrong)

/-- 'graftlaw20.ShellOwn': WHATEVER THE INPUT: true; the input reads as it did. -/
def shellOwnSpec : ChangeSpec := { name := "shellOwn", fn := fun _ => fun
  | [d] => { results := [.lit (.bool true)], args := [d] }
  | _ => none }
def shellOwnRow : OpenClaim := { program := "ytecpdmoieoibnaadoor", sum := "52bb8b80f86cb40cd5b8a54014cb4f46ef1f07cb231d644cf3822dd3dc1c8d88", func := "graft/graftlaw20.ShellOwn", spec := "shellOwn", inPlace := ["internal/abi.NoEscape"], unfollowed := true, recurses := true, named := ["graft/shell.escapes"], apart := false, laid := [("graft/shell.escapes", laid_graft_shell_escapes)] }
def ShellOwnSaid : Prop := shellOwnRow.holds Tryd.pinned (OpenSpec.ofChange shellOwnSpec)

/-- ITS FALSE NEIGHBOUR: 'it returns false'. Refute it at one input. -/
def shellOwnWrong : ChangeSpec := { name := "shellOwn", fn := fun _ => fun
  | [d] => { results := [.lit (.bool false)], args := [d] }
  | _ => none }
def ShellOwnWrongFalsely : Prop := shellOwnRow.holds Tryd.pinned (OpenSpec.ofChange shellOwnWrong)

/-- 'graftlaw20.ShellQuotes': WHATEVER THE INPUT: true; the input reads as it did. -/
def shellQuotesSpec : ChangeSpec := { name := "shellQuotes", fn := fun _ => fun
  | [d] => { results := [.lit (.bool true)], args := [d] }
  | _ => none }
def shellQuotesRow : OpenClaim := { program := "ytecpdmoieoibnaadoor", sum := "52bb8b80f86cb40cd5b8a54014cb4f46ef1f07cb231d644cf3822dd3dc1c8d88", func := "graft/graftlaw20.ShellQuotes", spec := "shellQuotes", inPlace := ["internal/abi.NoEscape"], unfollowed := true, recurses := true, named := ["graft/shell.escapes"], apart := false, laid := [("graft/shell.escapes", laid_graft_shell_escapes)] }
def ShellQuotesSaid : Prop := shellQuotesRow.holds Tryd.pinned (OpenSpec.ofChange shellQuotesSpec)

/-- ITS FALSE NEIGHBOUR: 'it returns false'. Refute it at one input. -/
def shellQuotesWrong : ChangeSpec := { name := "shellQuotes", fn := fun _ => fun
  | [d] => { results := [.lit (.bool false)], args := [d] }
  | _ => none }
def ShellQuotesWrongFalsely : Prop := shellQuotesRow.holds Tryd.pinned (OpenSpec.ofChange shellQuotesWrong)

/-- 'graftlaw20.ShellJoins': WHATEVER THE INPUT: true; the input reads as it did. -/
def shellJoinsSpec : ChangeSpec := { name := "shellJoins", fn := fun _ => fun
  | [d1, d2] => { results := [.lit (.bool true)], args := [d1, d2] }
  | _ => none }
def shellJoinsRow : OpenClaim := { program := "ytecpdmoieoibnaadoor", sum := "52bb8b80f86cb40cd5b8a54014cb4f46ef1f07cb231d644cf3822dd3dc1c8d88", func := "graft/graftlaw20.ShellJoins", spec := "shellJoins", inPlace := ["internal/abi.NoEscape"], unfollowed := true, recurses := true, named := ["graft/shell.escapes"], apart := false, laid := [("graft/shell.escapes", laid_graft_shell_escapes)] }
def ShellJoinsSaid : Prop := shellJoinsRow.holds Tryd.pinned (OpenSpec.ofChange shellJoinsSpec)

/-- ITS FALSE NEIGHBOUR: 'it returns false'. Refute it at one input. -/
def shellJoinsWrong : ChangeSpec := { name := "shellJoins", fn := fun _ => fun
  | [d1, d2] => { results := [.lit (.bool false)], args := [d1, d2] }
  | _ => none }
def ShellJoinsWrongFalsely : Prop := shellJoinsRow.holds Tryd.pinned (OpenSpec.ofChange shellJoinsWrong)

/- THE SECOND FORM. 'bulk': how many values and letters a reading holds, each counted each time it is reached (what is shared counts as often as it is met; a slice's spare places count too). A statement '..UptoSaid' is the law's where the arguments, and the package variables that the reading takes, are together of bulk at most 1048576: NARROWER than '..Said'. Prove '..Said' where nothing that the law and all that it calls make is longer than what came in: it says more and counts as full. Else prove '..UptoSaid'. A law counts once. -/
mutual
def uptoBulk {H : Type} : DataW H → Nat
  | .lit (.string bytes) => bytes.length + 1
  | .lit _ => 1
  | .nil => 1
  | .ptr d => uptoBulk d + 1
  | .slice elems spare => uptoBulkAll elems + uptoBulkAll spare + 1
  | .agg parts => uptoBulkAll parts + 1
  | .iface _ d => uptoBulk d + 1
  | .map entries => uptoBulkEntries entries + 1
  | .held _ => 1
def uptoBulkAll {H : Type} : List (DataW H) → Nat
  | [] => 0
  | d :: r => uptoBulk d + uptoBulkAll r
def uptoBulkEntries {H : Type} : List (Lit × DataW H) → Nat
  | [] => 0
  | x :: r => uptoBulkEntry x + uptoBulkEntries r
def uptoBulkEntry {H : Type} : Lit × DataW H → Nat
  | (.string bytes, d) => bytes.length + uptoBulk d + 1
  | (_, d) => uptoBulk d + 1
 end
def uptoSmall : (H : Type) → List (DataW H) → Bool := fun _ ds => decide (uptoBulkAll ds ≤ 1048576)
def OpenSpec.upto (s : _root_.Go.ChangeSpec) : _root_.Go.OpenSpec := { _root_.Go.OpenSpec.ofChange s with cond := some uptoSmall }

/-- 'graftlaw20.ShellWords', WHERE WHAT IT READS IS OF BULK AT MOST 1048576: true; the input reads as it did. -/
def shellWordsUptoRow : OpenClaim := { program := "ytecpdmoieoibnaadoor", sum := "52bb8b80f86cb40cd5b8a54014cb4f46ef1f07cb231d644cf3822dd3dc1c8d88", func := "graft/graftlaw20.ShellWords", spec := "shellWords", inPlace := ["internal/abi.NoEscape"], unfollowed := true, recurses := true, named := ["graft/shell.escapes"], apart := false, laid := [("graft/shell.escapes", laid_graft_shell_escapes)], narrowed := true }
def ShellWordsUptoSaid : Prop := shellWordsUptoRow.holds Tryd.pinned (OpenSpec.upto shellWordsSpec)

/-- 'graftlaw20.ShellOwn', WHERE WHAT IT READS IS OF BULK AT MOST 1048576: true; the input reads as it did. -/
def shellOwnUptoRow : OpenClaim := { program := "ytecpdmoieoibnaadoor", sum := "52bb8b80f86cb40cd5b8a54014cb4f46ef1f07cb231d644cf3822dd3dc1c8d88", func := "graft/graftlaw20.ShellOwn", spec := "shellOwn", inPlace := ["internal/abi.NoEscape"], unfollowed := true, recurses := true, named := ["graft/shell.escapes"], apart := false, laid := [("graft/shell.escapes", laid_graft_shell_escapes)], narrowed := true }
def ShellOwnUptoSaid : Prop := shellOwnUptoRow.holds Tryd.pinned (OpenSpec.upto shellOwnSpec)

/-- 'graftlaw20.ShellQuotes', WHERE WHAT IT READS IS OF BULK AT MOST 1048576: true; the input reads as it did. -/
def shellQuotesUptoRow : OpenClaim := { program := "ytecpdmoieoibnaadoor", sum := "52bb8b80f86cb40cd5b8a54014cb4f46ef1f07cb231d644cf3822dd3dc1c8d88", func := "graft/graftlaw20.ShellQuotes", spec := "shellQuotes", inPlace := ["internal/abi.NoEscape"], unfollowed := true, recurses := true, named := ["graft/shell.escapes"], apart := false, laid := [("graft/shell.escapes", laid_graft_shell_escapes)], narrowed := true }
def ShellQuotesUptoSaid : Prop := shellQuotesUptoRow.holds Tryd.pinned (OpenSpec.upto shellQuotesSpec)

/-- 'graftlaw20.ShellJoins', WHERE WHAT IT READS IS OF BULK AT MOST 1048576: true; the input reads as it did. -/
def shellJoinsUptoRow : OpenClaim := { program := "ytecpdmoieoibnaadoor", sum := "52bb8b80f86cb40cd5b8a54014cb4f46ef1f07cb231d644cf3822dd3dc1c8d88", func := "graft/graftlaw20.ShellJoins", spec := "shellJoins", inPlace := ["internal/abi.NoEscape"], unfollowed := true, recurses := true, named := ["graft/shell.escapes"], apart := false, laid := [("graft/shell.escapes", laid_graft_shell_escapes)], narrowed := true }
def ShellJoinsUptoSaid : Prop := shellJoinsUptoRow.holds Tryd.pinned (OpenSpec.upto shellJoinsSpec)

end Rows
end Go.Proofs.YtecpdmoieoibnaaDoor
