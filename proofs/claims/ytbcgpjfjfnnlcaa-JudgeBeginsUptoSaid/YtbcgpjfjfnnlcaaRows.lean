/-
  No cell of these rows narrows 'for every input' (looked for: loops, veiled, ifaces, maps, wideKeys, modest, calm, conditions, laid).
  DERIVED. THE GIVEN ROWS OF THIS SEAT. 3 by the template 'for every input the law returns true; each argument reads behind the call as it read before'; 0 by the template 'total and deterministic' (their statements: YtbcgpjfjfnnlcaaTotals.lean).
  GIVEN WITH THE SEED: the statements are not yours to turn. If you find one false, say at which input.
  Laid BY PROGRAM, IN A SANDBOX (cutbox-rows.mjs): the forced cells as the released guide's own fill.sh prints them over the translation f01a04875c8bdcb2… (all of the seat's roots in one cut). By AI agents, Wed Nov 11 2026. No macro, syntax, notation, axiom, sorry.
-/
import Derived.Test.YtbcgpjfjfnnlcaaChecked
import GoSem.Claim
import GoSem.ClaimJoined
import GoSem.ClaimMapViews
import Derived.JoinedTies
import Derived.KernelRfl
namespace Go.Proofs.Ytbcgpjfjfnnlcaa
/- THE CELL 'sum', in the pinned program and in every row, IS THE sha256 OF THE DUMP (.gsa) THAT YtbcgpjfjfnnlcaaProg.lean LOADS. Nothing in Lean hashes anything: it is a label: what it is worth is what the hold of that sum in a sandbox is worth. -/
noncomputable def Try.pinned : Pinned := { name := "ytbcgpjfjfnnlcaa", sum := "f01a04875c8bdcb2cfef49f8f203307a8a8943f34470fede2f6f552507999962", checked := Try.checked }
namespace Rows
def none {H : Type} : Left H := { results := [], args := [] }

/-- 'platenlaw21.JudgeAll': WHATEVER THE INPUT: true; the input reads as it did. -/
def judgeAllSpec : ChangeSpec := { name := "judgeAll", fn := fun _ => fun
  | [d1, d2, d3] => { results := [.lit (.bool true)], args := [d1, d2, d3] }
  | _ => none }
def judgeAllRow : OpenClaim := { program := "ytbcgpjfjfnnlcaa", sum := "f01a04875c8bdcb2cfef49f8f203307a8a8943f34470fede2f6f552507999962", func := "platen/platenlaw21.JudgeAll", spec := "judgeAll", unfollowed := true, recurses := true, apart := false }
def JudgeAllSaid : Prop := judgeAllRow.holds Try.pinned (OpenSpec.ofChange judgeAllSpec)

/-- ITS FALSE NEIGHBOUR: 'it returns false'. Refute it at one input. -/
def judgeAllWrong : ChangeSpec := { name := "judgeAll", fn := fun _ => fun
  | [d1, d2, d3] => { results := [.lit (.bool false)], args := [d1, d2, d3] }
  | _ => none }
def JudgeAllWrongFalsely : Prop := judgeAllRow.holds Try.pinned (OpenSpec.ofChange judgeAllWrong)

/-- 'platenlaw21.JudgeMoved': WHATEVER THE INPUT: true; the input reads as it did. -/
def judgeMovedSpec : ChangeSpec := { name := "judgeMoved", fn := fun _ => fun
  | [d1, d2, d3, d4] => { results := [.lit (.bool true)], args := [d1, d2, d3, d4] }
  | _ => none }
def judgeMovedRow : OpenClaim := { program := "ytbcgpjfjfnnlcaa", sum := "f01a04875c8bdcb2cfef49f8f203307a8a8943f34470fede2f6f552507999962", func := "platen/platenlaw21.JudgeMoved", spec := "judgeMoved", unfollowed := true, recurses := true, apart := false }
def JudgeMovedSaid : Prop := judgeMovedRow.holds Try.pinned (OpenSpec.ofChange judgeMovedSpec)

/-- ITS FALSE NEIGHBOUR: 'it returns false'. Refute it at one input. -/
def judgeMovedWrong : ChangeSpec := { name := "judgeMoved", fn := fun _ => fun
  | [d1, d2, d3, d4] => { results := [.lit (.bool false)], args := [d1, d2, d3, d4] }
  | _ => none }
def JudgeMovedWrongFalsely : Prop := judgeMovedRow.holds Try.pinned (OpenSpec.ofChange judgeMovedWrong)

/-- 'platenlaw21.JudgeBegins': WHATEVER THE INPUT: true; the input reads as it did. -/
def judgeBeginsSpec : ChangeSpec := { name := "judgeBegins", fn := fun _ => fun
  | [d1, d2, d3] => { results := [.lit (.bool true)], args := [d1, d2, d3] }
  | _ => none }
def judgeBeginsRow : OpenClaim := { program := "ytbcgpjfjfnnlcaa", sum := "f01a04875c8bdcb2cfef49f8f203307a8a8943f34470fede2f6f552507999962", func := "platen/platenlaw21.JudgeBegins", spec := "judgeBegins", unfollowed := true, recurses := true, apart := false }
def JudgeBeginsSaid : Prop := judgeBeginsRow.holds Try.pinned (OpenSpec.ofChange judgeBeginsSpec)

/-- ITS FALSE NEIGHBOUR: 'it returns false'. Refute it at one input. -/
def judgeBeginsWrong : ChangeSpec := { name := "judgeBegins", fn := fun _ => fun
  | [d1, d2, d3] => { results := [.lit (.bool false)], args := [d1, d2, d3] }
  | _ => none }
def JudgeBeginsWrongFalsely : Prop := judgeBeginsRow.holds Try.pinned (OpenSpec.ofChange judgeBeginsWrong)

/- THE SECOND FORM. 'bulk': how many values and letters a reading holds, each counted each time it is reached (what is shared counts as often as it is met; a slice's spare places count too). A statement '..UptoSaid' is the law's where the arguments, and the package variables that the reading takes, are together of bulk at most 1048576: NARROWER than '..Said'. Prove '..Said' where nothing that the law and all that it calls make is longer than what came in: it says more and counts as full. Else prove '..UptoSaid'. A law counts once. -/
mutual
def uptoBulk {H : Type} : DataW H → Nat
  | .lit (.string bytes) => bytes.length + 1
  | .lit _ => 1
  | .nil => 1
  | .ptr d => uptoBulk d + 1
  | .slice elems spare => uptoBulkAll elems + uptoBulkAll spare + 1
  | .agg parts => uptoBulkAll parts + 1
  | .iface _ d => uptoBulk d + 1
  | .map entries => uptoBulkEntries entries + 1
  | .held _ => 1
def uptoBulkAll {H : Type} : List (DataW H) → Nat
  | [] => 0
  | d :: r => uptoBulk d + uptoBulkAll r
def uptoBulkEntries {H : Type} : List (Lit × DataW H) → Nat
  | [] => 0
  | x :: r => uptoBulkEntry x + uptoBulkEntries r
def uptoBulkEntry {H : Type} : Lit × DataW H → Nat
  | (.string bytes, d) => bytes.length + uptoBulk d + 1
  | (_, d) => uptoBulk d + 1
 end
def uptoSmall : (H : Type) → List (DataW H) → Bool := fun _ ds => decide (uptoBulkAll ds ≤ 1048576)
def OpenSpec.upto (s : _root_.Go.ChangeSpec) : _root_.Go.OpenSpec := { _root_.Go.OpenSpec.ofChange s with cond := some uptoSmall }

/-- 'platenlaw21.JudgeAll', WHERE WHAT IT READS IS OF BULK AT MOST 1048576: true; the input reads as it did. -/
def judgeAllUptoRow : OpenClaim := { program := "ytbcgpjfjfnnlcaa", sum := "f01a04875c8bdcb2cfef49f8f203307a8a8943f34470fede2f6f552507999962", func := "platen/platenlaw21.JudgeAll", spec := "judgeAll", unfollowed := true, recurses := true, apart := false, narrowed := true }
def JudgeAllUptoSaid : Prop := judgeAllUptoRow.holds Try.pinned (OpenSpec.upto judgeAllSpec)

/-- 'platenlaw21.JudgeMoved', WHERE WHAT IT READS IS OF BULK AT MOST 1048576: true; the input reads as it did. -/
def judgeMovedUptoRow : OpenClaim := { program := "ytbcgpjfjfnnlcaa", sum := "f01a04875c8bdcb2cfef49f8f203307a8a8943f34470fede2f6f552507999962", func := "platen/platenlaw21.JudgeMoved", spec := "judgeMoved", unfollowed := true, recurses := true, apart := false, narrowed := true }
def JudgeMovedUptoSaid : Prop := judgeMovedUptoRow.holds Try.pinned (OpenSpec.upto judgeMovedSpec)

/-- 'platenlaw21.JudgeBegins', WHERE WHAT IT READS IS OF BULK AT MOST 1048576: true; the input reads as it did. -/
def judgeBeginsUptoRow : OpenClaim := { program := "ytbcgpjfjfnnlcaa", sum := "f01a04875c8bdcb2cfef49f8f203307a8a8943f34470fede2f6f552507999962", func := "platen/platenlaw21.JudgeBegins", spec := "judgeBegins", unfollowed := true, recurses := true, apart := false, narrowed := true }
def JudgeBeginsUptoSaid : Prop := judgeBeginsUptoRow.holds Try.pinned (OpenSpec.upto judgeBeginsSpec)

end Rows
end Go.Proofs.Ytbcgpjfjfnnlcaa
