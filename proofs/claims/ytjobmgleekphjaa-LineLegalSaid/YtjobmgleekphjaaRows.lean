/-
  No cell of these rows narrows 'for every input' (looked for: loops, veiled, ifaces, maps, wideKeys, modest, calm, conditions, laid).
  DERIVED. THE GIVEN ROWS OF THIS SEAT. 13 by the template 'for every input the law returns true; each argument reads behind the call as it read before'; 0 by the template 'total and deterministic' (their statements: YtjobmgleekphjaaTotals.lean).
  GIVEN WITH THE SEED: the statements are not yours to turn. If you find one false, say at which input.
  Laid BY PROGRAM, IN A SANDBOX (cutbox-rows.mjs): the forced cells as the released guide's own fill.sh prints them over the translation 8d9e910b4236cf43… (all of the seat's roots in one cut). By AI agents, Wed Nov 11 2026. No macro, syntax, notation, axiom, sorry.
-/
import Derived.Test.YtjobmgleekphjaaChecked
import GoSem.Claim
import GoSem.ClaimJoined
import GoSem.ClaimMapViews
import Derived.JoinedTies
import Derived.KernelRfl
namespace Go.Proofs.Ytjobmgleekphjaa
/- THE CELL 'sum', in the pinned program and in every row, IS THE sha256 OF THE DUMP (.gsa) THAT YtjobmgleekphjaaProg.lean LOADS. Nothing in Lean hashes anything: it is a label: what it is worth is what the hold of that sum in a sandbox is worth. -/
noncomputable def Try.pinned : Pinned := { name := "ytjobmgleekphjaa", sum := "8d9e910b4236cf437080357ef3a9e0b4ee82cf48df3ab362a38ffb71024076cd", checked := Try.checked }
namespace Rows
def none {H : Type} : Left H := { results := [], args := [] }

/-- 'platenlaw20.AnswerWrites': WHATEVER THE INPUT: true; the input reads as it did. -/
def answerWritesSpec : ChangeSpec := { name := "answerWrites", fn := fun _ => fun
  | [d1, d2] => { results := [.lit (.bool true)], args := [d1, d2] }
  | _ => none }
def answerWritesRow : OpenClaim := { program := "ytjobmgleekphjaa", sum := "8d9e910b4236cf437080357ef3a9e0b4ee82cf48df3ab362a38ffb71024076cd", func := "platen/platenlaw20.AnswerWrites", spec := "answerWrites", apart := false }
def AnswerWritesSaid : Prop := answerWritesRow.holds Try.pinned (OpenSpec.ofChange answerWritesSpec)

/-- ITS FALSE NEIGHBOUR: 'it returns false'. Refute it at one input. -/
def answerWritesWrong : ChangeSpec := { name := "answerWrites", fn := fun _ => fun
  | [d1, d2] => { results := [.lit (.bool false)], args := [d1, d2] }
  | _ => none }
def AnswerWritesWrongFalsely : Prop := answerWritesRow.holds Try.pinned (OpenSpec.ofChange answerWritesWrong)

/-- 'platenlaw20.AnswerReads': WHATEVER THE INPUT: true; the input reads as it did. -/
def answerReadsSpec : ChangeSpec := { name := "answerReads", fn := fun _ => fun
  | [d1, d2] => { results := [.lit (.bool true)], args := [d1, d2] }
  | _ => none }
def answerReadsRow : OpenClaim := { program := "ytjobmgleekphjaa", sum := "8d9e910b4236cf437080357ef3a9e0b4ee82cf48df3ab362a38ffb71024076cd", func := "platen/platenlaw20.AnswerReads", spec := "answerReads", apart := false }
def AnswerReadsSaid : Prop := answerReadsRow.holds Try.pinned (OpenSpec.ofChange answerReadsSpec)

/-- ITS FALSE NEIGHBOUR: 'it returns false'. Refute it at one input. -/
def answerReadsWrong : ChangeSpec := { name := "answerReads", fn := fun _ => fun
  | [d1, d2] => { results := [.lit (.bool false)], args := [d1, d2] }
  | _ => none }
def AnswerReadsWrongFalsely : Prop := answerReadsRow.holds Try.pinned (OpenSpec.ofChange answerReadsWrong)

/-- 'platenlaw20.AnswerBack': WHATEVER THE INPUT: true; the input reads as it did. -/
def answerBackSpec : ChangeSpec := { name := "answerBack", fn := fun _ => fun
  | [d1, d2] => { results := [.lit (.bool true)], args := [d1, d2] }
  | _ => none }
def answerBackRow : OpenClaim := { program := "ytjobmgleekphjaa", sum := "8d9e910b4236cf437080357ef3a9e0b4ee82cf48df3ab362a38ffb71024076cd", func := "platen/platenlaw20.AnswerBack", spec := "answerBack", apart := false }
def AnswerBackSaid : Prop := answerBackRow.holds Try.pinned (OpenSpec.ofChange answerBackSpec)

/-- ITS FALSE NEIGHBOUR: 'it returns false'. Refute it at one input. -/
def answerBackWrong : ChangeSpec := { name := "answerBack", fn := fun _ => fun
  | [d1, d2] => { results := [.lit (.bool false)], args := [d1, d2] }
  | _ => none }
def AnswerBackWrongFalsely : Prop := answerBackRow.holds Try.pinned (OpenSpec.ofChange answerBackWrong)

/-- 'platenlaw20.AnswerTurned': WHATEVER THE INPUT: true; the input reads as it did. -/
def answerTurnedSpec : ChangeSpec := { name := "answerTurned", fn := fun _ => fun
  | [d1, d2, d3, d4] => { results := [.lit (.bool true)], args := [d1, d2, d3, d4] }
  | _ => none }
def answerTurnedRow : OpenClaim := { program := "ytjobmgleekphjaa", sum := "8d9e910b4236cf437080357ef3a9e0b4ee82cf48df3ab362a38ffb71024076cd", func := "platen/platenlaw20.AnswerTurned", spec := "answerTurned", apart := false }
def AnswerTurnedSaid : Prop := answerTurnedRow.holds Try.pinned (OpenSpec.ofChange answerTurnedSpec)

/-- ITS FALSE NEIGHBOUR: 'it returns false'. Refute it at one input. -/
def answerTurnedWrong : ChangeSpec := { name := "answerTurned", fn := fun _ => fun
  | [d1, d2, d3, d4] => { results := [.lit (.bool false)], args := [d1, d2, d3, d4] }
  | _ => none }
def AnswerTurnedWrongFalsely : Prop := answerTurnedRow.holds Try.pinned (OpenSpec.ofChange answerTurnedWrong)

/-- 'platenlaw20.AnswerNumbers': WHATEVER THE INPUT: true; the input reads as it did. -/
def answerNumbersSpec : ChangeSpec := { name := "answerNumbers", fn := fun _ => fun
  | [] => { results := [.lit (.bool true)], args := [] }
  | _ => none }
def answerNumbersRow : OpenClaim := { program := "ytjobmgleekphjaa", sum := "8d9e910b4236cf437080357ef3a9e0b4ee82cf48df3ab362a38ffb71024076cd", func := "platen/platenlaw20.AnswerNumbers", spec := "answerNumbers", apart := false }
def AnswerNumbersSaid : Prop := answerNumbersRow.holds Try.pinned (OpenSpec.ofChange answerNumbersSpec)

/-- ITS FALSE NEIGHBOUR: 'it returns false'. Refute it at one input. -/
def answerNumbersWrong : ChangeSpec := { name := "answerNumbers", fn := fun _ => fun
  | [] => { results := [.lit (.bool false)], args := [] }
  | _ => none }
def AnswerNumbersWrongFalsely : Prop := answerNumbersRow.holds Try.pinned (OpenSpec.ofChange answerNumbersWrong)

/-- 'platenlaw14.LineLegal': WHATEVER THE INPUT: true; the input reads as it did. -/
def lineLegalSpec : ChangeSpec := { name := "lineLegal", fn := fun _ => fun
  | [d1, d2] => { results := [.lit (.bool true)], args := [d1, d2] }
  | _ => none }
def lineLegalRow : OpenClaim := { program := "ytjobmgleekphjaa", sum := "8d9e910b4236cf437080357ef3a9e0b4ee82cf48df3ab362a38ffb71024076cd", func := "platen/platenlaw14.LineLegal", spec := "lineLegal", unfollowed := true, recurses := true, apart := false }
def LineLegalSaid : Prop := lineLegalRow.holds Try.pinned (OpenSpec.ofChange lineLegalSpec)

/-- ITS FALSE NEIGHBOUR: 'it returns false'. Refute it at one input. -/
def lineLegalWrong : ChangeSpec := { name := "lineLegal", fn := fun _ => fun
  | [d1, d2] => { results := [.lit (.bool false)], args := [d1, d2] }
  | _ => none }
def LineLegalWrongFalsely : Prop := lineLegalRow.holds Try.pinned (OpenSpec.ofChange lineLegalWrong)

/-- 'platenlaw14.LineTells': WHATEVER THE INPUT: true; the input reads as it did. -/
def lineTellsSpec : ChangeSpec := { name := "lineTells", fn := fun _ => fun
  | [d1, d2] => { results := [.lit (.bool true)], args := [d1, d2] }
  | _ => none }
def lineTellsRow : OpenClaim := { program := "ytjobmgleekphjaa", sum := "8d9e910b4236cf437080357ef3a9e0b4ee82cf48df3ab362a38ffb71024076cd", func := "platen/platenlaw14.LineTells", spec := "lineTells", unfollowed := true, recurses := true, apart := false }
def LineTellsSaid : Prop := lineTellsRow.holds Try.pinned (OpenSpec.ofChange lineTellsSpec)

/-- ITS FALSE NEIGHBOUR: 'it returns false'. Refute it at one input. -/
def lineTellsWrong : ChangeSpec := { name := "lineTells", fn := fun _ => fun
  | [d1, d2] => { results := [.lit (.bool false)], args := [d1, d2] }
  | _ => none }
def LineTellsWrongFalsely : Prop := lineTellsRow.holds Try.pinned (OpenSpec.ofChange lineTellsWrong)

/-- 'platenlaw14.LineCosts': WHATEVER THE INPUT: true; the input reads as it did. -/
def lineCostsSpec : ChangeSpec := { name := "lineCosts", fn := fun _ => fun
  | [d1, d2, d3] => { results := [.lit (.bool true)], args := [d1, d2, d3] }
  | _ => none }
def lineCostsRow : OpenClaim := { program := "ytjobmgleekphjaa", sum := "8d9e910b4236cf437080357ef3a9e0b4ee82cf48df3ab362a38ffb71024076cd", func := "platen/platenlaw14.LineCosts", spec := "lineCosts", unfollowed := true, recurses := true, apart := false }
def LineCostsSaid : Prop := lineCostsRow.holds Try.pinned (OpenSpec.ofChange lineCostsSpec)

/-- ITS FALSE NEIGHBOUR: 'it returns false'. Refute it at one input. -/
def lineCostsWrong : ChangeSpec := { name := "lineCosts", fn := fun _ => fun
  | [d1, d2, d3] => { results := [.lit (.bool false)], args := [d1, d2, d3] }
  | _ => none }
def LineCostsWrongFalsely : Prop := lineCostsRow.holds Try.pinned (OpenSpec.ofChange lineCostsWrong)

/-- 'platenlaw14.LineWays': WHATEVER THE INPUT: true; the input reads as it did. -/
def lineWaysSpec : ChangeSpec := { name := "lineWays", fn := fun _ => fun
  | [d1, d2, d3, d4] => { results := [.lit (.bool true)], args := [d1, d2, d3, d4] }
  | _ => none }
def lineWaysRow : OpenClaim := { program := "ytjobmgleekphjaa", sum := "8d9e910b4236cf437080357ef3a9e0b4ee82cf48df3ab362a38ffb71024076cd", func := "platen/platenlaw14.LineWays", spec := "lineWays", unfollowed := true, recurses := true, apart := false }
def LineWaysSaid : Prop := lineWaysRow.holds Try.pinned (OpenSpec.ofChange lineWaysSpec)

/-- ITS FALSE NEIGHBOUR: 'it returns false'. Refute it at one input. -/
def lineWaysWrong : ChangeSpec := { name := "lineWays", fn := fun _ => fun
  | [d1, d2, d3, d4] => { results := [.lit (.bool false)], args := [d1, d2, d3, d4] }
  | _ => none }
def LineWaysWrongFalsely : Prop := lineWaysRow.holds Try.pinned (OpenSpec.ofChange lineWaysWrong)

/-- 'platenlaw14.LineAdds': WHATEVER THE INPUT: true; the input reads as it did. -/
def lineAddsSpec : ChangeSpec := { name := "lineAdds", fn := fun _ => fun
  | [d1, d2, d3, d4] => { results := [.lit (.bool true)], args := [d1, d2, d3, d4] }
  | _ => none }
def lineAddsRow : OpenClaim := { program := "ytjobmgleekphjaa", sum := "8d9e910b4236cf437080357ef3a9e0b4ee82cf48df3ab362a38ffb71024076cd", func := "platen/platenlaw14.LineAdds", spec := "lineAdds", unfollowed := true, recurses := true, apart := false }
def LineAddsSaid : Prop := lineAddsRow.holds Try.pinned (OpenSpec.ofChange lineAddsSpec)

/-- ITS FALSE NEIGHBOUR: 'it returns false'. Refute it at one input. -/
def lineAddsWrong : ChangeSpec := { name := "lineAdds", fn := fun _ => fun
  | [d1, d2, d3, d4] => { results := [.lit (.bool false)], args := [d1, d2, d3, d4] }
  | _ => none }
def LineAddsWrongFalsely : Prop := lineAddsRow.holds Try.pinned (OpenSpec.ofChange lineAddsWrong)

/-- 'platenlaw14.LineWider': WHATEVER THE INPUT: true; the input reads as it did. -/
def lineWiderSpec : ChangeSpec := { name := "lineWider", fn := fun _ => fun
  | [d1, d2, d3, d4, d5] => { results := [.lit (.bool true)], args := [d1, d2, d3, d4, d5] }
  | _ => none }
def lineWiderRow : OpenClaim := { program := "ytjobmgleekphjaa", sum := "8d9e910b4236cf437080357ef3a9e0b4ee82cf48df3ab362a38ffb71024076cd", func := "platen/platenlaw14.LineWider", spec := "lineWider", unfollowed := true, recurses := true, apart := false }
def LineWiderSaid : Prop := lineWiderRow.holds Try.pinned (OpenSpec.ofChange lineWiderSpec)

/-- ITS FALSE NEIGHBOUR: 'it returns false'. Refute it at one input. -/
def lineWiderWrong : ChangeSpec := { name := "lineWider", fn := fun _ => fun
  | [d1, d2, d3, d4, d5] => { results := [.lit (.bool false)], args := [d1, d2, d3, d4, d5] }
  | _ => none }
def LineWiderWrongFalsely : Prop := lineWiderRow.holds Try.pinned (OpenSpec.ofChange lineWiderWrong)

/-- 'platenlaw14.LineKeeps': WHATEVER THE INPUT: true; the input reads as it did. -/
def lineKeepsSpec : ChangeSpec := { name := "lineKeeps", fn := fun _ => fun
  | [d1, d2, d3, d4] => { results := [.lit (.bool true)], args := [d1, d2, d3, d4] }
  | _ => none }
def lineKeepsRow : OpenClaim := { program := "ytjobmgleekphjaa", sum := "8d9e910b4236cf437080357ef3a9e0b4ee82cf48df3ab362a38ffb71024076cd", func := "platen/platenlaw14.LineKeeps", spec := "lineKeeps", unfollowed := true, recurses := true, apart := false }
def LineKeepsSaid : Prop := lineKeepsRow.holds Try.pinned (OpenSpec.ofChange lineKeepsSpec)

/-- ITS FALSE NEIGHBOUR: 'it returns false'. Refute it at one input. -/
def lineKeepsWrong : ChangeSpec := { name := "lineKeeps", fn := fun _ => fun
  | [d1, d2, d3, d4] => { results := [.lit (.bool false)], args := [d1, d2, d3, d4] }
  | _ => none }
def LineKeepsWrongFalsely : Prop := lineKeepsRow.holds Try.pinned (OpenSpec.ofChange lineKeepsWrong)

/-- 'platenlaw14.LineNumbers': WHATEVER THE INPUT: true; the input reads as it did. -/
def lineNumbersSpec : ChangeSpec := { name := "lineNumbers", fn := fun _ => fun
  | [] => { results := [.lit (.bool true)], args := [] }
  | _ => none }
def lineNumbersRow : OpenClaim := { program := "ytjobmgleekphjaa", sum := "8d9e910b4236cf437080357ef3a9e0b4ee82cf48df3ab362a38ffb71024076cd", func := "platen/platenlaw14.LineNumbers", spec := "lineNumbers", unfollowed := true, recurses := true, apart := false }
def LineNumbersSaid : Prop := lineNumbersRow.holds Try.pinned (OpenSpec.ofChange lineNumbersSpec)

/-- ITS FALSE NEIGHBOUR: 'it returns false'. Refute it at one input. -/
def lineNumbersWrong : ChangeSpec := { name := "lineNumbers", fn := fun _ => fun
  | [] => { results := [.lit (.bool false)], args := [] }
  | _ => none }
def LineNumbersWrongFalsely : Prop := lineNumbersRow.holds Try.pinned (OpenSpec.ofChange lineNumbersWrong)

/- THE SECOND FORM. 'bulk': how many values and letters a reading holds, each counted each time it is reached (what is shared counts as often as it is met; a slice's spare places count too). A statement '..UptoSaid' is the law's where the arguments, and the package variables that the reading takes, are together of bulk at most 1048576: NARROWER than '..Said'. Prove '..Said' where nothing that the law and all that it calls make is longer than what came in: it says more and counts as full. Else prove '..UptoSaid'. A law counts once. -/
mutual
def uptoBulk {H : Type} : DataW H → Nat
  | .lit (.string bytes) => bytes.length + 1
  | .lit _ => 1
  | .nil => 1
  | .ptr d => uptoBulk d + 1
  | .slice elems spare => uptoBulkAll elems + uptoBulkAll spare + 1
  | .agg parts => uptoBulkAll parts + 1
  | .iface _ d => uptoBulk d + 1
  | .map entries => uptoBulkEntries entries + 1
  | .held _ => 1
def uptoBulkAll {H : Type} : List (DataW H) → Nat
  | [] => 0
  | d :: r => uptoBulk d + uptoBulkAll r
def uptoBulkEntries {H : Type} : List (Lit × DataW H) → Nat
  | [] => 0
  | x :: r => uptoBulkEntry x + uptoBulkEntries r
def uptoBulkEntry {H : Type} : Lit × DataW H → Nat
  | (.string bytes, d) => bytes.length + uptoBulk d + 1
  | (_, d) => uptoBulk d + 1
 end
def uptoSmall : (H : Type) → List (DataW H) → Bool := fun _ ds => decide (uptoBulkAll ds ≤ 1048576)
def OpenSpec.upto (s : _root_.Go.ChangeSpec) : _root_.Go.OpenSpec := { _root_.Go.OpenSpec.ofChange s with cond := some uptoSmall }

/-- 'platenlaw20.AnswerWrites', WHERE WHAT IT READS IS OF BULK AT MOST 1048576: true; the input reads as it did. -/
def answerWritesUptoRow : OpenClaim := { program := "ytjobmgleekphjaa", sum := "8d9e910b4236cf437080357ef3a9e0b4ee82cf48df3ab362a38ffb71024076cd", func := "platen/platenlaw20.AnswerWrites", spec := "answerWrites", apart := false, narrowed := true }
def AnswerWritesUptoSaid : Prop := answerWritesUptoRow.holds Try.pinned (OpenSpec.upto answerWritesSpec)

/-- 'platenlaw20.AnswerReads', WHERE WHAT IT READS IS OF BULK AT MOST 1048576: true; the input reads as it did. -/
def answerReadsUptoRow : OpenClaim := { program := "ytjobmgleekphjaa", sum := "8d9e910b4236cf437080357ef3a9e0b4ee82cf48df3ab362a38ffb71024076cd", func := "platen/platenlaw20.AnswerReads", spec := "answerReads", apart := false, narrowed := true }
def AnswerReadsUptoSaid : Prop := answerReadsUptoRow.holds Try.pinned (OpenSpec.upto answerReadsSpec)

/-- 'platenlaw20.AnswerBack', WHERE WHAT IT READS IS OF BULK AT MOST 1048576: true; the input reads as it did. -/
def answerBackUptoRow : OpenClaim := { program := "ytjobmgleekphjaa", sum := "8d9e910b4236cf437080357ef3a9e0b4ee82cf48df3ab362a38ffb71024076cd", func := "platen/platenlaw20.AnswerBack", spec := "answerBack", apart := false, narrowed := true }
def AnswerBackUptoSaid : Prop := answerBackUptoRow.holds Try.pinned (OpenSpec.upto answerBackSpec)

/-- 'platenlaw20.AnswerTurned', WHERE WHAT IT READS IS OF BULK AT MOST 1048576: true; the input reads as it did. -/
def answerTurnedUptoRow : OpenClaim := { program := "ytjobmgleekphjaa", sum := "8d9e910b4236cf437080357ef3a9e0b4ee82cf48df3ab362a38ffb71024076cd", func := "platen/platenlaw20.AnswerTurned", spec := "answerTurned", apart := false, narrowed := true }
def AnswerTurnedUptoSaid : Prop := answerTurnedUptoRow.holds Try.pinned (OpenSpec.upto answerTurnedSpec)

/-- 'platenlaw20.AnswerNumbers', WHERE WHAT IT READS IS OF BULK AT MOST 1048576: true; the input reads as it did. -/
def answerNumbersUptoRow : OpenClaim := { program := "ytjobmgleekphjaa", sum := "8d9e910b4236cf437080357ef3a9e0b4ee82cf48df3ab362a38ffb71024076cd", func := "platen/platenlaw20.AnswerNumbers", spec := "answerNumbers", apart := false, narrowed := true }
def AnswerNumbersUptoSaid : Prop := answerNumbersUptoRow.holds Try.pinned (OpenSpec.upto answerNumbersSpec)

/-- 'platenlaw14.LineLegal', WHERE WHAT IT READS IS OF BULK AT MOST 1048576: true; the input reads as it did. -/
def lineLegalUptoRow : OpenClaim := { program := "ytjobmgleekphjaa", sum := "8d9e910b4236cf437080357ef3a9e0b4ee82cf48df3ab362a38ffb71024076cd", func := "platen/platenlaw14.LineLegal", spec := "lineLegal", unfollowed := true, recurses := true, apart := false, narrowed := true }
def LineLegalUptoSaid : Prop := lineLegalUptoRow.holds Try.pinned (OpenSpec.upto lineLegalSpec)

/-- 'platenlaw14.LineTells', WHERE WHAT IT READS IS OF BULK AT MOST 1048576: true; the input reads as it did. -/
def lineTellsUptoRow : OpenClaim := { program := "ytjobmgleekphjaa", sum := "8d9e910b4236cf437080357ef3a9e0b4ee82cf48df3ab362a38ffb71024076cd", func := "platen/platenlaw14.LineTells", spec := "lineTells", unfollowed := true, recurses := true, apart := false, narrowed := true }
def LineTellsUptoSaid : Prop := lineTellsUptoRow.holds Try.pinned (OpenSpec.upto lineTellsSpec)

/-- 'platenlaw14.LineCosts', WHERE WHAT IT READS IS OF BULK AT MOST 1048576: true; the input reads as it did. -/
def lineCostsUptoRow : OpenClaim := { program := "ytjobmgleekphjaa", sum := "8d9e910b4236cf437080357ef3a9e0b4ee82cf48df3ab362a38ffb71024076cd", func := "platen/platenlaw14.LineCosts", spec := "lineCosts", unfollowed := true, recurses := true, apart := false, narrowed := true }
def LineCostsUptoSaid : Prop := lineCostsUptoRow.holds Try.pinned (OpenSpec.upto lineCostsSpec)

/-- 'platenlaw14.LineWays', WHERE WHAT IT READS IS OF BULK AT MOST 1048576: true; the input reads as it did. -/
def lineWaysUptoRow : OpenClaim := { program := "ytjobmgleekphjaa", sum := "8d9e910b4236cf437080357ef3a9e0b4ee82cf48df3ab362a38ffb71024076cd", func := "platen/platenlaw14.LineWays", spec := "lineWays", unfollowed := true, recurses := true, apart := false, narrowed := true }
def LineWaysUptoSaid : Prop := lineWaysUptoRow.holds Try.pinned (OpenSpec.upto lineWaysSpec)

/-- 'platenlaw14.LineAdds', WHERE WHAT IT READS IS OF BULK AT MOST 1048576: true; the input reads as it did. -/
def lineAddsUptoRow : OpenClaim := { program := "ytjobmgleekphjaa", sum := "8d9e910b4236cf437080357ef3a9e0b4ee82cf48df3ab362a38ffb71024076cd", func := "platen/platenlaw14.LineAdds", spec := "lineAdds", unfollowed := true, recurses := true, apart := false, narrowed := true }
def LineAddsUptoSaid : Prop := lineAddsUptoRow.holds Try.pinned (OpenSpec.upto lineAddsSpec)

/-- 'platenlaw14.LineWider', WHERE WHAT IT READS IS OF BULK AT MOST 1048576: true; the input reads as it did. -/
def lineWiderUptoRow : OpenClaim := { program := "ytjobmgleekphjaa", sum := "8d9e910b4236cf437080357ef3a9e0b4ee82cf48df3ab362a38ffb71024076cd", func := "platen/platenlaw14.LineWider", spec := "lineWider", unfollowed := true, recurses := true, apart := false, narrowed := true }
def LineWiderUptoSaid : Prop := lineWiderUptoRow.holds Try.pinned (OpenSpec.upto lineWiderSpec)

/-- 'platenlaw14.LineKeeps', WHERE WHAT IT READS IS OF BULK AT MOST 1048576: true; the input reads as it did. -/
def lineKeepsUptoRow : OpenClaim := { program := "ytjobmgleekphjaa", sum := "8d9e910b4236cf437080357ef3a9e0b4ee82cf48df3ab362a38ffb71024076cd", func := "platen/platenlaw14.LineKeeps", spec := "lineKeeps", unfollowed := true, recurses := true, apart := false, narrowed := true }
def LineKeepsUptoSaid : Prop := lineKeepsUptoRow.holds Try.pinned (OpenSpec.upto lineKeepsSpec)

/-- 'platenlaw14.LineNumbers', WHERE WHAT IT READS IS OF BULK AT MOST 1048576: true; the input reads as it did. -/
def lineNumbersUptoRow : OpenClaim := { program := "ytjobmgleekphjaa", sum := "8d9e910b4236cf437080357ef3a9e0b4ee82cf48df3ab362a38ffb71024076cd", func := "platen/platenlaw14.LineNumbers", spec := "lineNumbers", unfollowed := true, recurses := true, apart := false, narrowed := true }
def LineNumbersUptoSaid : Prop := lineNumbersUptoRow.holds Try.pinned (OpenSpec.upto lineNumbersSpec)

end Rows
end Go.Proofs.Ytjobmgleekphjaa
