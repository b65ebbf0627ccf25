/-
  No cell of these rows narrows 'for every input' (looked for: loops, veiled, ifaces, maps, wideKeys, modest, calm, conditions, laid).
  DERIVED. THE GIVEN ROWS OF THIS SEAT. 4 by the template 'for every input the law returns true; each argument reads behind the call as it read before'; 0 by the template 'total and deterministic' (their statements: YtdehaeillolhbaaTotals.lean).
  GIVEN WITH THE SEED: the statements are not yours to turn. If you find one false, say at which input.
  Laid BY PROGRAM, IN A SANDBOX (cutbox-rows.mjs): the forced cells as the released guide's own fill.sh prints them over the translation 3c29494e92a18d43… (all of the seat's roots in one cut). By AI agents, Wed Nov 11 2026. No macro, syntax, notation, axiom, sorry.
-/
import Derived.Test.YtdehaeillolhbaaChecked
import GoSem.Claim
import GoSem.ClaimJoined
import GoSem.ClaimMapViews
import Derived.JoinedTies
import Derived.KernelRfl
namespace Go.Proofs.Ytdehaeillolhbaa
/- THE CELL 'sum', in the pinned program and in every row, IS THE sha256 OF THE DUMP (.gsa) THAT YtdehaeillolhbaaProg.lean LOADS. Nothing in Lean hashes anything: it is a label: what it is worth is what the hold of that sum in a sandbox is worth. -/
noncomputable def Try.pinned : Pinned := { name := "ytdehaeillolhbaa", sum := "3c29494e92a18d43721ccc2eb5a2fbbb83868f1754cc2e9f55f580c46902bc43", checked := Try.checked }
namespace Rows
def none {H : Type} : Left H := { results := [], args := [] }

/-- 'platenlaw15.BreaksBest': WHATEVER THE INPUT: true; the input reads as it did. -/
def breaksBestSpec : ChangeSpec := { name := "breaksBest", fn := fun _ => fun
  | [d1, d2, d3, d4, d5] => { results := [.lit (.bool true)], args := [d1, d2, d3, d4, d5] }
  | _ => none }
def breaksBestRow : OpenClaim := { program := "ytdehaeillolhbaa", sum := "3c29494e92a18d43721ccc2eb5a2fbbb83868f1754cc2e9f55f580c46902bc43", func := "platen/platenlaw15.BreaksBest", spec := "breaksBest", unfollowed := true, recurses := true, apart := false }
def BreaksBestSaid : Prop := breaksBestRow.holds Try.pinned (OpenSpec.ofChange breaksBestSpec)

/-- ITS FALSE NEIGHBOUR: 'it returns false'. Refute it at one input. -/
def breaksBestWrong : ChangeSpec := { name := "breaksBest", fn := fun _ => fun
  | [d1, d2, d3, d4, d5] => { results := [.lit (.bool false)], args := [d1, d2, d3, d4, d5] }
  | _ => none }
def BreaksBestWrongFalsely : Prop := breaksBestRow.holds Try.pinned (OpenSpec.ofChange breaksBestWrong)

/-- 'platenlaw15.BreaksCharges': WHATEVER THE INPUT: true; the input reads as it did. -/
def breaksChargesSpec : ChangeSpec := { name := "breaksCharges", fn := fun _ => fun
  | [d1, d2, d3] => { results := [.lit (.bool true)], args := [d1, d2, d3] }
  | _ => none }
def breaksChargesRow : OpenClaim := { program := "ytdehaeillolhbaa", sum := "3c29494e92a18d43721ccc2eb5a2fbbb83868f1754cc2e9f55f580c46902bc43", func := "platen/platenlaw15.BreaksCharges", spec := "breaksCharges", unfollowed := true, recurses := true, apart := false }
def BreaksChargesSaid : Prop := breaksChargesRow.holds Try.pinned (OpenSpec.ofChange breaksChargesSpec)

/-- ITS FALSE NEIGHBOUR: 'it returns false'. Refute it at one input. -/
def breaksChargesWrong : ChangeSpec := { name := "breaksCharges", fn := fun _ => fun
  | [d1, d2, d3] => { results := [.lit (.bool false)], args := [d1, d2, d3] }
  | _ => none }
def BreaksChargesWrongFalsely : Prop := breaksChargesRow.holds Try.pinned (OpenSpec.ofChange breaksChargesWrong)

/-- 'platenlaw15.BreaksLeast': WHATEVER THE INPUT: true; the input reads as it did. -/
def breaksLeastSpec : ChangeSpec := { name := "breaksLeast", fn := fun _ => fun
  | [d1, d2, d3, d4] => { results := [.lit (.bool true)], args := [d1, d2, d3, d4] }
  | _ => none }
def breaksLeastRow : OpenClaim := { program := "ytdehaeillolhbaa", sum := "3c29494e92a18d43721ccc2eb5a2fbbb83868f1754cc2e9f55f580c46902bc43", func := "platen/platenlaw15.BreaksLeast", spec := "breaksLeast", unfollowed := true, recurses := true, apart := false }
def BreaksLeastSaid : Prop := breaksLeastRow.holds Try.pinned (OpenSpec.ofChange breaksLeastSpec)

/-- ITS FALSE NEIGHBOUR: 'it returns false'. Refute it at one input. -/
def breaksLeastWrong : ChangeSpec := { name := "breaksLeast", fn := fun _ => fun
  | [d1, d2, d3, d4] => { results := [.lit (.bool false)], args := [d1, d2, d3, d4] }
  | _ => none }
def BreaksLeastWrongFalsely : Prop := breaksLeastRow.holds Try.pinned (OpenSpec.ofChange breaksLeastWrong)

/-- 'platenlaw15.BreaksEach': WHATEVER THE INPUT: true; the input reads as it did. -/
def breaksEachSpec : ChangeSpec := { name := "breaksEach", fn := fun _ => fun
  | [d1, d2, d3] => { results := [.lit (.bool true)], args := [d1, d2, d3] }
  | _ => none }
def breaksEachRow : OpenClaim := { program := "ytdehaeillolhbaa", sum := "3c29494e92a18d43721ccc2eb5a2fbbb83868f1754cc2e9f55f580c46902bc43", func := "platen/platenlaw15.BreaksEach", spec := "breaksEach", unfollowed := true, recurses := true, apart := false }
def BreaksEachSaid : Prop := breaksEachRow.holds Try.pinned (OpenSpec.ofChange breaksEachSpec)

/-- ITS FALSE NEIGHBOUR: 'it returns false'. Refute it at one input. -/
def breaksEachWrong : ChangeSpec := { name := "breaksEach", fn := fun _ => fun
  | [d1, d2, d3] => { results := [.lit (.bool false)], args := [d1, d2, d3] }
  | _ => none }
def BreaksEachWrongFalsely : Prop := breaksEachRow.holds Try.pinned (OpenSpec.ofChange breaksEachWrong)

/- THE SECOND FORM. 'bulk': how many values and letters a reading holds, each counted each time it is reached (what is shared counts as often as it is met; a slice's spare places count too). A statement '..UptoSaid' is the law's where the arguments, and the package variables that the reading takes, are together of bulk at most 1048576: NARROWER than '..Said'. Prove '..Said' where nothing that the law and all that it calls make is longer than what came in: it says more and counts as full. Else prove '..UptoSaid'. A law counts once. -/
mutual
def uptoBulk {H : Type} : DataW H → Nat
  | .lit (.string bytes) => bytes.length + 1
  | .lit _ => 1
  | .nil => 1
  | .ptr d => uptoBulk d + 1
  | .slice elems spare => uptoBulkAll elems + uptoBulkAll spare + 1
  | .agg parts => uptoBulkAll parts + 1
  | .iface _ d => uptoBulk d + 1
  | .map entries => uptoBulkEntries entries + 1
  | .held _ => 1
def uptoBulkAll {H : Type} : List (DataW H) → Nat
  | [] => 0
  | d :: r => uptoBulk d + uptoBulkAll r
def uptoBulkEntries {H : Type} : List (Lit × DataW H) → Nat
  | [] => 0
  | x :: r => uptoBulkEntry x + uptoBulkEntries r
def uptoBulkEntry {H : Type} : Lit × DataW H → Nat
  | (.string bytes, d) => bytes.length + uptoBulk d + 1
  | (_, d) => uptoBulk d + 1
 end
def uptoSmall : (H : Type) → List (DataW H) → Bool := fun _ ds => decide (uptoBulkAll ds ≤ 1048576)
def OpenSpec.upto (s : _root_.Go.ChangeSpec) : _root_.Go.OpenSpec := { _root_.Go.OpenSpec.ofChange s with cond := some uptoSmall }

/-- 'platenlaw15.BreaksBest', WHERE WHAT IT READS IS OF BULK AT MOST 1048576: true; the input reads as it did. -/
def breaksBestUptoRow : OpenClaim := { program := "ytdehaeillolhbaa", sum := "3c29494e92a18d43721ccc2eb5a2fbbb83868f1754cc2e9f55f580c46902bc43", func := "platen/platenlaw15.BreaksBest", spec := "breaksBest", unfollowed := true, recurses := true, apart := false, narrowed := true }
def BreaksBestUptoSaid : Prop := breaksBestUptoRow.holds Try.pinned (OpenSpec.upto breaksBestSpec)

/-- 'platenlaw15.BreaksCharges', WHERE WHAT IT READS IS OF BULK AT MOST 1048576: true; the input reads as it did. -/
def breaksChargesUptoRow : OpenClaim := { program := "ytdehaeillolhbaa", sum := "3c29494e92a18d43721ccc2eb5a2fbbb83868f1754cc2e9f55f580c46902bc43", func := "platen/platenlaw15.BreaksCharges", spec := "breaksCharges", unfollowed := true, recurses := true, apart := false, narrowed := true }
def BreaksChargesUptoSaid : Prop := breaksChargesUptoRow.holds Try.pinned (OpenSpec.upto breaksChargesSpec)

/-- 'platenlaw15.BreaksLeast', WHERE WHAT IT READS IS OF BULK AT MOST 1048576: true; the input reads as it did. -/
def breaksLeastUptoRow : OpenClaim := { program := "ytdehaeillolhbaa", sum := "3c29494e92a18d43721ccc2eb5a2fbbb83868f1754cc2e9f55f580c46902bc43", func := "platen/platenlaw15.BreaksLeast", spec := "breaksLeast", unfollowed := true, recurses := true, apart := false, narrowed := true }
def BreaksLeastUptoSaid : Prop := breaksLeastUptoRow.holds Try.pinned (OpenSpec.upto breaksLeastSpec)

/-- 'platenlaw15.BreaksEach', WHERE WHAT IT READS IS OF BULK AT MOST 1048576: true; the input reads as it did. -/
def breaksEachUptoRow : OpenClaim := { program := "ytdehaeillolhbaa", sum := "3c29494e92a18d43721ccc2eb5a2fbbb83868f1754cc2e9f55f580c46902bc43", func := "platen/platenlaw15.BreaksEach", spec := "breaksEach", unfollowed := true, recurses := true, apart := false, narrowed := true }
def BreaksEachUptoSaid : Prop := breaksEachUptoRow.holds Try.pinned (OpenSpec.upto breaksEachSpec)

end Rows
end Go.Proofs.Ytdehaeillolhbaa
