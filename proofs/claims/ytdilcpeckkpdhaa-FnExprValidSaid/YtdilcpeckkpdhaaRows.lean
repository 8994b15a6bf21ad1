/-
  No cell of these rows narrows 'for every input' (looked for: loops, veiled, ifaces, maps, wideKeys, modest, calm, conditions, laid).
  DERIVED. THE GIVEN ROWS OF THIS SEAT. 10 by the template 'for every input the law returns true; each argument reads behind the call as it read before'; 0 by the template 'total and deterministic' (their statements: YtdilcpeckkpdhaaTotals.lean).
  GIVEN WITH THE SEED: the statements are not yours to turn. If you find one false, say at which input.
  Laid BY PROGRAM, IN A SANDBOX (cutbox-rows.mjs): the forced cells as the released guide's own fill.sh prints them over the translation f2d4af505d00135b… (all of the seat's roots in one cut). By AI agents, Wed Nov 11 2026. No macro, syntax, notation, axiom, sorry.
-/
import Derived.Test.YtdilcpeckkpdhaaChecked
import GoSem.Claim
import GoSem.ClaimJoined
import GoSem.ClaimMapViews
import Derived.JoinedTies
import Derived.KernelRfl
namespace Go.Proofs.Ytdilcpeckkpdhaa
/- THE CELL 'sum', in the pinned program and in every row, IS THE sha256 OF THE DUMP (.gsa) THAT YtdilcpeckkpdhaaProg.lean LOADS. Nothing in Lean hashes anything: it is a label: what it is worth is what the hold of that sum in a sandbox is worth. -/
noncomputable def Try.pinned : Pinned := { name := "ytdilcpeckkpdhaa", sum := "f2d4af505d00135b9582ccfb3ee20cb4907b8e1a71061f0a838165933d3b883d", checked := Try.checked }
namespace Rows
def none {H : Type} : Left H := { results := [], args := [] }

/-- 'laws.FnExactExprDepth': WHATEVER THE INPUT: true; the input reads as it did. -/
def fnExactExprDepthSpec : ChangeSpec := { name := "fnExactExprDepth", fn := fun _ => fun
  | [d] => { results := [.lit (.bool true)], args := [d] }
  | _ => none }
def fnExactExprDepthRow : OpenClaim := { program := "ytdilcpeckkpdhaa", sum := "f2d4af505d00135b9582ccfb3ee20cb4907b8e1a71061f0a838165933d3b883d", func := "loop.example/regularlanguages/laws.FnExactExprDepth", spec := "fnExactExprDepth", recurses := true, apart := false }
def FnExactExprDepthSaid : Prop := fnExactExprDepthRow.holds Try.pinned (OpenSpec.ofChange fnExactExprDepthSpec)

/-- ITS FALSE NEIGHBOUR: 'it returns false'. Refute it at one input. -/
def fnExactExprDepthWrong : ChangeSpec := { name := "fnExactExprDepth", fn := fun _ => fun
  | [d] => { results := [.lit (.bool false)], args := [d] }
  | _ => none }
def FnExactExprDepthWrongFalsely : Prop := fnExactExprDepthRow.holds Try.pinned (OpenSpec.ofChange fnExactExprDepthWrong)

/-- 'laws.FnExactHasEmpty': WHATEVER THE INPUT: true; the input reads as it did. -/
def fnExactHasEmptySpec : ChangeSpec := { name := "fnExactHasEmpty", fn := fun _ => fun
  | [d] => { results := [.lit (.bool true)], args := [d] }
  | _ => none }
def fnExactHasEmptyRow : OpenClaim := { program := "ytdilcpeckkpdhaa", sum := "f2d4af505d00135b9582ccfb3ee20cb4907b8e1a71061f0a838165933d3b883d", func := "loop.example/regularlanguages/laws.FnExactHasEmpty", spec := "fnExactHasEmpty", recurses := true, apart := false }
def FnExactHasEmptySaid : Prop := fnExactHasEmptyRow.holds Try.pinned (OpenSpec.ofChange fnExactHasEmptySpec)

/-- ITS FALSE NEIGHBOUR: 'it returns false'. Refute it at one input. -/
def fnExactHasEmptyWrong : ChangeSpec := { name := "fnExactHasEmpty", fn := fun _ => fun
  | [d] => { results := [.lit (.bool false)], args := [d] }
  | _ => none }
def FnExactHasEmptyWrongFalsely : Prop := fnExactHasEmptyRow.holds Try.pinned (OpenSpec.ofChange fnExactHasEmptyWrong)

/-- 'laws.FnExactFirstOperand': WHATEVER THE INPUT: true; the input reads as it did. -/
def fnExactFirstOperandSpec : ChangeSpec := { name := "fnExactFirstOperand", fn := fun _ => fun
  | [d] => { results := [.lit (.bool true)], args := [d] }
  | _ => none }
def fnExactFirstOperandRow : OpenClaim := { program := "ytdilcpeckkpdhaa", sum := "f2d4af505d00135b9582ccfb3ee20cb4907b8e1a71061f0a838165933d3b883d", func := "loop.example/regularlanguages/laws.FnExactFirstOperand", spec := "fnExactFirstOperand", apart := false }
def FnExactFirstOperandSaid : Prop := fnExactFirstOperandRow.holds Try.pinned (OpenSpec.ofChange fnExactFirstOperandSpec)

/-- ITS FALSE NEIGHBOUR: 'it returns false'. Refute it at one input. -/
def fnExactFirstOperandWrong : ChangeSpec := { name := "fnExactFirstOperand", fn := fun _ => fun
  | [d] => { results := [.lit (.bool false)], args := [d] }
  | _ => none }
def FnExactFirstOperandWrongFalsely : Prop := fnExactFirstOperandRow.holds Try.pinned (OpenSpec.ofChange fnExactFirstOperandWrong)

/-- 'laws.FnExactSecondOperand': WHATEVER THE INPUT: true; the input reads as it did. -/
def fnExactSecondOperandSpec : ChangeSpec := { name := "fnExactSecondOperand", fn := fun _ => fun
  | [d] => { results := [.lit (.bool true)], args := [d] }
  | _ => none }
def fnExactSecondOperandRow : OpenClaim := { program := "ytdilcpeckkpdhaa", sum := "f2d4af505d00135b9582ccfb3ee20cb4907b8e1a71061f0a838165933d3b883d", func := "loop.example/regularlanguages/laws.FnExactSecondOperand", spec := "fnExactSecondOperand", apart := false }
def FnExactSecondOperandSaid : Prop := fnExactSecondOperandRow.holds Try.pinned (OpenSpec.ofChange fnExactSecondOperandSpec)

/-- ITS FALSE NEIGHBOUR: 'it returns false'. Refute it at one input. -/
def fnExactSecondOperandWrong : ChangeSpec := { name := "fnExactSecondOperand", fn := fun _ => fun
  | [d] => { results := [.lit (.bool false)], args := [d] }
  | _ => none }
def FnExactSecondOperandWrongFalsely : Prop := fnExactSecondOperandRow.holds Try.pinned (OpenSpec.ofChange fnExactSecondOperandWrong)

/-- 'laws.FnExprValid': WHATEVER THE INPUT: true; the input reads as it did. -/
def fnExprValidSpec : ChangeSpec := { name := "fnExprValid", fn := fun _ => fun
  | [d] => { results := [.lit (.bool true)], args := [d] }
  | _ => none }
def fnExprValidRow : OpenClaim := { program := "ytdilcpeckkpdhaa", sum := "f2d4af505d00135b9582ccfb3ee20cb4907b8e1a71061f0a838165933d3b883d", func := "loop.example/regularlanguages/laws.FnExprValid", spec := "fnExprValid", recurses := true, apart := false }
def FnExprValidSaid : Prop := fnExprValidRow.holds Try.pinned (OpenSpec.ofChange fnExprValidSpec)

/-- ITS FALSE NEIGHBOUR: 'it returns false'. Refute it at one input. -/
def fnExprValidWrong : ChangeSpec := { name := "fnExprValid", fn := fun _ => fun
  | [d] => { results := [.lit (.bool false)], args := [d] }
  | _ => none }
def FnExprValidWrongFalsely : Prop := fnExprValidRow.holds Try.pinned (OpenSpec.ofChange fnExprValidWrong)

/-- 'laws.FnExactTurnExpr': WHATEVER THE INPUT: true; the input reads as it did. -/
def fnExactTurnExprSpec : ChangeSpec := { name := "fnExactTurnExpr", fn := fun _ => fun
  | [d] => { results := [.lit (.bool true)], args := [d] }
  | _ => none }
def fnExactTurnExprRow : OpenClaim := { program := "ytdilcpeckkpdhaa", sum := "f2d4af505d00135b9582ccfb3ee20cb4907b8e1a71061f0a838165933d3b883d", func := "loop.example/regularlanguages/laws.FnExactTurnExpr", spec := "fnExactTurnExpr", recurses := true, apart := false }
def FnExactTurnExprSaid : Prop := fnExactTurnExprRow.holds Try.pinned (OpenSpec.ofChange fnExactTurnExprSpec)

/-- ITS FALSE NEIGHBOUR: 'it returns false'. Refute it at one input. -/
def fnExactTurnExprWrong : ChangeSpec := { name := "fnExactTurnExpr", fn := fun _ => fun
  | [d] => { results := [.lit (.bool false)], args := [d] }
  | _ => none }
def FnExactTurnExprWrongFalsely : Prop := fnExactTurnExprRow.holds Try.pinned (OpenSpec.ofChange fnExactTurnExprWrong)

/-- 'laws.FnEmptyJoin': WHATEVER THE INPUT: true; the input reads as it did. -/
def fnEmptyJoinSpec : ChangeSpec := { name := "fnEmptyJoin", fn := fun _ => fun
  | [d1, d2] => { results := [.lit (.bool true)], args := [d1, d2] }
  | _ => none }
def fnEmptyJoinRow : OpenClaim := { program := "ytdilcpeckkpdhaa", sum := "f2d4af505d00135b9582ccfb3ee20cb4907b8e1a71061f0a838165933d3b883d", func := "loop.example/regularlanguages/laws.FnEmptyJoin", spec := "fnEmptyJoin", recurses := true, apart := false }
def FnEmptyJoinSaid : Prop := fnEmptyJoinRow.holds Try.pinned (OpenSpec.ofChange fnEmptyJoinSpec)

/-- ITS FALSE NEIGHBOUR: 'it returns false'. Refute it at one input. -/
def fnEmptyJoinWrong : ChangeSpec := { name := "fnEmptyJoin", fn := fun _ => fun
  | [d1, d2] => { results := [.lit (.bool false)], args := [d1, d2] }
  | _ => none }
def FnEmptyJoinWrongFalsely : Prop := fnEmptyJoinRow.holds Try.pinned (OpenSpec.ofChange fnEmptyJoinWrong)

/-- 'laws.FnFirstOperand': WHATEVER THE INPUT: true; the input reads as it did. -/
def fnFirstOperandSpec : ChangeSpec := { name := "fnFirstOperand", fn := fun _ => fun
  | [d] => { results := [.lit (.bool true)], args := [d] }
  | _ => none }
def fnFirstOperandRow : OpenClaim := { program := "ytdilcpeckkpdhaa", sum := "f2d4af505d00135b9582ccfb3ee20cb4907b8e1a71061f0a838165933d3b883d", func := "loop.example/regularlanguages/laws.FnFirstOperand", spec := "fnFirstOperand", recurses := true, apart := false }
def FnFirstOperandSaid : Prop := fnFirstOperandRow.holds Try.pinned (OpenSpec.ofChange fnFirstOperandSpec)

/-- ITS FALSE NEIGHBOUR: 'it returns false'. Refute it at one input. -/
def fnFirstOperandWrong : ChangeSpec := { name := "fnFirstOperand", fn := fun _ => fun
  | [d] => { results := [.lit (.bool false)], args := [d] }
  | _ => none }
def FnFirstOperandWrongFalsely : Prop := fnFirstOperandRow.holds Try.pinned (OpenSpec.ofChange fnFirstOperandWrong)

/-- 'laws.FnExprDepth': WHATEVER THE INPUT: true; the input reads as it did. -/
def fnExprDepthSpec : ChangeSpec := { name := "fnExprDepth", fn := fun _ => fun
  | [d] => { results := [.lit (.bool true)], args := [d] }
  | _ => none }
def fnExprDepthRow : OpenClaim := { program := "ytdilcpeckkpdhaa", sum := "f2d4af505d00135b9582ccfb3ee20cb4907b8e1a71061f0a838165933d3b883d", func := "loop.example/regularlanguages/laws.FnExprDepth", spec := "fnExprDepth", recurses := true, apart := false }
def FnExprDepthSaid : Prop := fnExprDepthRow.holds Try.pinned (OpenSpec.ofChange fnExprDepthSpec)

/-- ITS FALSE NEIGHBOUR: 'it returns false'. Refute it at one input. -/
def fnExprDepthWrong : ChangeSpec := { name := "fnExprDepth", fn := fun _ => fun
  | [d] => { results := [.lit (.bool false)], args := [d] }
  | _ => none }
def FnExprDepthWrongFalsely : Prop := fnExprDepthRow.holds Try.pinned (OpenSpec.ofChange fnExprDepthWrong)

/-- 'laws.FnSecondOperand': WHATEVER THE INPUT: true; the input reads as it did. -/
def fnSecondOperandSpec : ChangeSpec := { name := "fnSecondOperand", fn := fun _ => fun
  | [d] => { results := [.lit (.bool true)], args := [d] }
  | _ => none }
def fnSecondOperandRow : OpenClaim := { program := "ytdilcpeckkpdhaa", sum := "f2d4af505d00135b9582ccfb3ee20cb4907b8e1a71061f0a838165933d3b883d", func := "loop.example/regularlanguages/laws.FnSecondOperand", spec := "fnSecondOperand", recurses := true, apart := false }
def FnSecondOperandSaid : Prop := fnSecondOperandRow.holds Try.pinned (OpenSpec.ofChange fnSecondOperandSpec)

/-- ITS FALSE NEIGHBOUR: 'it returns false'. Refute it at one input. -/
def fnSecondOperandWrong : ChangeSpec := { name := "fnSecondOperand", fn := fun _ => fun
  | [d] => { results := [.lit (.bool false)], args := [d] }
  | _ => none }
def FnSecondOperandWrongFalsely : Prop := fnSecondOperandRow.holds Try.pinned (OpenSpec.ofChange fnSecondOperandWrong)

/- THE SECOND FORM. 'bulk': how many values and letters a reading holds, each counted each time it is reached (what is shared counts as often as it is met; a slice's spare places count too). A statement '..UptoSaid' is the law's where the arguments, and the package variables that the reading takes, are together of bulk at most 1048576: NARROWER than '..Said'. Prove '..Said' where nothing that the law and all that it calls make is longer than what came in: it says more and counts as full. Else prove '..UptoSaid'. A law counts once. -/
mutual
def uptoBulk {H : Type} : DataW H → Nat
  | .lit (.string bytes) => bytes.length + 1
  | .lit _ => 1
  | .nil => 1
  | .ptr d => uptoBulk d + 1
  | .slice elems spare => uptoBulkAll elems + uptoBulkAll spare + 1
  | .agg parts => uptoBulkAll parts + 1
  | .iface _ d => uptoBulk d + 1
  | .map entries => uptoBulkEntries entries + 1
  | .held _ => 1
def uptoBulkAll {H : Type} : List (DataW H) → Nat
  | [] => 0
  | d :: r => uptoBulk d + uptoBulkAll r
def uptoBulkEntries {H : Type} : List (Lit × DataW H) → Nat
  | [] => 0
  | x :: r => uptoBulkEntry x + uptoBulkEntries r
def uptoBulkEntry {H : Type} : Lit × DataW H → Nat
  | (.string bytes, d) => bytes.length + uptoBulk d + 1
  | (_, d) => uptoBulk d + 1
 end
def uptoSmall : (H : Type) → List (DataW H) → Bool := fun _ ds => decide (uptoBulkAll ds ≤ 1048576)
def OpenSpec.upto (s : _root_.Go.ChangeSpec) : _root_.Go.OpenSpec := { _root_.Go.OpenSpec.ofChange s with cond := some uptoSmall }

/-- 'laws.FnExactExprDepth', WHERE WHAT IT READS IS OF BULK AT MOST 1048576: true; the input reads as it did. -/
def fnExactExprDepthUptoRow : OpenClaim := { program := "ytdilcpeckkpdhaa", sum := "f2d4af505d00135b9582ccfb3ee20cb4907b8e1a71061f0a838165933d3b883d", func := "loop.example/regularlanguages/laws.FnExactExprDepth", spec := "fnExactExprDepth", recurses := true, apart := false, narrowed := true }
def FnExactExprDepthUptoSaid : Prop := fnExactExprDepthUptoRow.holds Try.pinned (OpenSpec.upto fnExactExprDepthSpec)

/-- 'laws.FnExactHasEmpty', WHERE WHAT IT READS IS OF BULK AT MOST 1048576: true; the input reads as it did. -/
def fnExactHasEmptyUptoRow : OpenClaim := { program := "ytdilcpeckkpdhaa", sum := "f2d4af505d00135b9582ccfb3ee20cb4907b8e1a71061f0a838165933d3b883d", func := "loop.example/regularlanguages/laws.FnExactHasEmpty", spec := "fnExactHasEmpty", recurses := true, apart := false, narrowed := true }
def FnExactHasEmptyUptoSaid : Prop := fnExactHasEmptyUptoRow.holds Try.pinned (OpenSpec.upto fnExactHasEmptySpec)

/-- 'laws.FnExactFirstOperand', WHERE WHAT IT READS IS OF BULK AT MOST 1048576: true; the input reads as it did. -/
def fnExactFirstOperandUptoRow : OpenClaim := { program := "ytdilcpeckkpdhaa", sum := "f2d4af505d00135b9582ccfb3ee20cb4907b8e1a71061f0a838165933d3b883d", func := "loop.example/regularlanguages/laws.FnExactFirstOperand", spec := "fnExactFirstOperand", apart := false, narrowed := true }
def FnExactFirstOperandUptoSaid : Prop := fnExactFirstOperandUptoRow.holds Try.pinned (OpenSpec.upto fnExactFirstOperandSpec)

/-- 'laws.FnExactSecondOperand', WHERE WHAT IT READS IS OF BULK AT MOST 1048576: true; the input reads as it did. -/
def fnExactSecondOperandUptoRow : OpenClaim := { program := "ytdilcpeckkpdhaa", sum := "f2d4af505d00135b9582ccfb3ee20cb4907b8e1a71061f0a838165933d3b883d", func := "loop.example/regularlanguages/laws.FnExactSecondOperand", spec := "fnExactSecondOperand", apart := false, narrowed := true }
def FnExactSecondOperandUptoSaid : Prop := fnExactSecondOperandUptoRow.holds Try.pinned (OpenSpec.upto fnExactSecondOperandSpec)

/-- 'laws.FnExprValid', WHERE WHAT IT READS IS OF BULK AT MOST 1048576: true; the input reads as it did. -/
def fnExprValidUptoRow : OpenClaim := { program := "ytdilcpeckkpdhaa", sum := "f2d4af505d00135b9582ccfb3ee20cb4907b8e1a71061f0a838165933d3b883d", func := "loop.example/regularlanguages/laws.FnExprValid", spec := "fnExprValid", recurses := true, apart := false, narrowed := true }
def FnExprValidUptoSaid : Prop := fnExprValidUptoRow.holds Try.pinned (OpenSpec.upto fnExprValidSpec)

/-- 'laws.FnExactTurnExpr', WHERE WHAT IT READS IS OF BULK AT MOST 1048576: true; the input reads as it did. -/
def fnExactTurnExprUptoRow : OpenClaim := { program := "ytdilcpeckkpdhaa", sum := "f2d4af505d00135b9582ccfb3ee20cb4907b8e1a71061f0a838165933d3b883d", func := "loop.example/regularlanguages/laws.FnExactTurnExpr", spec := "fnExactTurnExpr", recurses := true, apart := false, narrowed := true }
def FnExactTurnExprUptoSaid : Prop := fnExactTurnExprUptoRow.holds Try.pinned (OpenSpec.upto fnExactTurnExprSpec)

/-- 'laws.FnEmptyJoin', WHERE WHAT IT READS IS OF BULK AT MOST 1048576: true; the input reads as it did. -/
def fnEmptyJoinUptoRow : OpenClaim := { program := "ytdilcpeckkpdhaa", sum := "f2d4af505d00135b9582ccfb3ee20cb4907b8e1a71061f0a838165933d3b883d", func := "loop.example/regularlanguages/laws.FnEmptyJoin", spec := "fnEmptyJoin", recurses := true, apart := false, narrowed := true }
def FnEmptyJoinUptoSaid : Prop := fnEmptyJoinUptoRow.holds Try.pinned (OpenSpec.upto fnEmptyJoinSpec)

/-- 'laws.FnFirstOperand', WHERE WHAT IT READS IS OF BULK AT MOST 1048576: true; the input reads as it did. -/
def fnFirstOperandUptoRow : OpenClaim := { program := "ytdilcpeckkpdhaa", sum := "f2d4af505d00135b9582ccfb3ee20cb4907b8e1a71061f0a838165933d3b883d", func := "loop.example/regularlanguages/laws.FnFirstOperand", spec := "fnFirstOperand", recurses := true, apart := false, narrowed := true }
def FnFirstOperandUptoSaid : Prop := fnFirstOperandUptoRow.holds Try.pinned (OpenSpec.upto fnFirstOperandSpec)

/-- 'laws.FnExprDepth', WHERE WHAT IT READS IS OF BULK AT MOST 1048576: true; the input reads as it did. -/
def fnExprDepthUptoRow : OpenClaim := { program := "ytdilcpeckkpdhaa", sum := "f2d4af505d00135b9582ccfb3ee20cb4907b8e1a71061f0a838165933d3b883d", func := "loop.example/regularlanguages/laws.FnExprDepth", spec := "fnExprDepth", recurses := true, apart := false, narrowed := true }
def FnExprDepthUptoSaid : Prop := fnExprDepthUptoRow.holds Try.pinned (OpenSpec.upto fnExprDepthSpec)

/-- 'laws.FnSecondOperand', WHERE WHAT IT READS IS OF BULK AT MOST 1048576: true; the input reads as it did. -/
def fnSecondOperandUptoRow : OpenClaim := { program := "ytdilcpeckkpdhaa", sum := "f2d4af505d00135b9582ccfb3ee20cb4907b8e1a71061f0a838165933d3b883d", func := "loop.example/regularlanguages/laws.FnSecondOperand", spec := "fnSecondOperand", recurses := true, apart := false, narrowed := true }
def FnSecondOperandUptoSaid : Prop := fnSecondOperandUptoRow.holds Try.pinned (OpenSpec.upto fnSecondOperandSpec)

end Rows
end Go.Proofs.Ytdilcpeckkpdhaa
