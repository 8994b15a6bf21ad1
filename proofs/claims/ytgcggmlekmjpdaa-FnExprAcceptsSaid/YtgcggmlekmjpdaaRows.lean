/-
  No cell of these rows narrows 'for every input' (looked for: loops, veiled, ifaces, maps, wideKeys, modest, calm, conditions, laid).
  DERIVED. THE GIVEN ROWS OF THIS SEAT. 12 by the template 'for every input the law returns true; each argument reads behind the call as it read before'; 0 by the template 'total and deterministic' (their statements: YtgcggmlekmjpdaaTotals.lean).
  GIVEN WITH THE SEED: the statements are not yours to turn. If you find one false, say at which input.
  Laid BY PROGRAM, IN A SANDBOX (cutbox-rows.mjs): the forced cells as the released guide's own fill.sh prints them over the translation b9c47a1412f5de3f… (all of the seat's roots in one cut). By AI agents, Wed Nov 11 2026. No macro, syntax, notation, axiom, sorry.
-/
import Derived.Test.YtgcggmlekmjpdaaChecked
import GoSem.Claim
import GoSem.ClaimJoined
import GoSem.ClaimMapViews
import Derived.JoinedTies
import Derived.KernelRfl
namespace Go.Proofs.Ytgcggmlekmjpdaa
/- THE CELL 'sum', in the pinned program and in every row, IS THE sha256 OF THE DUMP (.gsa) THAT YtgcggmlekmjpdaaProg.lean LOADS. Nothing in Lean hashes anything: it is a label: what it is worth is what the hold of that sum in a sandbox is worth. -/
noncomputable def Try.pinned : Pinned := { name := "ytgcggmlekmjpdaa", sum := "b9c47a1412f5de3ffbf5231f5c5dbfb5c2658bc519aa243b35f0b32cd9820ac4", checked := Try.checked }
namespace Rows
def none {H : Type} : Left H := { results := [], args := [] }

/-- 'laws.FnExactExprAccepts': WHATEVER THE INPUT: true; the input reads as it did. -/
def fnExactExprAcceptsSpec : ChangeSpec := { name := "fnExactExprAccepts", fn := fun _ => fun
  | [d1, d2] => { results := [.lit (.bool true)], args := [d1, d2] }
  | _ => none }
def fnExactExprAcceptsRow : OpenClaim := { program := "ytgcggmlekmjpdaa", sum := "b9c47a1412f5de3ffbf5231f5c5dbfb5c2658bc519aa243b35f0b32cd9820ac4", func := "loop.example/regularlanguages/laws.FnExactExprAccepts", spec := "fnExactExprAccepts", unfollowed := true, recurses := true, apart := false }
def FnExactExprAcceptsSaid : Prop := fnExactExprAcceptsRow.holds Try.pinned (OpenSpec.ofChange fnExactExprAcceptsSpec)

/-- ITS FALSE NEIGHBOUR: 'it returns false'. Refute it at one input. -/
def fnExactExprAcceptsWrong : ChangeSpec := { name := "fnExactExprAccepts", fn := fun _ => fun
  | [d1, d2] => { results := [.lit (.bool false)], args := [d1, d2] }
  | _ => none }
def FnExactExprAcceptsWrongFalsely : Prop := fnExactExprAcceptsRow.holds Try.pinned (OpenSpec.ofChange fnExactExprAcceptsWrong)

/-- 'laws.FnExactFirstAccepted': WHATEVER THE INPUT: true; the input reads as it did. -/
def fnExactFirstAcceptedSpec : ChangeSpec := { name := "fnExactFirstAccepted", fn := fun _ => fun
  | [d1, d2] => { results := [.lit (.bool true)], args := [d1, d2] }
  | _ => none }
def fnExactFirstAcceptedRow : OpenClaim := { program := "ytgcggmlekmjpdaa", sum := "b9c47a1412f5de3ffbf5231f5c5dbfb5c2658bc519aa243b35f0b32cd9820ac4", func := "loop.example/regularlanguages/laws.FnExactFirstAccepted", spec := "fnExactFirstAccepted", unfollowed := true, recurses := true, apart := false }
def FnExactFirstAcceptedSaid : Prop := fnExactFirstAcceptedRow.holds Try.pinned (OpenSpec.ofChange fnExactFirstAcceptedSpec)

/-- ITS FALSE NEIGHBOUR: 'it returns false'. Refute it at one input. -/
def fnExactFirstAcceptedWrong : ChangeSpec := { name := "fnExactFirstAccepted", fn := fun _ => fun
  | [d1, d2] => { results := [.lit (.bool false)], args := [d1, d2] }
  | _ => none }
def FnExactFirstAcceptedWrongFalsely : Prop := fnExactFirstAcceptedRow.holds Try.pinned (OpenSpec.ofChange fnExactFirstAcceptedWrong)

/-- 'laws.FnHasEmpty': WHATEVER THE INPUT: true; the input reads as it did. -/
def fnHasEmptySpec : ChangeSpec := { name := "fnHasEmpty", fn := fun _ => fun
  | [d] => { results := [.lit (.bool true)], args := [d] }
  | _ => none }
def fnHasEmptyRow : OpenClaim := { program := "ytgcggmlekmjpdaa", sum := "b9c47a1412f5de3ffbf5231f5c5dbfb5c2658bc519aa243b35f0b32cd9820ac4", func := "loop.example/regularlanguages/laws.FnHasEmpty", spec := "fnHasEmpty", unfollowed := true, recurses := true, apart := false }
def FnHasEmptySaid : Prop := fnHasEmptyRow.holds Try.pinned (OpenSpec.ofChange fnHasEmptySpec)

/-- ITS FALSE NEIGHBOUR: 'it returns false'. Refute it at one input. -/
def fnHasEmptyWrong : ChangeSpec := { name := "fnHasEmpty", fn := fun _ => fun
  | [d] => { results := [.lit (.bool false)], args := [d] }
  | _ => none }
def FnHasEmptyWrongFalsely : Prop := fnHasEmptyRow.holds Try.pinned (OpenSpec.ofChange fnHasEmptyWrong)

/-- 'laws.FnExactCountAccepted': WHATEVER THE INPUT: true; the input reads as it did. -/
def fnExactCountAcceptedSpec : ChangeSpec := { name := "fnExactCountAccepted", fn := fun _ => fun
  | [d1, d2] => { results := [.lit (.bool true)], args := [d1, d2] }
  | _ => none }
def fnExactCountAcceptedRow : OpenClaim := { program := "ytgcggmlekmjpdaa", sum := "b9c47a1412f5de3ffbf5231f5c5dbfb5c2658bc519aa243b35f0b32cd9820ac4", func := "loop.example/regularlanguages/laws.FnExactCountAccepted", spec := "fnExactCountAccepted", unfollowed := true, recurses := true, apart := false }
def FnExactCountAcceptedSaid : Prop := fnExactCountAcceptedRow.holds Try.pinned (OpenSpec.ofChange fnExactCountAcceptedSpec)

/-- ITS FALSE NEIGHBOUR: 'it returns false'. Refute it at one input. -/
def fnExactCountAcceptedWrong : ChangeSpec := { name := "fnExactCountAccepted", fn := fun _ => fun
  | [d1, d2] => { results := [.lit (.bool false)], args := [d1, d2] }
  | _ => none }
def FnExactCountAcceptedWrongFalsely : Prop := fnExactCountAcceptedRow.holds Try.pinned (OpenSpec.ofChange fnExactCountAcceptedWrong)

/-- 'laws.FnExprAccepts': WHATEVER THE INPUT: true; the input reads as it did. -/
def fnExprAcceptsSpec : ChangeSpec := { name := "fnExprAccepts", fn := fun _ => fun
  | [d] => { results := [.lit (.bool true)], args := [d] }
  | _ => none }
def fnExprAcceptsRow : OpenClaim := { program := "ytgcggmlekmjpdaa", sum := "b9c47a1412f5de3ffbf5231f5c5dbfb5c2658bc519aa243b35f0b32cd9820ac4", func := "loop.example/regularlanguages/laws.FnExprAccepts", spec := "fnExprAccepts", unfollowed := true, recurses := true, apart := false }
def FnExprAcceptsSaid : Prop := fnExprAcceptsRow.holds Try.pinned (OpenSpec.ofChange fnExprAcceptsSpec)

/-- ITS FALSE NEIGHBOUR: 'it returns false'. Refute it at one input. -/
def fnExprAcceptsWrong : ChangeSpec := { name := "fnExprAccepts", fn := fun _ => fun
  | [d] => { results := [.lit (.bool false)], args := [d] }
  | _ => none }
def FnExprAcceptsWrongFalsely : Prop := fnExprAcceptsRow.holds Try.pinned (OpenSpec.ofChange fnExprAcceptsWrong)

/-- 'laws.FnNotTwice': WHATEVER THE INPUT: true; the input reads as it did. -/
def fnNotTwiceSpec : ChangeSpec := { name := "fnNotTwice", fn := fun _ => fun
  | [d] => { results := [.lit (.bool true)], args := [d] }
  | _ => none }
def fnNotTwiceRow : OpenClaim := { program := "ytgcggmlekmjpdaa", sum := "b9c47a1412f5de3ffbf5231f5c5dbfb5c2658bc519aa243b35f0b32cd9820ac4", func := "loop.example/regularlanguages/laws.FnNotTwice", spec := "fnNotTwice", unfollowed := true, recurses := true, apart := false }
def FnNotTwiceSaid : Prop := fnNotTwiceRow.holds Try.pinned (OpenSpec.ofChange fnNotTwiceSpec)

/-- ITS FALSE NEIGHBOUR: 'it returns false'. Refute it at one input. -/
def fnNotTwiceWrong : ChangeSpec := { name := "fnNotTwice", fn := fun _ => fun
  | [d] => { results := [.lit (.bool false)], args := [d] }
  | _ => none }
def FnNotTwiceWrongFalsely : Prop := fnNotTwiceRow.holds Try.pinned (OpenSpec.ofChange fnNotTwiceWrong)

/-- 'laws.FnEitherOrder': WHATEVER THE INPUT: true; the input reads as it did. -/
def fnEitherOrderSpec : ChangeSpec := { name := "fnEitherOrder", fn := fun _ => fun
  | [d1, d2] => { results := [.lit (.bool true)], args := [d1, d2] }
  | _ => none }
def fnEitherOrderRow : OpenClaim := { program := "ytgcggmlekmjpdaa", sum := "b9c47a1412f5de3ffbf5231f5c5dbfb5c2658bc519aa243b35f0b32cd9820ac4", func := "loop.example/regularlanguages/laws.FnEitherOrder", spec := "fnEitherOrder", unfollowed := true, recurses := true, apart := false }
def FnEitherOrderSaid : Prop := fnEitherOrderRow.holds Try.pinned (OpenSpec.ofChange fnEitherOrderSpec)

/-- ITS FALSE NEIGHBOUR: 'it returns false'. Refute it at one input. -/
def fnEitherOrderWrong : ChangeSpec := { name := "fnEitherOrder", fn := fun _ => fun
  | [d1, d2] => { results := [.lit (.bool false)], args := [d1, d2] }
  | _ => none }
def FnEitherOrderWrongFalsely : Prop := fnEitherOrderRow.holds Try.pinned (OpenSpec.ofChange fnEitherOrderWrong)

/-- 'laws.FnJoinEither': WHATEVER THE INPUT: true; the input reads as it did. -/
def fnJoinEitherSpec : ChangeSpec := { name := "fnJoinEither", fn := fun _ => fun
  | [d1, d2] => { results := [.lit (.bool true)], args := [d1, d2] }
  | _ => none }
def fnJoinEitherRow : OpenClaim := { program := "ytgcggmlekmjpdaa", sum := "b9c47a1412f5de3ffbf5231f5c5dbfb5c2658bc519aa243b35f0b32cd9820ac4", func := "loop.example/regularlanguages/laws.FnJoinEither", spec := "fnJoinEither", unfollowed := true, recurses := true, apart := false }
def FnJoinEitherSaid : Prop := fnJoinEitherRow.holds Try.pinned (OpenSpec.ofChange fnJoinEitherSpec)

/-- ITS FALSE NEIGHBOUR: 'it returns false'. Refute it at one input. -/
def fnJoinEitherWrong : ChangeSpec := { name := "fnJoinEither", fn := fun _ => fun
  | [d1, d2] => { results := [.lit (.bool false)], args := [d1, d2] }
  | _ => none }
def FnJoinEitherWrongFalsely : Prop := fnJoinEitherRow.holds Try.pinned (OpenSpec.ofChange fnJoinEitherWrong)

/-- 'laws.FnStarTwice': WHATEVER THE INPUT: true; the input reads as it did. -/
def fnStarTwiceSpec : ChangeSpec := { name := "fnStarTwice", fn := fun _ => fun
  | [d] => { results := [.lit (.bool true)], args := [d] }
  | _ => none }
def fnStarTwiceRow : OpenClaim := { program := "ytgcggmlekmjpdaa", sum := "b9c47a1412f5de3ffbf5231f5c5dbfb5c2658bc519aa243b35f0b32cd9820ac4", func := "loop.example/regularlanguages/laws.FnStarTwice", spec := "fnStarTwice", unfollowed := true, recurses := true, apart := false }
def FnStarTwiceSaid : Prop := fnStarTwiceRow.holds Try.pinned (OpenSpec.ofChange fnStarTwiceSpec)

/-- ITS FALSE NEIGHBOUR: 'it returns false'. Refute it at one input. -/
def fnStarTwiceWrong : ChangeSpec := { name := "fnStarTwice", fn := fun _ => fun
  | [d] => { results := [.lit (.bool false)], args := [d] }
  | _ => none }
def FnStarTwiceWrongFalsely : Prop := fnStarTwiceRow.holds Try.pinned (OpenSpec.ofChange fnStarTwiceWrong)

/-- 'laws.FnNotEither': WHATEVER THE INPUT: true; the input reads as it did. -/
def fnNotEitherSpec : ChangeSpec := { name := "fnNotEither", fn := fun _ => fun
  | [d1, d2] => { results := [.lit (.bool true)], args := [d1, d2] }
  | _ => none }
def fnNotEitherRow : OpenClaim := { program := "ytgcggmlekmjpdaa", sum := "b9c47a1412f5de3ffbf5231f5c5dbfb5c2658bc519aa243b35f0b32cd9820ac4", func := "loop.example/regularlanguages/laws.FnNotEither", spec := "fnNotEither", unfollowed := true, recurses := true, apart := false }
def FnNotEitherSaid : Prop := fnNotEitherRow.holds Try.pinned (OpenSpec.ofChange fnNotEitherSpec)

/-- ITS FALSE NEIGHBOUR: 'it returns false'. Refute it at one input. -/
def fnNotEitherWrong : ChangeSpec := { name := "fnNotEither", fn := fun _ => fun
  | [d1, d2] => { results := [.lit (.bool false)], args := [d1, d2] }
  | _ => none }
def FnNotEitherWrongFalsely : Prop := fnNotEitherRow.holds Try.pinned (OpenSpec.ofChange fnNotEitherWrong)

/-- 'laws.FnFirstAccepted': WHATEVER THE INPUT: true; the input reads as it did. -/
def fnFirstAcceptedSpec : ChangeSpec := { name := "fnFirstAccepted", fn := fun _ => fun
  | [d] => { results := [.lit (.bool true)], args := [d] }
  | _ => none }
def fnFirstAcceptedRow : OpenClaim := { program := "ytgcggmlekmjpdaa", sum := "b9c47a1412f5de3ffbf5231f5c5dbfb5c2658bc519aa243b35f0b32cd9820ac4", func := "loop.example/regularlanguages/laws.FnFirstAccepted", spec := "fnFirstAccepted", unfollowed := true, recurses := true, apart := false }
def FnFirstAcceptedSaid : Prop := fnFirstAcceptedRow.holds Try.pinned (OpenSpec.ofChange fnFirstAcceptedSpec)

/-- ITS FALSE NEIGHBOUR: 'it returns false'. Refute it at one input. -/
def fnFirstAcceptedWrong : ChangeSpec := { name := "fnFirstAccepted", fn := fun _ => fun
  | [d] => { results := [.lit (.bool false)], args := [d] }
  | _ => none }
def FnFirstAcceptedWrongFalsely : Prop := fnFirstAcceptedRow.holds Try.pinned (OpenSpec.ofChange fnFirstAcceptedWrong)

/-- 'laws.FnCountAccepted': WHATEVER THE INPUT: true; the input reads as it did. -/
def fnCountAcceptedSpec : ChangeSpec := { name := "fnCountAccepted", fn := fun _ => fun
  | [d] => { results := [.lit (.bool true)], args := [d] }
  | _ => none }
def fnCountAcceptedRow : OpenClaim := { program := "ytgcggmlekmjpdaa", sum := "b9c47a1412f5de3ffbf5231f5c5dbfb5c2658bc519aa243b35f0b32cd9820ac4", func := "loop.example/regularlanguages/laws.FnCountAccepted", spec := "fnCountAccepted", unfollowed := true, recurses := true, apart := false }
def FnCountAcceptedSaid : Prop := fnCountAcceptedRow.holds Try.pinned (OpenSpec.ofChange fnCountAcceptedSpec)

/-- ITS FALSE NEIGHBOUR: 'it returns false'. Refute it at one input. -/
def fnCountAcceptedWrong : ChangeSpec := { name := "fnCountAccepted", fn := fun _ => fun
  | [d] => { results := [.lit (.bool false)], args := [d] }
  | _ => none }
def FnCountAcceptedWrongFalsely : Prop := fnCountAcceptedRow.holds Try.pinned (OpenSpec.ofChange fnCountAcceptedWrong)

/- THE SECOND FORM. 'bulk': how many values and letters a reading holds, each counted each time it is reached (what is shared counts as often as it is met; a slice's spare places count too). A statement '..UptoSaid' is the law's where the arguments, and the package variables that the reading takes, are together of bulk at most 1048576: NARROWER than '..Said'. Prove '..Said' where nothing that the law and all that it calls make is longer than what came in: it says more and counts as full. Else prove '..UptoSaid'. A law counts once. -/
mutual
def uptoBulk {H : Type} : DataW H → Nat
  | .lit (.string bytes) => bytes.length + 1
  | .lit _ => 1
  | .nil => 1
  | .ptr d => uptoBulk d + 1
  | .slice elems spare => uptoBulkAll elems + uptoBulkAll spare + 1
  | .agg parts => uptoBulkAll parts + 1
  | .iface _ d => uptoBulk d + 1
  | .map entries => uptoBulkEntries entries + 1
  | .held _ => 1
def uptoBulkAll {H : Type} : List (DataW H) → Nat
  | [] => 0
  | d :: r => uptoBulk d + uptoBulkAll r
def uptoBulkEntries {H : Type} : List (Lit × DataW H) → Nat
  | [] => 0
  | x :: r => uptoBulkEntry x + uptoBulkEntries r
def uptoBulkEntry {H : Type} : Lit × DataW H → Nat
  | (.string bytes, d) => bytes.length + uptoBulk d + 1
  | (_, d) => uptoBulk d + 1
 end
def uptoSmall : (H : Type) → List (DataW H) → Bool := fun _ ds => decide (uptoBulkAll ds ≤ 1048576)
def OpenSpec.upto (s : _root_.Go.ChangeSpec) : _root_.Go.OpenSpec := { _root_.Go.OpenSpec.ofChange s with cond := some uptoSmall }

/-- 'laws.FnExactExprAccepts', WHERE WHAT IT READS IS OF BULK AT MOST 1048576: true; the input reads as it did. -/
def fnExactExprAcceptsUptoRow : OpenClaim := { program := "ytgcggmlekmjpdaa", sum := "b9c47a1412f5de3ffbf5231f5c5dbfb5c2658bc519aa243b35f0b32cd9820ac4", func := "loop.example/regularlanguages/laws.FnExactExprAccepts", spec := "fnExactExprAccepts", unfollowed := true, recurses := true, apart := false, narrowed := true }
def FnExactExprAcceptsUptoSaid : Prop := fnExactExprAcceptsUptoRow.holds Try.pinned (OpenSpec.upto fnExactExprAcceptsSpec)

/-- 'laws.FnExactFirstAccepted', WHERE WHAT IT READS IS OF BULK AT MOST 1048576: true; the input reads as it did. -/
def fnExactFirstAcceptedUptoRow : OpenClaim := { program := "ytgcggmlekmjpdaa", sum := "b9c47a1412f5de3ffbf5231f5c5dbfb5c2658bc519aa243b35f0b32cd9820ac4", func := "loop.example/regularlanguages/laws.FnExactFirstAccepted", spec := "fnExactFirstAccepted", unfollowed := true, recurses := true, apart := false, narrowed := true }
def FnExactFirstAcceptedUptoSaid : Prop := fnExactFirstAcceptedUptoRow.holds Try.pinned (OpenSpec.upto fnExactFirstAcceptedSpec)

/-- 'laws.FnHasEmpty', WHERE WHAT IT READS IS OF BULK AT MOST 1048576: true; the input reads as it did. -/
def fnHasEmptyUptoRow : OpenClaim := { program := "ytgcggmlekmjpdaa", sum := "b9c47a1412f5de3ffbf5231f5c5dbfb5c2658bc519aa243b35f0b32cd9820ac4", func := "loop.example/regularlanguages/laws.FnHasEmpty", spec := "fnHasEmpty", unfollowed := true, recurses := true, apart := false, narrowed := true }
def FnHasEmptyUptoSaid : Prop := fnHasEmptyUptoRow.holds Try.pinned (OpenSpec.upto fnHasEmptySpec)

/-- 'laws.FnExactCountAccepted', WHERE WHAT IT READS IS OF BULK AT MOST 1048576: true; the input reads as it did. -/
def fnExactCountAcceptedUptoRow : OpenClaim := { program := "ytgcggmlekmjpdaa", sum := "b9c47a1412f5de3ffbf5231f5c5dbfb5c2658bc519aa243b35f0b32cd9820ac4", func := "loop.example/regularlanguages/laws.FnExactCountAccepted", spec := "fnExactCountAccepted", unfollowed := true, recurses := true, apart := false, narrowed := true }
def FnExactCountAcceptedUptoSaid : Prop := fnExactCountAcceptedUptoRow.holds Try.pinned (OpenSpec.upto fnExactCountAcceptedSpec)

/-- 'laws.FnExprAccepts', WHERE WHAT IT READS IS OF BULK AT MOST 1048576: true; the input reads as it did. -/
def fnExprAcceptsUptoRow : OpenClaim := { program := "ytgcggmlekmjpdaa", sum := "b9c47a1412f5de3ffbf5231f5c5dbfb5c2658bc519aa243b35f0b32cd9820ac4", func := "loop.example/regularlanguages/laws.FnExprAccepts", spec := "fnExprAccepts", unfollowed := true, recurses := true, apart := false, narrowed := true }
def FnExprAcceptsUptoSaid : Prop := fnExprAcceptsUptoRow.holds Try.pinned (OpenSpec.upto fnExprAcceptsSpec)

/-- 'laws.FnNotTwice', WHERE WHAT IT READS IS OF BULK AT MOST 1048576: true; the input reads as it did. -/
def fnNotTwiceUptoRow : OpenClaim := { program := "ytgcggmlekmjpdaa", sum := "b9c47a1412f5de3ffbf5231f5c5dbfb5c2658bc519aa243b35f0b32cd9820ac4", func := "loop.example/regularlanguages/laws.FnNotTwice", spec := "fnNotTwice", unfollowed := true, recurses := true, apart := false, narrowed := true }
def FnNotTwiceUptoSaid : Prop := fnNotTwiceUptoRow.holds Try.pinned (OpenSpec.upto fnNotTwiceSpec)

/-- 'laws.FnEitherOrder', WHERE WHAT IT READS IS OF BULK AT MOST 1048576: true; the input reads as it did. -/
def fnEitherOrderUptoRow : OpenClaim := { program := "ytgcggmlekmjpdaa", sum := "b9c47a1412f5de3ffbf5231f5c5dbfb5c2658bc519aa243b35f0b32cd9820ac4", func := "loop.example/regularlanguages/laws.FnEitherOrder", spec := "fnEitherOrder", unfollowed := true, recurses := true, apart := false, narrowed := true }
def FnEitherOrderUptoSaid : Prop := fnEitherOrderUptoRow.holds Try.pinned (OpenSpec.upto fnEitherOrderSpec)

/-- 'laws.FnJoinEither', WHERE WHAT IT READS IS OF BULK AT MOST 1048576: true; the input reads as it did. -/
def fnJoinEitherUptoRow : OpenClaim := { program := "ytgcggmlekmjpdaa", sum := "b9c47a1412f5de3ffbf5231f5c5dbfb5c2658bc519aa243b35f0b32cd9820ac4", func := "loop.example/regularlanguages/laws.FnJoinEither", spec := "fnJoinEither", unfollowed := true, recurses := true, apart := false, narrowed := true }
def FnJoinEitherUptoSaid : Prop := fnJoinEitherUptoRow.holds Try.pinned (OpenSpec.upto fnJoinEitherSpec)

/-- 'laws.FnStarTwice', WHERE WHAT IT READS IS OF BULK AT MOST 1048576: true; the input reads as it did. -/
def fnStarTwiceUptoRow : OpenClaim := { program := "ytgcggmlekmjpdaa", sum := "b9c47a1412f5de3ffbf5231f5c5dbfb5c2658bc519aa243b35f0b32cd9820ac4", func := "loop.example/regularlanguages/laws.FnStarTwice", spec := "fnStarTwice", unfollowed := true, recurses := true, apart := false, narrowed := true }
def FnStarTwiceUptoSaid : Prop := fnStarTwiceUptoRow.holds Try.pinned (OpenSpec.upto fnStarTwiceSpec)

/-- 'laws.FnNotEither', WHERE WHAT IT READS IS OF BULK AT MOST 1048576: true; the input reads as it did. -/
def fnNotEitherUptoRow : OpenClaim := { program := "ytgcggmlekmjpdaa", sum := "b9c47a1412f5de3ffbf5231f5c5dbfb5c2658bc519aa243b35f0b32cd9820ac4", func := "loop.example/regularlanguages/laws.FnNotEither", spec := "fnNotEither", unfollowed := true, recurses := true, apart := false, narrowed := true }
def FnNotEitherUptoSaid : Prop := fnNotEitherUptoRow.holds Try.pinned (OpenSpec.upto fnNotEitherSpec)

/-- 'laws.FnFirstAccepted', WHERE WHAT IT READS IS OF BULK AT MOST 1048576: true; the input reads as it did. -/
def fnFirstAcceptedUptoRow : OpenClaim := { program := "ytgcggmlekmjpdaa", sum := "b9c47a1412f5de3ffbf5231f5c5dbfb5c2658bc519aa243b35f0b32cd9820ac4", func := "loop.example/regularlanguages/laws.FnFirstAccepted", spec := "fnFirstAccepted", unfollowed := true, recurses := true, apart := false, narrowed := true }
def FnFirstAcceptedUptoSaid : Prop := fnFirstAcceptedUptoRow.holds Try.pinned (OpenSpec.upto fnFirstAcceptedSpec)

/-- 'laws.FnCountAccepted', WHERE WHAT IT READS IS OF BULK AT MOST 1048576: true; the input reads as it did. -/
def fnCountAcceptedUptoRow : OpenClaim := { program := "ytgcggmlekmjpdaa", sum := "b9c47a1412f5de3ffbf5231f5c5dbfb5c2658bc519aa243b35f0b32cd9820ac4", func := "loop.example/regularlanguages/laws.FnCountAccepted", spec := "fnCountAccepted", unfollowed := true, recurses := true, apart := false, narrowed := true }
def FnCountAcceptedUptoSaid : Prop := fnCountAcceptedUptoRow.holds Try.pinned (OpenSpec.upto fnCountAcceptedSpec)

end Rows
end Go.Proofs.Ytgcggmlekmjpdaa
