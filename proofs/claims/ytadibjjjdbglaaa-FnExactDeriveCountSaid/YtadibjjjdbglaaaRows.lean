/-
  No cell of these rows narrows 'for every input' (looked for: loops, veiled, ifaces, maps, wideKeys, modest, calm, conditions, laid).
  DERIVED. THE GIVEN ROWS OF THIS SEAT. 12 by the template 'for every input the law returns true; each argument reads behind the call as it read before'; 0 by the template 'total and deterministic' (their statements: YtadibjjjdbglaaaTotals.lean).
  GIVEN WITH THE SEED: the statements are not yours to turn. If you find one false, say at which input.
  Laid BY PROGRAM, IN A SANDBOX (cutbox-rows.mjs): the forced cells as the released guide's own fill.sh prints them over the translation 96ad828c88fb5773… (all of the seat's roots in one cut). By AI agents, Wed Nov 11 2026. No macro, syntax, notation, axiom, sorry.
-/
import Derived.Test.YtadibjjjdbglaaaChecked
import GoSem.Claim
import GoSem.ClaimJoined
import GoSem.ClaimMapViews
import Derived.JoinedTies
import Derived.KernelRfl
namespace Go.Proofs.Ytadibjjjdbglaaa
/- THE CELL 'sum', in the pinned program and in every row, IS THE sha256 OF THE DUMP (.gsa) THAT YtadibjjjdbglaaaProg.lean LOADS. Nothing in Lean hashes anything: it is a label: what it is worth is what the hold of that sum in a sandbox is worth. -/
noncomputable def Try.pinned : Pinned := { name := "ytadibjjjdbglaaa", sum := "96ad828c88fb577338f609466d72902d68b79940487ad9ceac43f8fff2fde12b", checked := Try.checked }
namespace Rows
def none {H : Type} : Left H := { results := [], args := [] }

/-- 'laws.FnSimplifyExpr': WHATEVER THE INPUT: true; the input reads as it did. -/
def fnSimplifyExprSpec : ChangeSpec := { name := "fnSimplifyExpr", fn := fun _ => fun
  | [d1, d2] => { results := [.lit (.bool true)], args := [d1, d2] }
  | _ => none }
def fnSimplifyExprRow : OpenClaim := { program := "ytadibjjjdbglaaa", sum := "96ad828c88fb577338f609466d72902d68b79940487ad9ceac43f8fff2fde12b", func := "loop.example/regularlanguages/laws.FnSimplifyExpr", spec := "fnSimplifyExpr", unfollowed := true, recurses := true, apart := false }
def FnSimplifyExprSaid : Prop := fnSimplifyExprRow.holds Try.pinned (OpenSpec.ofChange fnSimplifyExprSpec)

/-- ITS FALSE NEIGHBOUR: 'it returns false'. Refute it at one input. -/
def fnSimplifyExprWrong : ChangeSpec := { name := "fnSimplifyExpr", fn := fun _ => fun
  | [d1, d2] => { results := [.lit (.bool false)], args := [d1, d2] }
  | _ => none }
def FnSimplifyExprWrongFalsely : Prop := fnSimplifyExprRow.holds Try.pinned (OpenSpec.ofChange fnSimplifyExprWrong)

/-- 'laws.FnExactDeriveCount': WHATEVER THE INPUT: true; the input reads as it did. -/
def fnExactDeriveCountSpec : ChangeSpec := { name := "fnExactDeriveCount", fn := fun _ => fun
  | [d1, d2] => { results := [.lit (.bool true)], args := [d1, d2] }
  | _ => none }
def fnExactDeriveCountRow : OpenClaim := { program := "ytadibjjjdbglaaa", sum := "96ad828c88fb577338f609466d72902d68b79940487ad9ceac43f8fff2fde12b", func := "loop.example/regularlanguages/laws.FnExactDeriveCount", spec := "fnExactDeriveCount", recurses := true, apart := false }
def FnExactDeriveCountSaid : Prop := fnExactDeriveCountRow.holds Try.pinned (OpenSpec.ofChange fnExactDeriveCountSpec)

/-- ITS FALSE NEIGHBOUR: 'it returns false'. Refute it at one input. -/
def fnExactDeriveCountWrong : ChangeSpec := { name := "fnExactDeriveCount", fn := fun _ => fun
  | [d1, d2] => { results := [.lit (.bool false)], args := [d1, d2] }
  | _ => none }
def FnExactDeriveCountWrongFalsely : Prop := fnExactDeriveCountRow.holds Try.pinned (OpenSpec.ofChange fnExactDeriveCountWrong)

/-- 'laws.FnDerive': WHATEVER THE INPUT: true; the input reads as it did. -/
def fnDeriveSpec : ChangeSpec := { name := "fnDerive", fn := fun _ => fun
  | [d1, d2] => { results := [.lit (.bool true)], args := [d1, d2] }
  | _ => none }
def fnDeriveRow : OpenClaim := { program := "ytadibjjjdbglaaa", sum := "96ad828c88fb577338f609466d72902d68b79940487ad9ceac43f8fff2fde12b", func := "loop.example/regularlanguages/laws.FnDerive", spec := "fnDerive", unfollowed := true, recurses := true, apart := false }
def FnDeriveSaid : Prop := fnDeriveRow.holds Try.pinned (OpenSpec.ofChange fnDeriveSpec)

/-- ITS FALSE NEIGHBOUR: 'it returns false'. Refute it at one input. -/
def fnDeriveWrong : ChangeSpec := { name := "fnDerive", fn := fun _ => fun
  | [d1, d2] => { results := [.lit (.bool false)], args := [d1, d2] }
  | _ => none }
def FnDeriveWrongFalsely : Prop := fnDeriveRow.holds Try.pinned (OpenSpec.ofChange fnDeriveWrong)

/-- 'laws.FnExactIsSimple': WHATEVER THE INPUT: true; the input reads as it did. -/
def fnExactIsSimpleSpec : ChangeSpec := { name := "fnExactIsSimple", fn := fun _ => fun
  | [d] => { results := [.lit (.bool true)], args := [d] }
  | _ => none }
def fnExactIsSimpleRow : OpenClaim := { program := "ytadibjjjdbglaaa", sum := "96ad828c88fb577338f609466d72902d68b79940487ad9ceac43f8fff2fde12b", func := "loop.example/regularlanguages/laws.FnExactIsSimple", spec := "fnExactIsSimple", recurses := true, apart := false }
def FnExactIsSimpleSaid : Prop := fnExactIsSimpleRow.holds Try.pinned (OpenSpec.ofChange fnExactIsSimpleSpec)

/-- ITS FALSE NEIGHBOUR: 'it returns false'. Refute it at one input. -/
def fnExactIsSimpleWrong : ChangeSpec := { name := "fnExactIsSimple", fn := fun _ => fun
  | [d] => { results := [.lit (.bool false)], args := [d] }
  | _ => none }
def FnExactIsSimpleWrongFalsely : Prop := fnExactIsSimpleRow.holds Try.pinned (OpenSpec.ofChange fnExactIsSimpleWrong)

/-- 'laws.FnExactSimplifyExpr': WHATEVER THE INPUT: true; the input reads as it did. -/
def fnExactSimplifyExprSpec : ChangeSpec := { name := "fnExactSimplifyExpr", fn := fun _ => fun
  | [d] => { results := [.lit (.bool true)], args := [d] }
  | _ => none }
def fnExactSimplifyExprRow : OpenClaim := { program := "ytadibjjjdbglaaa", sum := "96ad828c88fb577338f609466d72902d68b79940487ad9ceac43f8fff2fde12b", func := "loop.example/regularlanguages/laws.FnExactSimplifyExpr", spec := "fnExactSimplifyExpr", recurses := true, apart := false }
def FnExactSimplifyExprSaid : Prop := fnExactSimplifyExprRow.holds Try.pinned (OpenSpec.ofChange fnExactSimplifyExprSpec)

/-- ITS FALSE NEIGHBOUR: 'it returns false'. Refute it at one input. -/
def fnExactSimplifyExprWrong : ChangeSpec := { name := "fnExactSimplifyExpr", fn := fun _ => fun
  | [d] => { results := [.lit (.bool false)], args := [d] }
  | _ => none }
def FnExactSimplifyExprWrongFalsely : Prop := fnExactSimplifyExprRow.holds Try.pinned (OpenSpec.ofChange fnExactSimplifyExprWrong)

/-- 'laws.FnTurnExpr': WHATEVER THE INPUT: true; the input reads as it did. -/
def fnTurnExprSpec : ChangeSpec := { name := "fnTurnExpr", fn := fun _ => fun
  | [d1, d2] => { results := [.lit (.bool true)], args := [d1, d2] }
  | _ => none }
def fnTurnExprRow : OpenClaim := { program := "ytadibjjjdbglaaa", sum := "96ad828c88fb577338f609466d72902d68b79940487ad9ceac43f8fff2fde12b", func := "loop.example/regularlanguages/laws.FnTurnExpr", spec := "fnTurnExpr", unfollowed := true, recurses := true, apart := false }
def FnTurnExprSaid : Prop := fnTurnExprRow.holds Try.pinned (OpenSpec.ofChange fnTurnExprSpec)

/-- ITS FALSE NEIGHBOUR: 'it returns false'. Refute it at one input. -/
def fnTurnExprWrong : ChangeSpec := { name := "fnTurnExpr", fn := fun _ => fun
  | [d1, d2] => { results := [.lit (.bool false)], args := [d1, d2] }
  | _ => none }
def FnTurnExprWrongFalsely : Prop := fnTurnExprRow.holds Try.pinned (OpenSpec.ofChange fnTurnExprWrong)

/-- 'laws.FnSimplifyNone': WHATEVER THE INPUT: true; the input reads as it did. -/
def fnSimplifyNoneSpec : ChangeSpec := { name := "fnSimplifyNone", fn := fun _ => fun
  | [d] => { results := [.lit (.bool true)], args := [d] }
  | _ => none }
def fnSimplifyNoneRow : OpenClaim := { program := "ytadibjjjdbglaaa", sum := "96ad828c88fb577338f609466d72902d68b79940487ad9ceac43f8fff2fde12b", func := "loop.example/regularlanguages/laws.FnSimplifyNone", spec := "fnSimplifyNone", recurses := true, apart := false }
def FnSimplifyNoneSaid : Prop := fnSimplifyNoneRow.holds Try.pinned (OpenSpec.ofChange fnSimplifyNoneSpec)

/-- ITS FALSE NEIGHBOUR: 'it returns false'. Refute it at one input. -/
def fnSimplifyNoneWrong : ChangeSpec := { name := "fnSimplifyNone", fn := fun _ => fun
  | [d] => { results := [.lit (.bool false)], args := [d] }
  | _ => none }
def FnSimplifyNoneWrongFalsely : Prop := fnSimplifyNoneRow.holds Try.pinned (OpenSpec.ofChange fnSimplifyNoneWrong)

/-- 'laws.FnSimplifyNot': WHATEVER THE INPUT: true; the input reads as it did. -/
def fnSimplifyNotSpec : ChangeSpec := { name := "fnSimplifyNot", fn := fun _ => fun
  | [d] => { results := [.lit (.bool true)], args := [d] }
  | _ => none }
def fnSimplifyNotRow : OpenClaim := { program := "ytadibjjjdbglaaa", sum := "96ad828c88fb577338f609466d72902d68b79940487ad9ceac43f8fff2fde12b", func := "loop.example/regularlanguages/laws.FnSimplifyNot", spec := "fnSimplifyNot", recurses := true, apart := false }
def FnSimplifyNotSaid : Prop := fnSimplifyNotRow.holds Try.pinned (OpenSpec.ofChange fnSimplifyNotSpec)

/-- ITS FALSE NEIGHBOUR: 'it returns false'. Refute it at one input. -/
def fnSimplifyNotWrong : ChangeSpec := { name := "fnSimplifyNot", fn := fun _ => fun
  | [d] => { results := [.lit (.bool false)], args := [d] }
  | _ => none }
def FnSimplifyNotWrongFalsely : Prop := fnSimplifyNotRow.holds Try.pinned (OpenSpec.ofChange fnSimplifyNotWrong)

/-- 'laws.FnIsSimple': WHATEVER THE INPUT: true; the input reads as it did. -/
def fnIsSimpleSpec : ChangeSpec := { name := "fnIsSimple", fn := fun _ => fun
  | [d] => { results := [.lit (.bool true)], args := [d] }
  | _ => none }
def fnIsSimpleRow : OpenClaim := { program := "ytadibjjjdbglaaa", sum := "96ad828c88fb577338f609466d72902d68b79940487ad9ceac43f8fff2fde12b", func := "loop.example/regularlanguages/laws.FnIsSimple", spec := "fnIsSimple", recurses := true, apart := false }
def FnIsSimpleSaid : Prop := fnIsSimpleRow.holds Try.pinned (OpenSpec.ofChange fnIsSimpleSpec)

/-- ITS FALSE NEIGHBOUR: 'it returns false'. Refute it at one input. -/
def fnIsSimpleWrong : ChangeSpec := { name := "fnIsSimple", fn := fun _ => fun
  | [d] => { results := [.lit (.bool false)], args := [d] }
  | _ => none }
def FnIsSimpleWrongFalsely : Prop := fnIsSimpleRow.holds Try.pinned (OpenSpec.ofChange fnIsSimpleWrong)

/-- 'laws.FnExactDerive': WHATEVER THE INPUT: true; the input reads as it did. -/
def fnExactDeriveSpec : ChangeSpec := { name := "fnExactDerive", fn := fun _ => fun
  | [d1, d2] => { results := [.lit (.bool true)], args := [d1, d2] }
  | _ => none }
def fnExactDeriveRow : OpenClaim := { program := "ytadibjjjdbglaaa", sum := "96ad828c88fb577338f609466d72902d68b79940487ad9ceac43f8fff2fde12b", func := "loop.example/regularlanguages/laws.FnExactDerive", spec := "fnExactDerive", recurses := true, apart := false }
def FnExactDeriveSaid : Prop := fnExactDeriveRow.holds Try.pinned (OpenSpec.ofChange fnExactDeriveSpec)

/-- ITS FALSE NEIGHBOUR: 'it returns false'. Refute it at one input. -/
def fnExactDeriveWrong : ChangeSpec := { name := "fnExactDerive", fn := fun _ => fun
  | [d1, d2] => { results := [.lit (.bool false)], args := [d1, d2] }
  | _ => none }
def FnExactDeriveWrongFalsely : Prop := fnExactDeriveRow.holds Try.pinned (OpenSpec.ofChange fnExactDeriveWrong)

/-- 'laws.FnTurnSimplify': WHATEVER THE INPUT: true; the input reads as it did. -/
def fnTurnSimplifySpec : ChangeSpec := { name := "fnTurnSimplify", fn := fun _ => fun
  | [d1, d2] => { results := [.lit (.bool true)], args := [d1, d2] }
  | _ => none }
def fnTurnSimplifyRow : OpenClaim := { program := "ytadibjjjdbglaaa", sum := "96ad828c88fb577338f609466d72902d68b79940487ad9ceac43f8fff2fde12b", func := "loop.example/regularlanguages/laws.FnTurnSimplify", spec := "fnTurnSimplify", unfollowed := true, recurses := true, apart := false }
def FnTurnSimplifySaid : Prop := fnTurnSimplifyRow.holds Try.pinned (OpenSpec.ofChange fnTurnSimplifySpec)

/-- ITS FALSE NEIGHBOUR: 'it returns false'. Refute it at one input. -/
def fnTurnSimplifyWrong : ChangeSpec := { name := "fnTurnSimplify", fn := fun _ => fun
  | [d1, d2] => { results := [.lit (.bool false)], args := [d1, d2] }
  | _ => none }
def FnTurnSimplifyWrongFalsely : Prop := fnTurnSimplifyRow.holds Try.pinned (OpenSpec.ofChange fnTurnSimplifyWrong)

/-- 'laws.FnExactDeriveWord': WHATEVER THE INPUT: true; the input reads as it did. -/
def fnExactDeriveWordSpec : ChangeSpec := { name := "fnExactDeriveWord", fn := fun _ => fun
  | [d1, d2] => { results := [.lit (.bool true)], args := [d1, d2] }
  | _ => none }
def fnExactDeriveWordRow : OpenClaim := { program := "ytadibjjjdbglaaa", sum := "96ad828c88fb577338f609466d72902d68b79940487ad9ceac43f8fff2fde12b", func := "loop.example/regularlanguages/laws.FnExactDeriveWord", spec := "fnExactDeriveWord", recurses := true, apart := false }
def FnExactDeriveWordSaid : Prop := fnExactDeriveWordRow.holds Try.pinned (OpenSpec.ofChange fnExactDeriveWordSpec)

/-- ITS FALSE NEIGHBOUR: 'it returns false'. Refute it at one input. -/
def fnExactDeriveWordWrong : ChangeSpec := { name := "fnExactDeriveWord", fn := fun _ => fun
  | [d1, d2] => { results := [.lit (.bool false)], args := [d1, d2] }
  | _ => none }
def FnExactDeriveWordWrongFalsely : Prop := fnExactDeriveWordRow.holds Try.pinned (OpenSpec.ofChange fnExactDeriveWordWrong)

/- THE SECOND FORM. 'bulk': how many values and letters a reading holds, each counted each time it is reached (what is shared counts as often as it is met; a slice's spare places count too). A statement '..UptoSaid' is the law's where the arguments, and the package variables that the reading takes, are together of bulk at most 1048576: NARROWER than '..Said'. Prove '..Said' where nothing that the law and all that it calls make is longer than what came in: it says more and counts as full. Else prove '..UptoSaid'. A law counts once. -/
mutual
def uptoBulk {H : Type} : DataW H → Nat
  | .lit (.string bytes) => bytes.length + 1
  | .lit _ => 1
  | .nil => 1
  | .ptr d => uptoBulk d + 1
  | .slice elems spare => uptoBulkAll elems + uptoBulkAll spare + 1
  | .agg parts => uptoBulkAll parts + 1
  | .iface _ d => uptoBulk d + 1
  | .map entries => uptoBulkEntries entries + 1
  | .held _ => 1
def uptoBulkAll {H : Type} : List (DataW H) → Nat
  | [] => 0
  | d :: r => uptoBulk d + uptoBulkAll r
def uptoBulkEntries {H : Type} : List (Lit × DataW H) → Nat
  | [] => 0
  | x :: r => uptoBulkEntry x + uptoBulkEntries r
def uptoBulkEntry {H : Type} : Lit × DataW H → Nat
  | (.string bytes, d) => bytes.length + uptoBulk d + 1
  | (_, d) => uptoBulk d + 1
 end
def uptoSmall : (H : Type) → List (DataW H) → Bool := fun _ ds => decide (uptoBulkAll ds ≤ 1048576)
def OpenSpec.upto (s : _root_.Go.ChangeSpec) : _root_.Go.OpenSpec := { _root_.Go.OpenSpec.ofChange s with cond := some uptoSmall }

/-- 'laws.FnSimplifyExpr', WHERE WHAT IT READS IS OF BULK AT MOST 1048576: true; the input reads as it did. -/
def fnSimplifyExprUptoRow : OpenClaim := { program := "ytadibjjjdbglaaa", sum := "96ad828c88fb577338f609466d72902d68b79940487ad9ceac43f8fff2fde12b", func := "loop.example/regularlanguages/laws.FnSimplifyExpr", spec := "fnSimplifyExpr", unfollowed := true, recurses := true, apart := false, narrowed := true }
def FnSimplifyExprUptoSaid : Prop := fnSimplifyExprUptoRow.holds Try.pinned (OpenSpec.upto fnSimplifyExprSpec)

/-- 'laws.FnExactDeriveCount', WHERE WHAT IT READS IS OF BULK AT MOST 1048576: true; the input reads as it did. -/
def fnExactDeriveCountUptoRow : OpenClaim := { program := "ytadibjjjdbglaaa", sum := "96ad828c88fb577338f609466d72902d68b79940487ad9ceac43f8fff2fde12b", func := "loop.example/regularlanguages/laws.FnExactDeriveCount", spec := "fnExactDeriveCount", recurses := true, apart := false, narrowed := true }
def FnExactDeriveCountUptoSaid : Prop := fnExactDeriveCountUptoRow.holds Try.pinned (OpenSpec.upto fnExactDeriveCountSpec)

/-- 'laws.FnDerive', WHERE WHAT IT READS IS OF BULK AT MOST 1048576: true; the input reads as it did. -/
def fnDeriveUptoRow : OpenClaim := { program := "ytadibjjjdbglaaa", sum := "96ad828c88fb577338f609466d72902d68b79940487ad9ceac43f8fff2fde12b", func := "loop.example/regularlanguages/laws.FnDerive", spec := "fnDerive", unfollowed := true, recurses := true, apart := false, narrowed := true }
def FnDeriveUptoSaid : Prop := fnDeriveUptoRow.holds Try.pinned (OpenSpec.upto fnDeriveSpec)

/-- 'laws.FnExactIsSimple', WHERE WHAT IT READS IS OF BULK AT MOST 1048576: true; the input reads as it did. -/
def fnExactIsSimpleUptoRow : OpenClaim := { program := "ytadibjjjdbglaaa", sum := "96ad828c88fb577338f609466d72902d68b79940487ad9ceac43f8fff2fde12b", func := "loop.example/regularlanguages/laws.FnExactIsSimple", spec := "fnExactIsSimple", recurses := true, apart := false, narrowed := true }
def FnExactIsSimpleUptoSaid : Prop := fnExactIsSimpleUptoRow.holds Try.pinned (OpenSpec.upto fnExactIsSimpleSpec)

/-- 'laws.FnExactSimplifyExpr', WHERE WHAT IT READS IS OF BULK AT MOST 1048576: true; the input reads as it did. -/
def fnExactSimplifyExprUptoRow : OpenClaim := { program := "ytadibjjjdbglaaa", sum := "96ad828c88fb577338f609466d72902d68b79940487ad9ceac43f8fff2fde12b", func := "loop.example/regularlanguages/laws.FnExactSimplifyExpr", spec := "fnExactSimplifyExpr", recurses := true, apart := false, narrowed := true }
def FnExactSimplifyExprUptoSaid : Prop := fnExactSimplifyExprUptoRow.holds Try.pinned (OpenSpec.upto fnExactSimplifyExprSpec)

/-- 'laws.FnTurnExpr', WHERE WHAT IT READS IS OF BULK AT MOST 1048576: true; the input reads as it did. -/
def fnTurnExprUptoRow : OpenClaim := { program := "ytadibjjjdbglaaa", sum := "96ad828c88fb577338f609466d72902d68b79940487ad9ceac43f8fff2fde12b", func := "loop.example/regularlanguages/laws.FnTurnExpr", spec := "fnTurnExpr", unfollowed := true, recurses := true, apart := false, narrowed := true }
def FnTurnExprUptoSaid : Prop := fnTurnExprUptoRow.holds Try.pinned (OpenSpec.upto fnTurnExprSpec)

/-- 'laws.FnSimplifyNone', WHERE WHAT IT READS IS OF BULK AT MOST 1048576: true; the input reads as it did. -/
def fnSimplifyNoneUptoRow : OpenClaim := { program := "ytadibjjjdbglaaa", sum := "96ad828c88fb577338f609466d72902d68b79940487ad9ceac43f8fff2fde12b", func := "loop.example/regularlanguages/laws.FnSimplifyNone", spec := "fnSimplifyNone", recurses := true, apart := false, narrowed := true }
def FnSimplifyNoneUptoSaid : Prop := fnSimplifyNoneUptoRow.holds Try.pinned (OpenSpec.upto fnSimplifyNoneSpec)

/-- 'laws.FnSimplifyNot', WHERE WHAT IT READS IS OF BULK AT MOST 1048576: true; the input reads as it did. -/
def fnSimplifyNotUptoRow : OpenClaim := { program := "ytadibjjjdbglaaa", sum := "96ad828c88fb577338f609466d72902d68b79940487ad9ceac43f8fff2fde12b", func := "loop.example/regularlanguages/laws.FnSimplifyNot", spec := "fnSimplifyNot", recurses := true, apart := false, narrowed := true }
def FnSimplifyNotUptoSaid : Prop := fnSimplifyNotUptoRow.holds Try.pinned (OpenSpec.upto fnSimplifyNotSpec)

/-- 'laws.FnIsSimple', WHERE WHAT IT READS IS OF BULK AT MOST 1048576: true; the input reads as it did. -/
def fnIsSimpleUptoRow : OpenClaim := { program := "ytadibjjjdbglaaa", sum := "96ad828c88fb577338f609466d72902d68b79940487ad9ceac43f8fff2fde12b", func := "loop.example/regularlanguages/laws.FnIsSimple", spec := "fnIsSimple", recurses := true, apart := false, narrowed := true }
def FnIsSimpleUptoSaid : Prop := fnIsSimpleUptoRow.holds Try.pinned (OpenSpec.upto fnIsSimpleSpec)

/-- 'laws.FnExactDerive', WHERE WHAT IT READS IS OF BULK AT MOST 1048576: true; the input reads as it did. -/
def fnExactDeriveUptoRow : OpenClaim := { program := "ytadibjjjdbglaaa", sum := "96ad828c88fb577338f609466d72902d68b79940487ad9ceac43f8fff2fde12b", func := "loop.example/regularlanguages/laws.FnExactDerive", spec := "fnExactDerive", recurses := true, apart := false, narrowed := true }
def FnExactDeriveUptoSaid : Prop := fnExactDeriveUptoRow.holds Try.pinned (OpenSpec.upto fnExactDeriveSpec)

/-- 'laws.FnTurnSimplify', WHERE WHAT IT READS IS OF BULK AT MOST 1048576: true; the input reads as it did. -/
def fnTurnSimplifyUptoRow : OpenClaim := { program := "ytadibjjjdbglaaa", sum := "96ad828c88fb577338f609466d72902d68b79940487ad9ceac43f8fff2fde12b", func := "loop.example/regularlanguages/laws.FnTurnSimplify", spec := "fnTurnSimplify", unfollowed := true, recurses := true, apart := false, narrowed := true }
def FnTurnSimplifyUptoSaid : Prop := fnTurnSimplifyUptoRow.holds Try.pinned (OpenSpec.upto fnTurnSimplifySpec)

/-- 'laws.FnExactDeriveWord', WHERE WHAT IT READS IS OF BULK AT MOST 1048576: true; the input reads as it did. -/
def fnExactDeriveWordUptoRow : OpenClaim := { program := "ytadibjjjdbglaaa", sum := "96ad828c88fb577338f609466d72902d68b79940487ad9ceac43f8fff2fde12b", func := "loop.example/regularlanguages/laws.FnExactDeriveWord", spec := "fnExactDeriveWord", recurses := true, apart := false, narrowed := true }
def FnExactDeriveWordUptoSaid : Prop := fnExactDeriveWordUptoRow.holds Try.pinned (OpenSpec.upto fnExactDeriveWordSpec)

end Rows
end Go.Proofs.Ytadibjjjdbglaaa
