/-
  No cell of these rows narrows 'for every input' (looked for: loops, veiled, ifaces, maps, wideKeys, modest, calm, conditions, laid).
  DERIVED. THE GIVEN ROWS OF THIS SEAT. 7 by the template 'for every input the law returns true; each argument reads behind the call as it read before'; 0 by the template 'total and deterministic' (their statements: YtglffbkldffipaaTotals.lean).
  GIVEN WITH THE SEED: the statements are not yours to turn. If you find one false, say at which input.
  Laid BY PROGRAM, IN A SANDBOX (cutbox-rows.mjs): the forced cells as the released guide's own fill.sh prints them over the translation c73cc2b9af7cfb90… (all of the seat's roots in one cut). By AI agents, Wed Nov 11 2026. No macro, syntax, notation, axiom, sorry.
-/
import Derived.Test.YtglffbkldffipaaChecked
import GoSem.Claim
import GoSem.ClaimJoined
import GoSem.ClaimMapViews
import Derived.JoinedTies
import Derived.KernelRfl
namespace Go.Proofs.Ytglffbkldffipaa
/- THE CELL 'sum', in the pinned program and in every row, IS THE sha256 OF THE DUMP (.gsa) THAT YtglffbkldffipaaProg.lean LOADS. Nothing in Lean hashes anything: it is a label: what it is worth is what the hold of that sum in a sandbox is worth. -/
noncomputable def Try.pinned : Pinned := { name := "ytglffbkldffipaa", sum := "c73cc2b9af7cfb90452ea89b49e53195623a10820da7b24d9794ce0f816eace4", checked := Try.checked }
namespace Rows
def none {H : Type} : Left H := { results := [], args := [] }

/-- 'laws.FnExactTextFault': WHATEVER THE INPUT: true; the input reads as it did. -/
def fnExactTextFaultSpec : ChangeSpec := { name := "fnExactTextFault", fn := fun _ => fun
  | [d] => { results := [.lit (.bool true)], args := [d] }
  | _ => none }
def fnExactTextFaultRow : OpenClaim := { program := "ytglffbkldffipaa", sum := "c73cc2b9af7cfb90452ea89b49e53195623a10820da7b24d9794ce0f816eace4", func := "loop.example/regularlanguages/laws.FnExactTextFault", spec := "fnExactTextFault", inPlace := ["internal/bytealg.IndexByteString"], apart := false }
def FnExactTextFaultSaid : Prop := fnExactTextFaultRow.holds Try.pinned (OpenSpec.ofChange fnExactTextFaultSpec)

/-- ITS FALSE NEIGHBOUR: 'it returns false'. Refute it at one input. -/
def fnExactTextFaultWrong : ChangeSpec := { name := "fnExactTextFault", fn := fun _ => fun
  | [d] => { results := [.lit (.bool false)], args := [d] }
  | _ => none }
def FnExactTextFaultWrongFalsely : Prop := fnExactTextFaultRow.holds Try.pinned (OpenSpec.ofChange fnExactTextFaultWrong)

/-- 'laws.FnExactExprText': WHATEVER THE INPUT: true; the input reads as it did. -/
def fnExactExprTextSpec : ChangeSpec := { name := "fnExactExprText", fn := fun _ => fun
  | [d] => { results := [.lit (.bool true)], args := [d] }
  | _ => none }
def fnExactExprTextRow : OpenClaim := { program := "ytglffbkldffipaa", sum := "c73cc2b9af7cfb90452ea89b49e53195623a10820da7b24d9794ce0f816eace4", func := "loop.example/regularlanguages/laws.FnExactExprText", spec := "fnExactExprText", recurses := true, apart := false }
def FnExactExprTextSaid : Prop := fnExactExprTextRow.holds Try.pinned (OpenSpec.ofChange fnExactExprTextSpec)

/-- ITS FALSE NEIGHBOUR: 'it returns false'. Refute it at one input. -/
def fnExactExprTextWrong : ChangeSpec := { name := "fnExactExprText", fn := fun _ => fun
  | [d] => { results := [.lit (.bool false)], args := [d] }
  | _ => none }
def FnExactExprTextWrongFalsely : Prop := fnExactExprTextRow.holds Try.pinned (OpenSpec.ofChange fnExactExprTextWrong)

/-- 'laws.FnTextEither': WHATEVER THE INPUT: true; the input reads as it did. -/
def fnTextEitherSpec : ChangeSpec := { name := "fnTextEither", fn := fun _ => fun
  | [d1, d2] => { results := [.lit (.bool true)], args := [d1, d2] }
  | _ => none }
def fnTextEitherRow : OpenClaim := { program := "ytglffbkldffipaa", sum := "c73cc2b9af7cfb90452ea89b49e53195623a10820da7b24d9794ce0f816eace4", func := "loop.example/regularlanguages/laws.FnTextEither", spec := "fnTextEither", recurses := true, apart := false }
def FnTextEitherSaid : Prop := fnTextEitherRow.holds Try.pinned (OpenSpec.ofChange fnTextEitherSpec)

/-- ITS FALSE NEIGHBOUR: 'it returns false'. Refute it at one input. -/
def fnTextEitherWrong : ChangeSpec := { name := "fnTextEither", fn := fun _ => fun
  | [d1, d2] => { results := [.lit (.bool false)], args := [d1, d2] }
  | _ => none }
def FnTextEitherWrongFalsely : Prop := fnTextEitherRow.holds Try.pinned (OpenSpec.ofChange fnTextEitherWrong)

/-- 'laws.FnExactReadExpr': WHATEVER THE INPUT: true; the input reads as it did. -/
def fnExactReadExprSpec : ChangeSpec := { name := "fnExactReadExpr", fn := fun _ => fun
  | [d] => { results := [.lit (.bool true)], args := [d] }
  | _ => none }
def fnExactReadExprRow : OpenClaim := { program := "ytglffbkldffipaa", sum := "c73cc2b9af7cfb90452ea89b49e53195623a10820da7b24d9794ce0f816eace4", func := "loop.example/regularlanguages/laws.FnExactReadExpr", spec := "fnExactReadExpr", inPlace := ["internal/bytealg.IndexByteString"], recurses := true, apart := false }
def FnExactReadExprSaid : Prop := fnExactReadExprRow.holds Try.pinned (OpenSpec.ofChange fnExactReadExprSpec)

/-- ITS FALSE NEIGHBOUR: 'it returns false'. Refute it at one input. -/
def fnExactReadExprWrong : ChangeSpec := { name := "fnExactReadExpr", fn := fun _ => fun
  | [d] => { results := [.lit (.bool false)], args := [d] }
  | _ => none }
def FnExactReadExprWrongFalsely : Prop := fnExactReadExprRow.holds Try.pinned (OpenSpec.ofChange fnExactReadExprWrong)

/-- 'laws.FnTextFault': WHATEVER THE INPUT: true; the input reads as it did. -/
def fnTextFaultSpec : ChangeSpec := { name := "fnTextFault", fn := fun _ => fun
  | [d] => { results := [.lit (.bool true)], args := [d] }
  | _ => none }
def fnTextFaultRow : OpenClaim := { program := "ytglffbkldffipaa", sum := "c73cc2b9af7cfb90452ea89b49e53195623a10820da7b24d9794ce0f816eace4", func := "loop.example/regularlanguages/laws.FnTextFault", spec := "fnTextFault", inPlace := ["internal/bytealg.IndexByteString"], recurses := true, apart := false }
def FnTextFaultSaid : Prop := fnTextFaultRow.holds Try.pinned (OpenSpec.ofChange fnTextFaultSpec)

/-- ITS FALSE NEIGHBOUR: 'it returns false'. Refute it at one input. -/
def fnTextFaultWrong : ChangeSpec := { name := "fnTextFault", fn := fun _ => fun
  | [d] => { results := [.lit (.bool false)], args := [d] }
  | _ => none }
def FnTextFaultWrongFalsely : Prop := fnTextFaultRow.holds Try.pinned (OpenSpec.ofChange fnTextFaultWrong)

/-- 'laws.FnExprText': WHATEVER THE INPUT: true; the input reads as it did. -/
def fnExprTextSpec : ChangeSpec := { name := "fnExprText", fn := fun _ => fun
  | [d] => { results := [.lit (.bool true)], args := [d] }
  | _ => none }
def fnExprTextRow : OpenClaim := { program := "ytglffbkldffipaa", sum := "c73cc2b9af7cfb90452ea89b49e53195623a10820da7b24d9794ce0f816eace4", func := "loop.example/regularlanguages/laws.FnExprText", spec := "fnExprText", inPlace := ["internal/bytealg.IndexByteString"], recurses := true, apart := false }
def FnExprTextSaid : Prop := fnExprTextRow.holds Try.pinned (OpenSpec.ofChange fnExprTextSpec)

/-- ITS FALSE NEIGHBOUR: 'it returns false'. Refute it at one input. -/
def fnExprTextWrong : ChangeSpec := { name := "fnExprText", fn := fun _ => fun
  | [d] => { results := [.lit (.bool false)], args := [d] }
  | _ => none }
def FnExprTextWrongFalsely : Prop := fnExprTextRow.holds Try.pinned (OpenSpec.ofChange fnExprTextWrong)

/-- 'laws.FnReadExpr': WHATEVER THE INPUT: true; the input reads as it did. -/
def fnReadExprSpec : ChangeSpec := { name := "fnReadExpr", fn := fun _ => fun
  | [d] => { results := [.lit (.bool true)], args := [d] }
  | _ => none }
def fnReadExprRow : OpenClaim := { program := "ytglffbkldffipaa", sum := "c73cc2b9af7cfb90452ea89b49e53195623a10820da7b24d9794ce0f816eace4", func := "loop.example/regularlanguages/laws.FnReadExpr", spec := "fnReadExpr", inPlace := ["internal/bytealg.IndexByteString"], recurses := true, apart := false }
def FnReadExprSaid : Prop := fnReadExprRow.holds Try.pinned (OpenSpec.ofChange fnReadExprSpec)

/-- ITS FALSE NEIGHBOUR: 'it returns false'. Refute it at one input. -/
def fnReadExprWrong : ChangeSpec := { name := "fnReadExpr", fn := fun _ => fun
  | [d] => { results := [.lit (.bool false)], args := [d] }
  | _ => none }
def FnReadExprWrongFalsely : Prop := fnReadExprRow.holds Try.pinned (OpenSpec.ofChange fnReadExprWrong)

/- THE SECOND FORM. 'bulk': how many values and letters a reading holds, each counted each time it is reached (what is shared counts as often as it is met; a slice's spare places count too). A statement '..UptoSaid' is the law's where the arguments, and the package variables that the reading takes, are together of bulk at most 1048576: NARROWER than '..Said'. Prove '..Said' where nothing that the law and all that it calls make is longer than what came in: it says more and counts as full. Else prove '..UptoSaid'. A law counts once. -/
mutual
def uptoBulk {H : Type} : DataW H → Nat
  | .lit (.string bytes) => bytes.length + 1
  | .lit _ => 1
  | .nil => 1
  | .ptr d => uptoBulk d + 1
  | .slice elems spare => uptoBulkAll elems + uptoBulkAll spare + 1
  | .agg parts => uptoBulkAll parts + 1
  | .iface _ d => uptoBulk d + 1
  | .map entries => uptoBulkEntries entries + 1
  | .held _ => 1
def uptoBulkAll {H : Type} : List (DataW H) → Nat
  | [] => 0
  | d :: r => uptoBulk d + uptoBulkAll r
def uptoBulkEntries {H : Type} : List (Lit × DataW H) → Nat
  | [] => 0
  | x :: r => uptoBulkEntry x + uptoBulkEntries r
def uptoBulkEntry {H : Type} : Lit × DataW H → Nat
  | (.string bytes, d) => bytes.length + uptoBulk d + 1
  | (_, d) => uptoBulk d + 1
 end
def uptoSmall : (H : Type) → List (DataW H) → Bool := fun _ ds => decide (uptoBulkAll ds ≤ 1048576)
def OpenSpec.upto (s : _root_.Go.ChangeSpec) : _root_.Go.OpenSpec := { _root_.Go.OpenSpec.ofChange s with cond := some uptoSmall }

/-- 'laws.FnExactTextFault', WHERE WHAT IT READS IS OF BULK AT MOST 1048576: true; the input reads as it did. -/
def fnExactTextFaultUptoRow : OpenClaim := { program := "ytglffbkldffipaa", sum := "c73cc2b9af7cfb90452ea89b49e53195623a10820da7b24d9794ce0f816eace4", func := "loop.example/regularlanguages/laws.FnExactTextFault", spec := "fnExactTextFault", inPlace := ["internal/bytealg.IndexByteString"], apart := false, narrowed := true }
def FnExactTextFaultUptoSaid : Prop := fnExactTextFaultUptoRow.holds Try.pinned (OpenSpec.upto fnExactTextFaultSpec)

/-- 'laws.FnExactExprText', WHERE WHAT IT READS IS OF BULK AT MOST 1048576: true; the input reads as it did. -/
def fnExactExprTextUptoRow : OpenClaim := { program := "ytglffbkldffipaa", sum := "c73cc2b9af7cfb90452ea89b49e53195623a10820da7b24d9794ce0f816eace4", func := "loop.example/regularlanguages/laws.FnExactExprText", spec := "fnExactExprText", recurses := true, apart := false, narrowed := true }
def FnExactExprTextUptoSaid : Prop := fnExactExprTextUptoRow.holds Try.pinned (OpenSpec.upto fnExactExprTextSpec)

/-- 'laws.FnTextEither', WHERE WHAT IT READS IS OF BULK AT MOST 1048576: true; the input reads as it did. -/
def fnTextEitherUptoRow : OpenClaim := { program := "ytglffbkldffipaa", sum := "c73cc2b9af7cfb90452ea89b49e53195623a10820da7b24d9794ce0f816eace4", func := "loop.example/regularlanguages/laws.FnTextEither", spec := "fnTextEither", recurses := true, apart := false, narrowed := true }
def FnTextEitherUptoSaid : Prop := fnTextEitherUptoRow.holds Try.pinned (OpenSpec.upto fnTextEitherSpec)

/-- 'laws.FnExactReadExpr', WHERE WHAT IT READS IS OF BULK AT MOST 1048576: true; the input reads as it did. -/
def fnExactReadExprUptoRow : OpenClaim := { program := "ytglffbkldffipaa", sum := "c73cc2b9af7cfb90452ea89b49e53195623a10820da7b24d9794ce0f816eace4", func := "loop.example/regularlanguages/laws.FnExactReadExpr", spec := "fnExactReadExpr", inPlace := ["internal/bytealg.IndexByteString"], recurses := true, apart := false, narrowed := true }
def FnExactReadExprUptoSaid : Prop := fnExactReadExprUptoRow.holds Try.pinned (OpenSpec.upto fnExactReadExprSpec)

/-- 'laws.FnTextFault', WHERE WHAT IT READS IS OF BULK AT MOST 1048576: true; the input reads as it did. -/
def fnTextFaultUptoRow : OpenClaim := { program := "ytglffbkldffipaa", sum := "c73cc2b9af7cfb90452ea89b49e53195623a10820da7b24d9794ce0f816eace4", func := "loop.example/regularlanguages/laws.FnTextFault", spec := "fnTextFault", inPlace := ["internal/bytealg.IndexByteString"], recurses := true, apart := false, narrowed := true }
def FnTextFaultUptoSaid : Prop := fnTextFaultUptoRow.holds Try.pinned (OpenSpec.upto fnTextFaultSpec)

/-- 'laws.FnExprText', WHERE WHAT IT READS IS OF BULK AT MOST 1048576: true; the input reads as it did. -/
def fnExprTextUptoRow : OpenClaim := { program := "ytglffbkldffipaa", sum := "c73cc2b9af7cfb90452ea89b49e53195623a10820da7b24d9794ce0f816eace4", func := "loop.example/regularlanguages/laws.FnExprText", spec := "fnExprText", inPlace := ["internal/bytealg.IndexByteString"], recurses := true, apart := false, narrowed := true }
def FnExprTextUptoSaid : Prop := fnExprTextUptoRow.holds Try.pinned (OpenSpec.upto fnExprTextSpec)

/-- 'laws.FnReadExpr', WHERE WHAT IT READS IS OF BULK AT MOST 1048576: true; the input reads as it did. -/
def fnReadExprUptoRow : OpenClaim := { program := "ytglffbkldffipaa", sum := "c73cc2b9af7cfb90452ea89b49e53195623a10820da7b24d9794ce0f816eace4", func := "loop.example/regularlanguages/laws.FnReadExpr", spec := "fnReadExpr", inPlace := ["internal/bytealg.IndexByteString"], recurses := true, apart := false, narrowed := true }
def FnReadExprUptoSaid : Prop := fnReadExprUptoRow.holds Try.pinned (OpenSpec.upto fnReadExprSpec)

end Rows
end Go.Proofs.Ytglffbkldffipaa
