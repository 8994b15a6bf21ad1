/-
  No cell of these rows narrows 'for every input' (looked for: loops, veiled, ifaces, maps, wideKeys, modest, calm, conditions, laid).
  DERIVED. THE GIVEN ROWS OF THIS SEAT. 12 by the template 'for every input the law returns true; each argument reads behind the call as it read before'; 0 by the template 'total and deterministic' (their statements: YtcphbncgkemdoaaTotals.lean).
  GIVEN WITH THE SEED: the statements are not yours to turn. If you find one false, say at which input.
  Laid BY PROGRAM, IN A SANDBOX (cutbox-rows.mjs): the forced cells as the released guide's own fill.sh prints them over the translation 364b4de58463ec6a… (all of the seat's roots in one cut). By AI agents, Wed Nov 11 2026. No macro, syntax, notation, axiom, sorry.
-/
import Derived.Test.YtcphbncgkemdoaaChecked
import GoSem.Claim
import GoSem.ClaimJoined
import GoSem.ClaimMapViews
import Derived.JoinedTies
import Derived.KernelRfl
namespace Go.Proofs.Ytcphbncgkemdoaa
/- THE CELL 'sum', in the pinned program and in every row, IS THE sha256 OF THE DUMP (.gsa) THAT YtcphbncgkemdoaaProg.lean LOADS. Nothing in Lean hashes anything: it is a label: what it is worth is what the hold of that sum in a sandbox is worth. -/
noncomputable def Try.pinned : Pinned := { name := "ytcphbncgkemdoaa", sum := "364b4de58463ec6a5a17b9f66ece31263718f9020b8654f3259589804853485c", checked := Try.checked }
namespace Rows
def none {H : Type} : Left H := { results := [], args := [] }

/-- 'laws.FnExactConstants': WHATEVER THE INPUT: true; the input reads as it did. -/
def fnExactConstantsSpec : ChangeSpec := { name := "fnExactConstants", fn := fun _ => fun
  | [] => { results := [.lit (.bool true)], args := [] }
  | _ => none }
def fnExactConstantsRow : OpenClaim := { program := "ytcphbncgkemdoaa", sum := "364b4de58463ec6a5a17b9f66ece31263718f9020b8654f3259589804853485c", func := "loop.example/regularlanguages/laws.FnExactConstants", spec := "fnExactConstants", apart := false }
def FnExactConstantsSaid : Prop := fnExactConstantsRow.holds Try.pinned (OpenSpec.ofChange fnExactConstantsSpec)

/-- ITS FALSE NEIGHBOUR: 'it returns false'. Refute it at one input. -/
def fnExactConstantsWrong : ChangeSpec := { name := "fnExactConstants", fn := fun _ => fun
  | [] => { results := [.lit (.bool false)], args := [] }
  | _ => none }
def FnExactConstantsWrongFalsely : Prop := fnExactConstantsRow.holds Try.pinned (OpenSpec.ofChange fnExactConstantsWrong)

/-- 'laws.FnExactPartValid': WHATEVER THE INPUT: true; the input reads as it did. -/
def fnExactPartValidSpec : ChangeSpec := { name := "fnExactPartValid", fn := fun _ => fun
  | [d] => { results := [.lit (.bool true)], args := [d] }
  | _ => none }
def fnExactPartValidRow : OpenClaim := { program := "ytcphbncgkemdoaa", sum := "364b4de58463ec6a5a17b9f66ece31263718f9020b8654f3259589804853485c", func := "loop.example/regularlanguages/laws.FnExactPartValid", spec := "fnExactPartValid", apart := false }
def FnExactPartValidSaid : Prop := fnExactPartValidRow.holds Try.pinned (OpenSpec.ofChange fnExactPartValidSpec)

/-- ITS FALSE NEIGHBOUR: 'it returns false'. Refute it at one input. -/
def fnExactPartValidWrong : ChangeSpec := { name := "fnExactPartValid", fn := fun _ => fun
  | [d] => { results := [.lit (.bool false)], args := [d] }
  | _ => none }
def FnExactPartValidWrongFalsely : Prop := fnExactPartValidRow.holds Try.pinned (OpenSpec.ofChange fnExactPartValidWrong)

/-- 'laws.FnExactWordValid': WHATEVER THE INPUT: true; the input reads as it did. -/
def fnExactWordValidSpec : ChangeSpec := { name := "fnExactWordValid", fn := fun _ => fun
  | [d] => { results := [.lit (.bool true)], args := [d] }
  | _ => none }
def fnExactWordValidRow : OpenClaim := { program := "ytcphbncgkemdoaa", sum := "364b4de58463ec6a5a17b9f66ece31263718f9020b8654f3259589804853485c", func := "loop.example/regularlanguages/laws.FnExactWordValid", spec := "fnExactWordValid", apart := false }
def FnExactWordValidSaid : Prop := fnExactWordValidRow.holds Try.pinned (OpenSpec.ofChange fnExactWordValidSpec)

/-- ITS FALSE NEIGHBOUR: 'it returns false'. Refute it at one input. -/
def fnExactWordValidWrong : ChangeSpec := { name := "fnExactWordValid", fn := fun _ => fun
  | [d] => { results := [.lit (.bool false)], args := [d] }
  | _ => none }
def FnExactWordValidWrongFalsely : Prop := fnExactWordValidRow.holds Try.pinned (OpenSpec.ofChange fnExactWordValidWrong)

/-- 'laws.FnExactWordsOf': WHATEVER THE INPUT: true; the input reads as it did. -/
def fnExactWordsOfSpec : ChangeSpec := { name := "fnExactWordsOf", fn := fun _ => fun
  | [d] => { results := [.lit (.bool true)], args := [d] }
  | _ => none }
def fnExactWordsOfRow : OpenClaim := { program := "ytcphbncgkemdoaa", sum := "364b4de58463ec6a5a17b9f66ece31263718f9020b8654f3259589804853485c", func := "loop.example/regularlanguages/laws.FnExactWordsOf", spec := "fnExactWordsOf", apart := false }
def FnExactWordsOfSaid : Prop := fnExactWordsOfRow.holds Try.pinned (OpenSpec.ofChange fnExactWordsOfSpec)

/-- ITS FALSE NEIGHBOUR: 'it returns false'. Refute it at one input. -/
def fnExactWordsOfWrong : ChangeSpec := { name := "fnExactWordsOf", fn := fun _ => fun
  | [d] => { results := [.lit (.bool false)], args := [d] }
  | _ => none }
def FnExactWordsOfWrongFalsely : Prop := fnExactWordsOfRow.holds Try.pinned (OpenSpec.ofChange fnExactWordsOfWrong)

/-- 'laws.FnExactTurnWord': WHATEVER THE INPUT: true; the input reads as it did. -/
def fnExactTurnWordSpec : ChangeSpec := { name := "fnExactTurnWord", fn := fun _ => fun
  | [d] => { results := [.lit (.bool true)], args := [d] }
  | _ => none }
def fnExactTurnWordRow : OpenClaim := { program := "ytcphbncgkemdoaa", sum := "364b4de58463ec6a5a17b9f66ece31263718f9020b8654f3259589804853485c", func := "loop.example/regularlanguages/laws.FnExactTurnWord", spec := "fnExactTurnWord", apart := false }
def FnExactTurnWordSaid : Prop := fnExactTurnWordRow.holds Try.pinned (OpenSpec.ofChange fnExactTurnWordSpec)

/-- ITS FALSE NEIGHBOUR: 'it returns false'. Refute it at one input. -/
def fnExactTurnWordWrong : ChangeSpec := { name := "fnExactTurnWord", fn := fun _ => fun
  | [d] => { results := [.lit (.bool false)], args := [d] }
  | _ => none }
def FnExactTurnWordWrongFalsely : Prop := fnExactTurnWordRow.holds Try.pinned (OpenSpec.ofChange fnExactTurnWordWrong)

/-- 'laws.FnExactPartNeeds': WHATEVER THE INPUT: true; the input reads as it did. -/
def fnExactPartNeedsSpec : ChangeSpec := { name := "fnExactPartNeeds", fn := fun _ => fun
  | [d] => { results := [.lit (.bool true)], args := [d] }
  | _ => none }
def fnExactPartNeedsRow : OpenClaim := { program := "ytcphbncgkemdoaa", sum := "364b4de58463ec6a5a17b9f66ece31263718f9020b8654f3259589804853485c", func := "loop.example/regularlanguages/laws.FnExactPartNeeds", spec := "fnExactPartNeeds", apart := false }
def FnExactPartNeedsSaid : Prop := fnExactPartNeedsRow.holds Try.pinned (OpenSpec.ofChange fnExactPartNeedsSpec)

/-- ITS FALSE NEIGHBOUR: 'it returns false'. Refute it at one input. -/
def fnExactPartNeedsWrong : ChangeSpec := { name := "fnExactPartNeeds", fn := fun _ => fun
  | [d] => { results := [.lit (.bool false)], args := [d] }
  | _ => none }
def FnExactPartNeedsWrongFalsely : Prop := fnExactPartNeedsRow.holds Try.pinned (OpenSpec.ofChange fnExactPartNeedsWrong)

/-- 'laws.FnExactWordAt': WHATEVER THE INPUT: true; the input reads as it did. -/
def fnExactWordAtSpec : ChangeSpec := { name := "fnExactWordAt", fn := fun _ => fun
  | [d] => { results := [.lit (.bool true)], args := [d] }
  | _ => none }
def fnExactWordAtRow : OpenClaim := { program := "ytcphbncgkemdoaa", sum := "364b4de58463ec6a5a17b9f66ece31263718f9020b8654f3259589804853485c", func := "loop.example/regularlanguages/laws.FnExactWordAt", spec := "fnExactWordAt", apart := false }
def FnExactWordAtSaid : Prop := fnExactWordAtRow.holds Try.pinned (OpenSpec.ofChange fnExactWordAtSpec)

/-- ITS FALSE NEIGHBOUR: 'it returns false'. Refute it at one input. -/
def fnExactWordAtWrong : ChangeSpec := { name := "fnExactWordAt", fn := fun _ => fun
  | [d] => { results := [.lit (.bool false)], args := [d] }
  | _ => none }
def FnExactWordAtWrongFalsely : Prop := fnExactWordAtRow.holds Try.pinned (OpenSpec.ofChange fnExactWordAtWrong)

/-- 'laws.FnExactWordRank': WHATEVER THE INPUT: true; the input reads as it did. -/
def fnExactWordRankSpec : ChangeSpec := { name := "fnExactWordRank", fn := fun _ => fun
  | [d] => { results := [.lit (.bool true)], args := [d] }
  | _ => none }
def fnExactWordRankRow : OpenClaim := { program := "ytcphbncgkemdoaa", sum := "364b4de58463ec6a5a17b9f66ece31263718f9020b8654f3259589804853485c", func := "loop.example/regularlanguages/laws.FnExactWordRank", spec := "fnExactWordRank", apart := false }
def FnExactWordRankSaid : Prop := fnExactWordRankRow.holds Try.pinned (OpenSpec.ofChange fnExactWordRankSpec)

/-- ITS FALSE NEIGHBOUR: 'it returns false'. Refute it at one input. -/
def fnExactWordRankWrong : ChangeSpec := { name := "fnExactWordRank", fn := fun _ => fun
  | [d] => { results := [.lit (.bool false)], args := [d] }
  | _ => none }
def FnExactWordRankWrongFalsely : Prop := fnExactWordRankRow.holds Try.pinned (OpenSpec.ofChange fnExactWordRankWrong)

/-- 'laws.FnExactExprValid': WHATEVER THE INPUT: true; the input reads as it did. -/
def fnExactExprValidSpec : ChangeSpec := { name := "fnExactExprValid", fn := fun _ => fun
  | [d] => { results := [.lit (.bool true)], args := [d] }
  | _ => none }
def fnExactExprValidRow : OpenClaim := { program := "ytcphbncgkemdoaa", sum := "364b4de58463ec6a5a17b9f66ece31263718f9020b8654f3259589804853485c", func := "loop.example/regularlanguages/laws.FnExactExprValid", spec := "fnExactExprValid", apart := false }
def FnExactExprValidSaid : Prop := fnExactExprValidRow.holds Try.pinned (OpenSpec.ofChange fnExactExprValidSpec)

/-- ITS FALSE NEIGHBOUR: 'it returns false'. Refute it at one input. -/
def fnExactExprValidWrong : ChangeSpec := { name := "fnExactExprValid", fn := fun _ => fun
  | [d] => { results := [.lit (.bool false)], args := [d] }
  | _ => none }
def FnExactExprValidWrongFalsely : Prop := fnExactExprValidRow.holds Try.pinned (OpenSpec.ofChange fnExactExprValidWrong)

/-- 'laws.FnExactDfaValid': WHATEVER THE INPUT: true; the input reads as it did. -/
def fnExactDfaValidSpec : ChangeSpec := { name := "fnExactDfaValid", fn := fun _ => fun
  | [d] => { results := [.lit (.bool true)], args := [d] }
  | _ => none }
def fnExactDfaValidRow : OpenClaim := { program := "ytcphbncgkemdoaa", sum := "364b4de58463ec6a5a17b9f66ece31263718f9020b8654f3259589804853485c", func := "loop.example/regularlanguages/laws.FnExactDfaValid", spec := "fnExactDfaValid", unfollowed := true, recurses := true, apart := false }
def FnExactDfaValidSaid : Prop := fnExactDfaValidRow.holds Try.pinned (OpenSpec.ofChange fnExactDfaValidSpec)

/-- ITS FALSE NEIGHBOUR: 'it returns false'. Refute it at one input. -/
def fnExactDfaValidWrong : ChangeSpec := { name := "fnExactDfaValid", fn := fun _ => fun
  | [d] => { results := [.lit (.bool false)], args := [d] }
  | _ => none }
def FnExactDfaValidWrongFalsely : Prop := fnExactDfaValidRow.holds Try.pinned (OpenSpec.ofChange fnExactDfaValidWrong)

/-- 'laws.FnExactNfaValid': WHATEVER THE INPUT: true; the input reads as it did. -/
def fnExactNfaValidSpec : ChangeSpec := { name := "fnExactNfaValid", fn := fun _ => fun
  | [d] => { results := [.lit (.bool true)], args := [d] }
  | _ => none }
def fnExactNfaValidRow : OpenClaim := { program := "ytcphbncgkemdoaa", sum := "364b4de58463ec6a5a17b9f66ece31263718f9020b8654f3259589804853485c", func := "loop.example/regularlanguages/laws.FnExactNfaValid", spec := "fnExactNfaValid", unfollowed := true, recurses := true, apart := false }
def FnExactNfaValidSaid : Prop := fnExactNfaValidRow.holds Try.pinned (OpenSpec.ofChange fnExactNfaValidSpec)

/-- ITS FALSE NEIGHBOUR: 'it returns false'. Refute it at one input. -/
def fnExactNfaValidWrong : ChangeSpec := { name := "fnExactNfaValid", fn := fun _ => fun
  | [d] => { results := [.lit (.bool false)], args := [d] }
  | _ => none }
def FnExactNfaValidWrongFalsely : Prop := fnExactNfaValidRow.holds Try.pinned (OpenSpec.ofChange fnExactNfaValidWrong)

/-- 'laws.FnExactDfaTrim': WHATEVER THE INPUT: true; the input reads as it did. -/
def fnExactDfaTrimSpec : ChangeSpec := { name := "fnExactDfaTrim", fn := fun _ => fun
  | [d] => { results := [.lit (.bool true)], args := [d] }
  | _ => none }
def fnExactDfaTrimRow : OpenClaim := { program := "ytcphbncgkemdoaa", sum := "364b4de58463ec6a5a17b9f66ece31263718f9020b8654f3259589804853485c", func := "loop.example/regularlanguages/laws.FnExactDfaTrim", spec := "fnExactDfaTrim", unfollowed := true, recurses := true, apart := false }
def FnExactDfaTrimSaid : Prop := fnExactDfaTrimRow.holds Try.pinned (OpenSpec.ofChange fnExactDfaTrimSpec)

/-- ITS FALSE NEIGHBOUR: 'it returns false'. Refute it at one input. -/
def fnExactDfaTrimWrong : ChangeSpec := { name := "fnExactDfaTrim", fn := fun _ => fun
  | [d] => { results := [.lit (.bool false)], args := [d] }
  | _ => none }
def FnExactDfaTrimWrongFalsely : Prop := fnExactDfaTrimRow.holds Try.pinned (OpenSpec.ofChange fnExactDfaTrimWrong)

/- THE SECOND FORM. 'bulk': how many values and letters a reading holds, each counted each time it is reached (what is shared counts as often as it is met; a slice's spare places count too). A statement '..UptoSaid' is the law's where the arguments, and the package variables that the reading takes, are together of bulk at most 1048576: NARROWER than '..Said'. Prove '..Said' where nothing that the law and all that it calls make is longer than what came in: it says more and counts as full. Else prove '..UptoSaid'. A law counts once. -/
mutual
def uptoBulk {H : Type} : DataW H → Nat
  | .lit (.string bytes) => bytes.length + 1
  | .lit _ => 1
  | .nil => 1
  | .ptr d => uptoBulk d + 1
  | .slice elems spare => uptoBulkAll elems + uptoBulkAll spare + 1
  | .agg parts => uptoBulkAll parts + 1
  | .iface _ d => uptoBulk d + 1
  | .map entries => uptoBulkEntries entries + 1
  | .held _ => 1
def uptoBulkAll {H : Type} : List (DataW H) → Nat
  | [] => 0
  | d :: r => uptoBulk d + uptoBulkAll r
def uptoBulkEntries {H : Type} : List (Lit × DataW H) → Nat
  | [] => 0
  | x :: r => uptoBulkEntry x + uptoBulkEntries r
def uptoBulkEntry {H : Type} : Lit × DataW H → Nat
  | (.string bytes, d) => bytes.length + uptoBulk d + 1
  | (_, d) => uptoBulk d + 1
 end
def uptoSmall : (H : Type) → List (DataW H) → Bool := fun _ ds => decide (uptoBulkAll ds ≤ 1048576)
def OpenSpec.upto (s : _root_.Go.ChangeSpec) : _root_.Go.OpenSpec := { _root_.Go.OpenSpec.ofChange s with cond := some uptoSmall }

/-- 'laws.FnExactConstants', WHERE WHAT IT READS IS OF BULK AT MOST 1048576: true; the input reads as it did. -/
def fnExactConstantsUptoRow : OpenClaim := { program := "ytcphbncgkemdoaa", sum := "364b4de58463ec6a5a17b9f66ece31263718f9020b8654f3259589804853485c", func := "loop.example/regularlanguages/laws.FnExactConstants", spec := "fnExactConstants", apart := false, narrowed := true }
def FnExactConstantsUptoSaid : Prop := fnExactConstantsUptoRow.holds Try.pinned (OpenSpec.upto fnExactConstantsSpec)

/-- 'laws.FnExactPartValid', WHERE WHAT IT READS IS OF BULK AT MOST 1048576: true; the input reads as it did. -/
def fnExactPartValidUptoRow : OpenClaim := { program := "ytcphbncgkemdoaa", sum := "364b4de58463ec6a5a17b9f66ece31263718f9020b8654f3259589804853485c", func := "loop.example/regularlanguages/laws.FnExactPartValid", spec := "fnExactPartValid", apart := false, narrowed := true }
def FnExactPartValidUptoSaid : Prop := fnExactPartValidUptoRow.holds Try.pinned (OpenSpec.upto fnExactPartValidSpec)

/-- 'laws.FnExactWordValid', WHERE WHAT IT READS IS OF BULK AT MOST 1048576: true; the input reads as it did. -/
def fnExactWordValidUptoRow : OpenClaim := { program := "ytcphbncgkemdoaa", sum := "364b4de58463ec6a5a17b9f66ece31263718f9020b8654f3259589804853485c", func := "loop.example/regularlanguages/laws.FnExactWordValid", spec := "fnExactWordValid", apart := false, narrowed := true }
def FnExactWordValidUptoSaid : Prop := fnExactWordValidUptoRow.holds Try.pinned (OpenSpec.upto fnExactWordValidSpec)

/-- 'laws.FnExactWordsOf', WHERE WHAT IT READS IS OF BULK AT MOST 1048576: true; the input reads as it did. -/
def fnExactWordsOfUptoRow : OpenClaim := { program := "ytcphbncgkemdoaa", sum := "364b4de58463ec6a5a17b9f66ece31263718f9020b8654f3259589804853485c", func := "loop.example/regularlanguages/laws.FnExactWordsOf", spec := "fnExactWordsOf", apart := false, narrowed := true }
def FnExactWordsOfUptoSaid : Prop := fnExactWordsOfUptoRow.holds Try.pinned (OpenSpec.upto fnExactWordsOfSpec)

/-- 'laws.FnExactTurnWord', WHERE WHAT IT READS IS OF BULK AT MOST 1048576: true; the input reads as it did. -/
def fnExactTurnWordUptoRow : OpenClaim := { program := "ytcphbncgkemdoaa", sum := "364b4de58463ec6a5a17b9f66ece31263718f9020b8654f3259589804853485c", func := "loop.example/regularlanguages/laws.FnExactTurnWord", spec := "fnExactTurnWord", apart := false, narrowed := true }
def FnExactTurnWordUptoSaid : Prop := fnExactTurnWordUptoRow.holds Try.pinned (OpenSpec.upto fnExactTurnWordSpec)

/-- 'laws.FnExactPartNeeds', WHERE WHAT IT READS IS OF BULK AT MOST 1048576: true; the input reads as it did. -/
def fnExactPartNeedsUptoRow : OpenClaim := { program := "ytcphbncgkemdoaa", sum := "364b4de58463ec6a5a17b9f66ece31263718f9020b8654f3259589804853485c", func := "loop.example/regularlanguages/laws.FnExactPartNeeds", spec := "fnExactPartNeeds", apart := false, narrowed := true }
def FnExactPartNeedsUptoSaid : Prop := fnExactPartNeedsUptoRow.holds Try.pinned (OpenSpec.upto fnExactPartNeedsSpec)

/-- 'laws.FnExactWordAt', WHERE WHAT IT READS IS OF BULK AT MOST 1048576: true; the input reads as it did. -/
def fnExactWordAtUptoRow : OpenClaim := { program := "ytcphbncgkemdoaa", sum := "364b4de58463ec6a5a17b9f66ece31263718f9020b8654f3259589804853485c", func := "loop.example/regularlanguages/laws.FnExactWordAt", spec := "fnExactWordAt", apart := false, narrowed := true }
def FnExactWordAtUptoSaid : Prop := fnExactWordAtUptoRow.holds Try.pinned (OpenSpec.upto fnExactWordAtSpec)

/-- 'laws.FnExactWordRank', WHERE WHAT IT READS IS OF BULK AT MOST 1048576: true; the input reads as it did. -/
def fnExactWordRankUptoRow : OpenClaim := { program := "ytcphbncgkemdoaa", sum := "364b4de58463ec6a5a17b9f66ece31263718f9020b8654f3259589804853485c", func := "loop.example/regularlanguages/laws.FnExactWordRank", spec := "fnExactWordRank", apart := false, narrowed := true }
def FnExactWordRankUptoSaid : Prop := fnExactWordRankUptoRow.holds Try.pinned (OpenSpec.upto fnExactWordRankSpec)

/-- 'laws.FnExactExprValid', WHERE WHAT IT READS IS OF BULK AT MOST 1048576: true; the input reads as it did. -/
def fnExactExprValidUptoRow : OpenClaim := { program := "ytcphbncgkemdoaa", sum := "364b4de58463ec6a5a17b9f66ece31263718f9020b8654f3259589804853485c", func := "loop.example/regularlanguages/laws.FnExactExprValid", spec := "fnExactExprValid", apart := false, narrowed := true }
def FnExactExprValidUptoSaid : Prop := fnExactExprValidUptoRow.holds Try.pinned (OpenSpec.upto fnExactExprValidSpec)

/-- 'laws.FnExactDfaValid', WHERE WHAT IT READS IS OF BULK AT MOST 1048576: true; the input reads as it did. -/
def fnExactDfaValidUptoRow : OpenClaim := { program := "ytcphbncgkemdoaa", sum := "364b4de58463ec6a5a17b9f66ece31263718f9020b8654f3259589804853485c", func := "loop.example/regularlanguages/laws.FnExactDfaValid", spec := "fnExactDfaValid", unfollowed := true, recurses := true, apart := false, narrowed := true }
def FnExactDfaValidUptoSaid : Prop := fnExactDfaValidUptoRow.holds Try.pinned (OpenSpec.upto fnExactDfaValidSpec)

/-- 'laws.FnExactNfaValid', WHERE WHAT IT READS IS OF BULK AT MOST 1048576: true; the input reads as it did. -/
def fnExactNfaValidUptoRow : OpenClaim := { program := "ytcphbncgkemdoaa", sum := "364b4de58463ec6a5a17b9f66ece31263718f9020b8654f3259589804853485c", func := "loop.example/regularlanguages/laws.FnExactNfaValid", spec := "fnExactNfaValid", unfollowed := true, recurses := true, apart := false, narrowed := true }
def FnExactNfaValidUptoSaid : Prop := fnExactNfaValidUptoRow.holds Try.pinned (OpenSpec.upto fnExactNfaValidSpec)

/-- 'laws.FnExactDfaTrim', WHERE WHAT IT READS IS OF BULK AT MOST 1048576: true; the input reads as it did. -/
def fnExactDfaTrimUptoRow : OpenClaim := { program := "ytcphbncgkemdoaa", sum := "364b4de58463ec6a5a17b9f66ece31263718f9020b8654f3259589804853485c", func := "loop.example/regularlanguages/laws.FnExactDfaTrim", spec := "fnExactDfaTrim", unfollowed := true, recurses := true, apart := false, narrowed := true }
def FnExactDfaTrimUptoSaid : Prop := fnExactDfaTrimUptoRow.holds Try.pinned (OpenSpec.upto fnExactDfaTrimSpec)

end Rows
end Go.Proofs.Ytcphbncgkemdoaa
