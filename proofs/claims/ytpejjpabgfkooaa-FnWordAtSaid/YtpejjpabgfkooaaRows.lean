/-
  No cell of these rows narrows 'for every input' (looked for: loops, veiled, ifaces, maps, wideKeys, modest, calm, conditions, laid).
  DERIVED. THE GIVEN ROWS OF THIS SEAT. 9 by the template 'for every input the law returns true; each argument reads behind the call as it read before'; 0 by the template 'total and deterministic' (their statements: YtpejjpabgfkooaaTotals.lean).
  GIVEN WITH THE SEED: the statements are not yours to turn. If you find one false, say at which input.
  Laid BY PROGRAM, IN A SANDBOX (cutbox-rows.mjs): the forced cells as the released guide's own fill.sh prints them over the translation 6a4fb606d1af964a… (all of the seat's roots in one cut). By AI agents, Wed Nov 11 2026. No macro, syntax, notation, axiom, sorry.
-/
import Derived.Test.YtpejjpabgfkooaaChecked
import GoSem.Claim
import GoSem.ClaimJoined
import GoSem.ClaimMapViews
import Derived.JoinedTies
import Derived.KernelRfl
namespace Go.Proofs.Ytpejjpabgfkooaa
/- THE CELL 'sum', in the pinned program and in every row, IS THE sha256 OF THE DUMP (.gsa) THAT YtpejjpabgfkooaaProg.lean LOADS. Nothing in Lean hashes anything: it is a label: what it is worth is what the hold of that sum in a sandbox is worth. -/
noncomputable def Try.pinned : Pinned := { name := "ytpejjpabgfkooaa", sum := "6a4fb606d1af964a5a11ee23ddbfde101b38eeb9440ddc4bdee80ab1551f51b1", checked := Try.checked }
namespace Rows
def none {H : Type} : Left H := { results := [], args := [] }

/-- 'laws.FnWordsOf': WHATEVER THE INPUT: true; the input reads as it did. -/
def fnWordsOfSpec : ChangeSpec := { name := "fnWordsOf", fn := fun _ => fun
  | [d] => { results := [.lit (.bool true)], args := [d] }
  | _ => none }
def fnWordsOfRow : OpenClaim := { program := "ytpejjpabgfkooaa", sum := "6a4fb606d1af964a5a11ee23ddbfde101b38eeb9440ddc4bdee80ab1551f51b1", func := "loop.example/regularlanguages/laws.FnWordsOf", spec := "fnWordsOf", apart := false }
def FnWordsOfSaid : Prop := fnWordsOfRow.holds Try.pinned (OpenSpec.ofChange fnWordsOfSpec)

/-- ITS FALSE NEIGHBOUR: 'it returns false'. Refute it at one input. -/
def fnWordsOfWrong : ChangeSpec := { name := "fnWordsOf", fn := fun _ => fun
  | [d] => { results := [.lit (.bool false)], args := [d] }
  | _ => none }
def FnWordsOfWrongFalsely : Prop := fnWordsOfRow.holds Try.pinned (OpenSpec.ofChange fnWordsOfWrong)

/-- 'laws.FnWordValid': WHATEVER THE INPUT: true; the input reads as it did. -/
def fnWordValidSpec : ChangeSpec := { name := "fnWordValid", fn := fun _ => fun
  | [d] => { results := [.lit (.bool true)], args := [d] }
  | _ => none }
def fnWordValidRow : OpenClaim := { program := "ytpejjpabgfkooaa", sum := "6a4fb606d1af964a5a11ee23ddbfde101b38eeb9440ddc4bdee80ab1551f51b1", func := "loop.example/regularlanguages/laws.FnWordValid", spec := "fnWordValid", apart := false }
def FnWordValidSaid : Prop := fnWordValidRow.holds Try.pinned (OpenSpec.ofChange fnWordValidSpec)

/-- ITS FALSE NEIGHBOUR: 'it returns false'. Refute it at one input. -/
def fnWordValidWrong : ChangeSpec := { name := "fnWordValid", fn := fun _ => fun
  | [d] => { results := [.lit (.bool false)], args := [d] }
  | _ => none }
def FnWordValidWrongFalsely : Prop := fnWordValidRow.holds Try.pinned (OpenSpec.ofChange fnWordValidWrong)

/-- 'laws.FnPartValid': WHATEVER THE INPUT: true; the input reads as it did. -/
def fnPartValidSpec : ChangeSpec := { name := "fnPartValid", fn := fun _ => fun
  | [d] => { results := [.lit (.bool true)], args := [d] }
  | _ => none }
def fnPartValidRow : OpenClaim := { program := "ytpejjpabgfkooaa", sum := "6a4fb606d1af964a5a11ee23ddbfde101b38eeb9440ddc4bdee80ab1551f51b1", func := "loop.example/regularlanguages/laws.FnPartValid", spec := "fnPartValid", apart := false }
def FnPartValidSaid : Prop := fnPartValidRow.holds Try.pinned (OpenSpec.ofChange fnPartValidSpec)

/-- ITS FALSE NEIGHBOUR: 'it returns false'. Refute it at one input. -/
def fnPartValidWrong : ChangeSpec := { name := "fnPartValid", fn := fun _ => fun
  | [d] => { results := [.lit (.bool false)], args := [d] }
  | _ => none }
def FnPartValidWrongFalsely : Prop := fnPartValidRow.holds Try.pinned (OpenSpec.ofChange fnPartValidWrong)

/-- 'laws.FnRankLetter': WHATEVER THE INPUT: true; the input reads as it did. -/
def fnRankLetterSpec : ChangeSpec := { name := "fnRankLetter", fn := fun _ => fun
  | [d1, d2] => { results := [.lit (.bool true)], args := [d1, d2] }
  | _ => none }
def fnRankLetterRow : OpenClaim := { program := "ytpejjpabgfkooaa", sum := "6a4fb606d1af964a5a11ee23ddbfde101b38eeb9440ddc4bdee80ab1551f51b1", func := "loop.example/regularlanguages/laws.FnRankLetter", spec := "fnRankLetter", apart := false }
def FnRankLetterSaid : Prop := fnRankLetterRow.holds Try.pinned (OpenSpec.ofChange fnRankLetterSpec)

/-- ITS FALSE NEIGHBOUR: 'it returns false'. Refute it at one input. -/
def fnRankLetterWrong : ChangeSpec := { name := "fnRankLetter", fn := fun _ => fun
  | [d1, d2] => { results := [.lit (.bool false)], args := [d1, d2] }
  | _ => none }
def FnRankLetterWrongFalsely : Prop := fnRankLetterRow.holds Try.pinned (OpenSpec.ofChange fnRankLetterWrong)

/-- 'laws.FnTurnJoin': WHATEVER THE INPUT: true; the input reads as it did. -/
def fnTurnJoinSpec : ChangeSpec := { name := "fnTurnJoin", fn := fun _ => fun
  | [d1, d2] => { results := [.lit (.bool true)], args := [d1, d2] }
  | _ => none }
def fnTurnJoinRow : OpenClaim := { program := "ytpejjpabgfkooaa", sum := "6a4fb606d1af964a5a11ee23ddbfde101b38eeb9440ddc4bdee80ab1551f51b1", func := "loop.example/regularlanguages/laws.FnTurnJoin", spec := "fnTurnJoin", apart := false }
def FnTurnJoinSaid : Prop := fnTurnJoinRow.holds Try.pinned (OpenSpec.ofChange fnTurnJoinSpec)

/-- ITS FALSE NEIGHBOUR: 'it returns false'. Refute it at one input. -/
def fnTurnJoinWrong : ChangeSpec := { name := "fnTurnJoin", fn := fun _ => fun
  | [d1, d2] => { results := [.lit (.bool false)], args := [d1, d2] }
  | _ => none }
def FnTurnJoinWrongFalsely : Prop := fnTurnJoinRow.holds Try.pinned (OpenSpec.ofChange fnTurnJoinWrong)

/-- 'laws.FnTurnWord': WHATEVER THE INPUT: true; the input reads as it did. -/
def fnTurnWordSpec : ChangeSpec := { name := "fnTurnWord", fn := fun _ => fun
  | [d] => { results := [.lit (.bool true)], args := [d] }
  | _ => none }
def fnTurnWordRow : OpenClaim := { program := "ytpejjpabgfkooaa", sum := "6a4fb606d1af964a5a11ee23ddbfde101b38eeb9440ddc4bdee80ab1551f51b1", func := "loop.example/regularlanguages/laws.FnTurnWord", spec := "fnTurnWord", apart := false }
def FnTurnWordSaid : Prop := fnTurnWordRow.holds Try.pinned (OpenSpec.ofChange fnTurnWordSpec)

/-- ITS FALSE NEIGHBOUR: 'it returns false'. Refute it at one input. -/
def fnTurnWordWrong : ChangeSpec := { name := "fnTurnWord", fn := fun _ => fun
  | [d] => { results := [.lit (.bool false)], args := [d] }
  | _ => none }
def FnTurnWordWrongFalsely : Prop := fnTurnWordRow.holds Try.pinned (OpenSpec.ofChange fnTurnWordWrong)

/-- 'laws.FnWordRank': WHATEVER THE INPUT: true; the input reads as it did. -/
def fnWordRankSpec : ChangeSpec := { name := "fnWordRank", fn := fun _ => fun
  | [d] => { results := [.lit (.bool true)], args := [d] }
  | _ => none }
def fnWordRankRow : OpenClaim := { program := "ytpejjpabgfkooaa", sum := "6a4fb606d1af964a5a11ee23ddbfde101b38eeb9440ddc4bdee80ab1551f51b1", func := "loop.example/regularlanguages/laws.FnWordRank", spec := "fnWordRank", apart := false }
def FnWordRankSaid : Prop := fnWordRankRow.holds Try.pinned (OpenSpec.ofChange fnWordRankSpec)

/-- ITS FALSE NEIGHBOUR: 'it returns false'. Refute it at one input. -/
def fnWordRankWrong : ChangeSpec := { name := "fnWordRank", fn := fun _ => fun
  | [d] => { results := [.lit (.bool false)], args := [d] }
  | _ => none }
def FnWordRankWrongFalsely : Prop := fnWordRankRow.holds Try.pinned (OpenSpec.ofChange fnWordRankWrong)

/-- 'laws.FnPartNeeds': WHATEVER THE INPUT: true; the input reads as it did. -/
def fnPartNeedsSpec : ChangeSpec := { name := "fnPartNeeds", fn := fun _ => fun
  | [d] => { results := [.lit (.bool true)], args := [d] }
  | _ => none }
def fnPartNeedsRow : OpenClaim := { program := "ytpejjpabgfkooaa", sum := "6a4fb606d1af964a5a11ee23ddbfde101b38eeb9440ddc4bdee80ab1551f51b1", func := "loop.example/regularlanguages/laws.FnPartNeeds", spec := "fnPartNeeds", apart := false }
def FnPartNeedsSaid : Prop := fnPartNeedsRow.holds Try.pinned (OpenSpec.ofChange fnPartNeedsSpec)

/-- ITS FALSE NEIGHBOUR: 'it returns false'. Refute it at one input. -/
def fnPartNeedsWrong : ChangeSpec := { name := "fnPartNeeds", fn := fun _ => fun
  | [d] => { results := [.lit (.bool false)], args := [d] }
  | _ => none }
def FnPartNeedsWrongFalsely : Prop := fnPartNeedsRow.holds Try.pinned (OpenSpec.ofChange fnPartNeedsWrong)

/-- 'laws.FnWordAt': WHATEVER THE INPUT: true; the input reads as it did. -/
def fnWordAtSpec : ChangeSpec := { name := "fnWordAt", fn := fun _ => fun
  | [d] => { results := [.lit (.bool true)], args := [d] }
  | _ => none }
def fnWordAtRow : OpenClaim := { program := "ytpejjpabgfkooaa", sum := "6a4fb606d1af964a5a11ee23ddbfde101b38eeb9440ddc4bdee80ab1551f51b1", func := "loop.example/regularlanguages/laws.FnWordAt", spec := "fnWordAt", apart := false }
def FnWordAtSaid : Prop := fnWordAtRow.holds Try.pinned (OpenSpec.ofChange fnWordAtSpec)

/-- ITS FALSE NEIGHBOUR: 'it returns false'. Refute it at one input. -/
def fnWordAtWrong : ChangeSpec := { name := "fnWordAt", fn := fun _ => fun
  | [d] => { results := [.lit (.bool false)], args := [d] }
  | _ => none }
def FnWordAtWrongFalsely : Prop := fnWordAtRow.holds Try.pinned (OpenSpec.ofChange fnWordAtWrong)

/- THE SECOND FORM. 'bulk': how many values and letters a reading holds, each counted each time it is reached (what is shared counts as often as it is met; a slice's spare places count too). A statement '..UptoSaid' is the law's where the arguments, and the package variables that the reading takes, are together of bulk at most 1048576: NARROWER than '..Said'. Prove '..Said' where nothing that the law and all that it calls make is longer than what came in: it says more and counts as full. Else prove '..UptoSaid'. A law counts once. -/
mutual
def uptoBulk {H : Type} : DataW H → Nat
  | .lit (.string bytes) => bytes.length + 1
  | .lit _ => 1
  | .nil => 1
  | .ptr d => uptoBulk d + 1
  | .slice elems spare => uptoBulkAll elems + uptoBulkAll spare + 1
  | .agg parts => uptoBulkAll parts + 1
  | .iface _ d => uptoBulk d + 1
  | .map entries => uptoBulkEntries entries + 1
  | .held _ => 1
def uptoBulkAll {H : Type} : List (DataW H) → Nat
  | [] => 0
  | d :: r => uptoBulk d + uptoBulkAll r
def uptoBulkEntries {H : Type} : List (Lit × DataW H) → Nat
  | [] => 0
  | x :: r => uptoBulkEntry x + uptoBulkEntries r
def uptoBulkEntry {H : Type} : Lit × DataW H → Nat
  | (.string bytes, d) => bytes.length + uptoBulk d + 1
  | (_, d) => uptoBulk d + 1
 end
def uptoSmall : (H : Type) → List (DataW H) → Bool := fun _ ds => decide (uptoBulkAll ds ≤ 1048576)
def OpenSpec.upto (s : _root_.Go.ChangeSpec) : _root_.Go.OpenSpec := { _root_.Go.OpenSpec.ofChange s with cond := some uptoSmall }

/-- 'laws.FnWordsOf', WHERE WHAT IT READS IS OF BULK AT MOST 1048576: true; the input reads as it did. -/
def fnWordsOfUptoRow : OpenClaim := { program := "ytpejjpabgfkooaa", sum := "6a4fb606d1af964a5a11ee23ddbfde101b38eeb9440ddc4bdee80ab1551f51b1", func := "loop.example/regularlanguages/laws.FnWordsOf", spec := "fnWordsOf", apart := false, narrowed := true }
def FnWordsOfUptoSaid : Prop := fnWordsOfUptoRow.holds Try.pinned (OpenSpec.upto fnWordsOfSpec)

/-- 'laws.FnWordValid', WHERE WHAT IT READS IS OF BULK AT MOST 1048576: true; the input reads as it did. -/
def fnWordValidUptoRow : OpenClaim := { program := "ytpejjpabgfkooaa", sum := "6a4fb606d1af964a5a11ee23ddbfde101b38eeb9440ddc4bdee80ab1551f51b1", func := "loop.example/regularlanguages/laws.FnWordValid", spec := "fnWordValid", apart := false, narrowed := true }
def FnWordValidUptoSaid : Prop := fnWordValidUptoRow.holds Try.pinned (OpenSpec.upto fnWordValidSpec)

/-- 'laws.FnPartValid', WHERE WHAT IT READS IS OF BULK AT MOST 1048576: true; the input reads as it did. -/
def fnPartValidUptoRow : OpenClaim := { program := "ytpejjpabgfkooaa", sum := "6a4fb606d1af964a5a11ee23ddbfde101b38eeb9440ddc4bdee80ab1551f51b1", func := "loop.example/regularlanguages/laws.FnPartValid", spec := "fnPartValid", apart := false, narrowed := true }
def FnPartValidUptoSaid : Prop := fnPartValidUptoRow.holds Try.pinned (OpenSpec.upto fnPartValidSpec)

/-- 'laws.FnRankLetter', WHERE WHAT IT READS IS OF BULK AT MOST 1048576: true; the input reads as it did. -/
def fnRankLetterUptoRow : OpenClaim := { program := "ytpejjpabgfkooaa", sum := "6a4fb606d1af964a5a11ee23ddbfde101b38eeb9440ddc4bdee80ab1551f51b1", func := "loop.example/regularlanguages/laws.FnRankLetter", spec := "fnRankLetter", apart := false, narrowed := true }
def FnRankLetterUptoSaid : Prop := fnRankLetterUptoRow.holds Try.pinned (OpenSpec.upto fnRankLetterSpec)

/-- 'laws.FnTurnJoin', WHERE WHAT IT READS IS OF BULK AT MOST 1048576: true; the input reads as it did. -/
def fnTurnJoinUptoRow : OpenClaim := { program := "ytpejjpabgfkooaa", sum := "6a4fb606d1af964a5a11ee23ddbfde101b38eeb9440ddc4bdee80ab1551f51b1", func := "loop.example/regularlanguages/laws.FnTurnJoin", spec := "fnTurnJoin", apart := false, narrowed := true }
def FnTurnJoinUptoSaid : Prop := fnTurnJoinUptoRow.holds Try.pinned (OpenSpec.upto fnTurnJoinSpec)

/-- 'laws.FnTurnWord', WHERE WHAT IT READS IS OF BULK AT MOST 1048576: true; the input reads as it did. -/
def fnTurnWordUptoRow : OpenClaim := { program := "ytpejjpabgfkooaa", sum := "6a4fb606d1af964a5a11ee23ddbfde101b38eeb9440ddc4bdee80ab1551f51b1", func := "loop.example/regularlanguages/laws.FnTurnWord", spec := "fnTurnWord", apart := false, narrowed := true }
def FnTurnWordUptoSaid : Prop := fnTurnWordUptoRow.holds Try.pinned (OpenSpec.upto fnTurnWordSpec)

/-- 'laws.FnWordRank', WHERE WHAT IT READS IS OF BULK AT MOST 1048576: true; the input reads as it did. -/
def fnWordRankUptoRow : OpenClaim := { program := "ytpejjpabgfkooaa", sum := "6a4fb606d1af964a5a11ee23ddbfde101b38eeb9440ddc4bdee80ab1551f51b1", func := "loop.example/regularlanguages/laws.FnWordRank", spec := "fnWordRank", apart := false, narrowed := true }
def FnWordRankUptoSaid : Prop := fnWordRankUptoRow.holds Try.pinned (OpenSpec.upto fnWordRankSpec)

/-- 'laws.FnPartNeeds', WHERE WHAT IT READS IS OF BULK AT MOST 1048576: true; the input reads as it did. -/
def fnPartNeedsUptoRow : OpenClaim := { program := "ytpejjpabgfkooaa", sum := "6a4fb606d1af964a5a11ee23ddbfde101b38eeb9440ddc4bdee80ab1551f51b1", func := "loop.example/regularlanguages/laws.FnPartNeeds", spec := "fnPartNeeds", apart := false, narrowed := true }
def FnPartNeedsUptoSaid : Prop := fnPartNeedsUptoRow.holds Try.pinned (OpenSpec.upto fnPartNeedsSpec)

/-- 'laws.FnWordAt', WHERE WHAT IT READS IS OF BULK AT MOST 1048576: true; the input reads as it did. -/
def fnWordAtUptoRow : OpenClaim := { program := "ytpejjpabgfkooaa", sum := "6a4fb606d1af964a5a11ee23ddbfde101b38eeb9440ddc4bdee80ab1551f51b1", func := "loop.example/regularlanguages/laws.FnWordAt", spec := "fnWordAt", apart := false, narrowed := true }
def FnWordAtUptoSaid : Prop := fnWordAtUptoRow.holds Try.pinned (OpenSpec.upto fnWordAtSpec)

end Rows
end Go.Proofs.Ytpejjpabgfkooaa
