/-
  Walks of the functions that turn words and find words by their numbers.
-/
import Derived.Test.YtglffbkldffipaaWords
namespace Go.Proofs.Ytglffbkldffipaa
open Go.RowKit
set_option linter.unusedVariables false
set_option maxRecDepth 100000

/-- What both functions answer: the word with a number and true, or nothing and false. -/
def watV (n : Int) : Value := if inB n 0 9840 = true then .tuple #[.string ⟨(wat n).toArray⟩, .bool true] else .tuple #[.string ⟨#[]⟩, .bool false]

end Go.Proofs.Ytglffbkldffipaa
