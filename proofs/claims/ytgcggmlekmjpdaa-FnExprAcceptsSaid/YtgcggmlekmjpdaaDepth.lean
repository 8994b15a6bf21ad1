/-
  How deep an expression is: the walks.
-/
import Derived.Test.YtgcggmlekmjpdaaSplit
import Derived.Test.YtgcggmlekmjpdaaLists
import Derived.Test.YtgcggmlekmjpdaaSimp
namespace Go.Proofs.Ytgcggmlekmjpdaa
open Go.RowKit
set_option linter.unusedVariables false
set_option maxRecDepth 100000

/-- How deep a tree is. -/
def Ex.dep : Ex → Nat
  | .leaf _ _ => 0
  | .un _ a => a.dep + 1
  | .bin _ a b => max a.dep b.dep + 1
theorem Ex.dep_lt (t : Ex) : t.dep < t.sz := by
  induction t with
  | leaf k l => simp [dep, sz]
  | un k a ih => simp [dep, sz, ih]
  | bin k a b iha ihb => simp only [dep, sz]; omega
theorem exprB_flat {t : Ex} (hg : t.good) (hs : t.sz ≤ 60) : exprB t.flat = true := exprB_iff.2 ⟨t, hg, rfl, hs⟩
/-- The depth of a list of parts. -/
def DepI (e : List Pt) (d : Int) : Prop := (exprB e = false ∧ d = -1) ∨ ∃ t : Ex, t.good ∧ t.flat = e ∧ t.sz ≤ 60 ∧ d = (t.dep : Int)
end Go.Proofs.Ytgcggmlekmjpdaa
