/-
  Walk of the function that turns a part of the laws' own type into the program's.
-/
import Derived.Test.YtcphbncgkemdoaaParts
namespace Go.Proofs.Ytcphbncgkemdoaa
open Go.RowKit
set_option linter.unusedVariables false
set_option maxRecDepth 100000
/-- The block in which a part of the laws' own type lies. -/
abbrev lbox (k l : Int) : Obj := .cells #[.int .i64 k, .int .i64 l] 24
theorem toPart_any (k l : Int) (w : World) :
    Calls Try.prog 16 #[part k l] w fun e w' => e = .returned (part k l) ∧ ((w.alloc (lbox k l)).alloc (pbox k l)).alloc (pbox k l) = w' := by
  go_enter Try.func16, Try.ntmps16
  go_wp2
  exact bodyPost_ret (v := part k l) (by simp [results, Try.results16, go_sem]) rfl ⟨rfl, rfl⟩

end Go.Proofs.Ytcphbncgkemdoaa
