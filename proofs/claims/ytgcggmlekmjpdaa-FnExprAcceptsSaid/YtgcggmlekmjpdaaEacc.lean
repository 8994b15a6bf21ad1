/-
  What ExprAccepts answers, by trees.
-/
import Derived.Test.YtgcggmlekmjpdaaAcc
namespace Go.Proofs.Ytgcggmlekmjpdaa
open Go.RowKit
set_option linter.unusedVariables false
set_option maxRecDepth 100000

theorem eacc_tree {T : Ex} {x : List Pt} {s : List UInt8} {b : Bool} (hx : Opq (T.flat = x)) (hg : T.good) (hs : T.sz ≤ 60) (h : EAcc x s b) : b = (wordB s && T.acc s) := by
  have hv : exprB x = true := exprB_iff.2 ⟨T, hg, hx.out, hs⟩
  rcases h with ⟨-, hw, h3⟩ | ⟨h1, rfl⟩
  · rw [hw, Bool.true_and]
    rw [← hx.out] at h3
    exact h3.uniq (AccR.of hg s)
  · cases hw : wordB s with
    | true => exact absurd ⟨hv, hw⟩ h1
    | false => rfl
theorem eacc_eq {T U : Ex} {x y : List Pt} {s : List UInt8} {b c : Bool} (h : EAcc x s b) (k : EAcc y s c) (hx : Opq (T.flat = x)) (hy : Opq (U.flat = y)) (gT : T.good) (gU : U.good) (sT : T.sz ≤ 60) (sU : U.sz ≤ 60) (e : T.acc s = U.acc s) : b = c := by
  rw [eacc_tree hx gT sT h, eacc_tree hy gU sU k, e]
theorem eacc_bad {x : List Pt} {s : List UInt8} {b : Bool} (h : EAcc x s b) (hv : exprB x = false) : b = false := by
  rcases h with ⟨h1, -⟩ | ⟨-, h2⟩
  · rw [hv] at h1; cases h1
  · exact h2
theorem valid_of {T : Ex} {x : List Pt} (hx : Opq (T.flat = x)) (hg : T.good) (hs : T.sz ≤ 60) : exprB x = true := exprB_iff.2 ⟨T, hg, hx.out, hs⟩
end Go.Proofs.Ytgcggmlekmjpdaa
