/-
  Whether two slices of parts are equal: slices.Equal and its like.
-/
import Derived.Test.YtgcggmlekmjpdaaOper2
import Derived.Laws.StructEq
import Derived.Deep.QuietTactic
import Derived.BigQuiet
namespace Go.Proofs.Ytgcggmlekmjpdaa
open Go.RowKit
set_option linter.unusedVariables false
set_option maxRecDepth 100000

theorem below_drewN {B : Nat} {w w' : World} (h : Below B w w') (k : Nat) : Below B w (w'.drewN k) := ⟨h.os, h.tape, h.output, h.size, h.block⟩
theorem part_hS : Try.prog.underlying 37 = some (.struct (Try.prog.fieldsOf 37)) := by kernel_rfl
theorem part_hp : Try.prog.stoodInHeld 37 = false := by kernel_rfl
theorem part_hG : Try.prog.eqGuardType Try.prog.depth 37 = false := by kernel_rfl
/-- '!=' of two parts. -/
theorem part_neq (w : World) (a b c d : Int) : (binOp .neq 37 (part a b) (part c d)).run Try.prog w = .ok (.bool (!(eqP a b c d))) w := by
  have u3 := Try.underlying3
  have a3 := Try.isAgg3
  have z3 := Try.sizeOf3
  rw [run_neq_struct, show (10000 : Nat) = 9999 + 1 from rfl, run_equalIn_agg w 9999 37 _ _ part_hS part_hp]
  simp only [Program.fieldsOf, Try.underlying37]
  go_simp
  by_cases h1 : a = c <;> by_cases h2 : b = d <;> simp [eqP, h1, h2]
theorem part_guard (w : World) (op : BinOp) (x y : Operand) (a b c d : Int) : (eqGuard op 37 x y (part a b) (part c d)).run Try.prog w = .ok () w := run_eqGuard_agg w op 37 x y _ _ part_hG
theorem eqP_dec (a b c d : Int) : eqP a b c d = decide (((a, b) : Pt) = (c, d)) := by simp [eqP, Bool.decide_and]
theorem take_eq_next {e f : List Pt} {i : Nat} {p q : Pt} (he : e[i]? = some p) (hf : f[i]? = some q) (h : e.take i = f.take i) : (e.take (i + 1) = f.take (i + 1)) ↔ p = q := by
  rw [take_next he, take_next hf, h]; simp
end Go.Proofs.Ytgcggmlekmjpdaa
