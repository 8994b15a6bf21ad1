/-
  The operands that the program hands out: fresh copies. The walks of both.
-/
import Derived.Test.YtgcggmlekmjpdaaDepth
namespace Go.Proofs.Ytgcggmlekmjpdaa
open Go.RowKit
set_option linter.unusedVariables false
set_option maxRecDepth 100000

/-- An operand of the last part. -/
def Ex.opd : Ex → Nat → List Pt
  | .leaf _ _, _ => []
  | .un _ a, k => if k = 0 then a.flat else []
  | .bin _ a b, k => if k = 0 then a.flat else b.flat
def OpR (k : Nat) (e x : List Pt) : Prop := (exprB e = false ∧ x = []) ∨ ∃ t : Ex, t.good ∧ t.flat = e ∧ t.sz ≤ 60 ∧ x = t.opd k
theorem OpR.uniq {k : Nat} {e a b : List Pt} (ha : OpR k e a) (hb : OpR k e b) : a = b := by
  rcases ha with ⟨h1, rfl⟩ | ⟨t, g1, f1, s1, rfl⟩
  · rcases hb with ⟨h2, rfl⟩ | ⟨t, g1, f1, s1, rfl⟩
    · rfl
    · rw [← f1, exprB_flat g1 s1] at h1; cases h1
  · rcases hb with ⟨h2, rfl⟩ | ⟨u, g2, f2, s2, rfl⟩
    · rw [← f1, exprB_flat g1 s1] at h2; cases h2
    · rw [Ex.flat_inj g1 g2 (f1.trans f2.symm)]
theorem OpR.len {k : Nat} {e a : List Pt} (h : OpR k e a) : a.length ≤ 60 := by
  rcases h with ⟨-, rfl⟩ | ⟨t, -, -, hs, rfl⟩
  · simp
  · cases t with
    | leaf k l => simp [Ex.opd]
    | un k a => simp only [Ex.opd, Ex.sz] at *; split <;> simp [Ex.flat_length]; omega
    | bin k a b => simp only [Ex.opd, Ex.sz] at *; split <;> simp [Ex.flat_length] <;> omega
/-- What leaves a row of parts of the call's own, of some list that stands in a relation. -/
def RelD (w : World) (R : List Pt → Prop) (r : Ending) (w' : World) : Prop := ∃ x, R x ∧ OwnD w x r w'
theorem RelD.nil {w w' : World} {R : List Pt → Prop} (h : R []) (hb : Below w.heap.size w w') : RelD w R (.returned (.slice none 0 0)) w' := ⟨[], h, _, rfl, own_nil _ _ _, hb⟩
/-- Behind what made memory before. -/
theorem RelD.behind {w w1 w2 : World} {R : List Pt → Prop} {e : Ending} {x : List Pt} (hx : R x) (hb : Below w.heap.size w w1) (h : OwnD w1 x e w2) : RelD w R e w2 := by
  obtain ⟨v, rfl, h1, h2⟩ := h
  refine ⟨x, hx, v, rfl, ?_, hb.trans (h2.mono hb.size)⟩
  obtain ⟨h3, h4⟩ := h1
  refine ⟨h3, ?_⟩
  rcases h4 with h4 | ⟨g, cap, cur, q1, q2, q3⟩
  · exact .inl h4
  · exact .inr ⟨g, cap, cur, q1, by have := hb.size; omega, q3⟩
end Go.Proofs.Ytgcggmlekmjpdaa
