/-
  Simplified operations: the program's walks.
-/
import Derived.Test.YtglffbkldffipaaSimpW
namespace Go.Proofs.Ytglffbkldffipaa
open Go.RowKit
set_option linter.unusedVariables false
set_option maxRecDepth 100000

namespace Ex
theorem sJoin_1 {x y : Ex} (h : x.isK 1 = true ∨ y.isK 1 = true) : (sJoin x y).flat = [(1, 0)] := by rw [sJoin, if_pos h]; rfl
theorem sJoin_2 {x y : Ex} (h1 : x.isK 1 = false) (h2 : y.isK 1 = false) (h3 : x.isK 2 = true) : (sJoin x y).flat = y.flat := by simp [sJoin, h1, h2, h3]
theorem sJoin_3 {x y : Ex} (h1 : x.isK 1 = false) (h2 : y.isK 1 = false) (h3 : x.isK 2 = false) (h4 : y.isK 2 = true) : (sJoin x y).flat = x.flat := by simp [sJoin, h1, h2, h3, h4]
theorem sJoin_4 {x y : Ex} (h1 : x.isK 1 = false) (h2 : y.isK 1 = false) (h3 : x.isK 2 = false) (h4 : y.isK 2 = false) : (sJoin x y).flat = (bin 4 x y).flat := by simp [sJoin, h1, h2, h3, h4]
theorem sEither_1 {x y : Ex} (h : x.isK 1 = true ∨ x.flat = y.flat) : (sEither x y).flat = y.flat := by rw [sEither, if_pos h]
theorem sEither_2 {x y : Ex} (h1 : x.isK 1 = false) (h2 : ¬ x.flat = y.flat) (h3 : y.isK 1 = true) : (sEither x y).flat = x.flat := by simp [sEither, h1, h2, h3]
theorem sEither_3 {x y : Ex} (h1 : x.isK 1 = false) (h2 : ¬ x.flat = y.flat) (h3 : y.isK 1 = false) : (sEither x y).flat = (bin 5 x y).flat := by simp [sEither, h1, h2, h3]
theorem sBoth_1 {x y : Ex} (h : x.isK 1 = true ∨ y.isK 1 = true) : (sBoth x y).flat = [(1, 0)] := by rw [sBoth, if_pos h]; rfl
theorem sBoth_2 {x y : Ex} (h1 : x.isK 1 = false) (h2 : y.isK 1 = false) (h3 : x.flat = y.flat) : (sBoth x y).flat = x.flat := by simp [sBoth, h1, h2, h3]
theorem sBoth_3 {x y : Ex} (h1 : x.isK 1 = false) (h2 : y.isK 1 = false) (h3 : ¬ x.flat = y.flat) : (sBoth x y).flat = (bin 6 x y).flat := by simp [sBoth, h1, h2, h3]
theorem sStar_1 {x : Ex} (h : x.isK 1 = true ∨ x.isK 2 = true) : (sStar x).flat = [(2, 0)] := by rw [sStar, if_pos h]; rfl
theorem sStar_2 {x : Ex} (h1 : x.isK 1 = false) (h2 : x.isK 2 = false) (h3 : x.kind = 8) : (sStar x).flat = x.flat := by simp [sStar, h1, h2, h3]
theorem sStar_3 {x : Ex} (h1 : x.isK 1 = false) (h2 : x.isK 2 = false) (h3 : ¬ x.kind = 8) : (sStar x).flat = (un 8 x).flat := by simp [sStar, h1, h2, h3]
theorem sNot_1 {x : Ex} (h : x.kind = 7) : (sNot x).flat = x.child.flat := by rw [sNot, if_pos h]
theorem sNot_2 {x : Ex} (h : ¬ x.kind = 7) : (sNot x).flat = (un 7 x).flat := by rw [sNot, if_neg h]
theorem flat_bin {Ax Ay : Option Addr} {nx cx ny cy : Nat} {x y : Ex} {k : Int} : (bin k x y).flat = cats [(Ax, nx, cx, x.flat), (Ay, ny, cy, y.flat)] ++ [(k, 0)] := by simp [flat, cats]
theorem flat_un {Ax : Option Addr} {nx cx : Nat} {x : Ex} {k : Int} : (un k x).flat = cats [(Ax, nx, cx, x.flat)] ++ [(k, 0)] := by simp [flat, cats]
end Ex
theorem RowS.one {W : World} {g : Nat} {A1 : Option Addr} {N1 c1 : Nat} {e1 : List Pt} {t : TypeId} {fr : Nat × Nat} (hrow : W.heap[g]? = some (.cells #[.slice A1 N1 c1] t fr)) (h1 : SL W W.heap.size A1 N1 c1 e1) :
    ∀ W', Below W.heap.size W W' → RowS W' W'.heap.size (some ⟨g, 0, none⟩) 1 [(A1, N1, c1, e1)] := fun W' hW' =>
  ⟨rfl, fun _ => ⟨g, 0, rfl, by have := hW'.size; have := (Array.getElem?_eq_some_iff.1 hrow).1; omega, fun i A n c e hi => by
    have hlt := (List.getElem?_eq_some_iff.1 hi).1
    have hr := (hW'.block g (Array.getElem?_eq_some_iff.1 hrow).1).trans hrow
    have : i = 0 := by simp at hlt; omega
    subst this
    simp only [List.getElem?_cons_zero, Option.some.injEq, Prod.mk.injEq] at hi
    obtain ⟨rfl, rfl, rfl, rfl⟩ := hi
    exact ⟨by rw [cell_of_row W' _ _ _ _ _ hr]; rfl, h1.up hW'⟩⟩⟩
end Go.Proofs.Ytglffbkldffipaa

