/-
  The operands that the reference hands out: the walks. The marks that a law writes and looks for.
-/
import Derived.Test.YtgcggmlekmjpdaaOper
namespace Go.Proofs.Ytgcggmlekmjpdaa
open Go.RowKit
set_option linter.unusedVariables false
set_option maxRecDepth 100000

theorem SL.empty {w : World} {B g : Nat} : SL w B (some ⟨g, 0, none⟩) 0 0 [] := ⟨PS.nil, Nat.le_refl _, by simp [maxLen], by intro h; cases h⟩
/-- The operands of 'l2Split', one of them: a slice that reads as it. -/
theorem SplitD.opd {w : World} {A : Option Addr} {n c : Nat} {t : Ex} {r : Ending} {w' : World} (hg : t.good) (h : PS w w.heap.size A n t.flat) (hc : n ≤ c) (hcm : c ≤ maxLen) (hd : SplitD w A c t r w') :
    ∃ A1 n1 c1 A2 n2 c2, r = .returned (.tuple #[.slice A1 n1 c1, .slice A2 n2 c2]) ∧ SL w' w'.heap.size A1 n1 c1 (t.opd 0) ∧ SL w' w'.heap.size A2 n2 c2 (t.opd 1) ∧ Below w.heap.size w w' := by
  have hlen := h.len
  cases t with
  | leaf k l =>
    obtain ⟨g1, g2, rfl, hb⟩ := hd
    exact ⟨_, _, _, _, _, _, rfl, SL.empty, SL.empty, hb⟩
  | un k a =>
    obtain ⟨g2, rfl, hb⟩ := hd
    simp only [Ex.sz] at hlen
    exact ⟨_, _, _, _, _, _, rfl, SL.tree ((PS.un h).up hb) (by omega) hcm, SL.empty, hb⟩
  | bin k a b =>
    obtain ⟨ba, off, rfl, rfl, hb⟩ := hd
    simp only [Ex.sz] at hlen
    exact ⟨_, _, _, _, _, _, rfl, SL.tree ((PS.bin h).1.up hb) (by omega) hcm, SL.tree ((PS.bin h).2.up hb) (by omega) (by omega), hb⟩
theorem Ex.opd_len (t : Ex) (k : Nat) : (t.opd k).length ≤ t.sz := by
  cases t with
  | leaf k' l => simp [opd]
  | un k' a => simp only [opd, sz]; split <;> simp [flat_length]
  | bin k' a b => simp only [opd, sz]; split <;> simp [flat_length] <;> omega
theorem own_keep {w w' : World} {base n size : Nat} {t : TypeId} {v : Value} {xs : List Value} (h : w.ownsRow base t size v n xs) (hb : Below w.heap.size w w') : w'.ownsRow base t size v n xs := by
  refine ⟨h.1, ?_⟩
  rcases h.2 with h2 | ⟨g, cap, cur, e1, e2, e3, e4⟩
  · exact .inl h2
  · exact .inr ⟨g, cap, cur, e1, e2, (hb.block g (Array.getElem?_eq_some_iff.1 e3).1).trans e3, e4⟩
theorem own_apart {w w0 : World} {B1 B2 n1 n2 s1 s2 : Nat} {t1 t2 : TypeId} {v1 v2 : Value} {x1 x2 : List Value} (h1 : w.ownsRow B1 t1 s1 v1 n1 x1) (h2 : w0.ownsRow B2 t2 s2 v2 n2 x2) (hB : w0.heap.size ≤ B1) : v1.ownBlock = none ∨ v1.ownBlock ≠ v2.ownBlock := by
  rcases e : v1.ownBlock with _ | k
  · exact .inl rfl
  · right
    intro he
    have h3 := own_block h1 k e
    have h4 := (h2.lt k he.symm).2
    omega
end Go.Proofs.Ytgcggmlekmjpdaa
