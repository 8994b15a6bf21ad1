/-
  Where a tree begins, seen from its end: plain lists.
-/
import Derived.Test.YtgcggmlekmjpdaaEx
namespace Go.Proofs.Ytgcggmlekmjpdaa
open Go.RowKit
set_option linter.unusedVariables false

/-- How the need changes over some parts. -/
def nd : List Pt → Int
  | [] => 0
  | p :: r => pnI p.1 p.2 - 1 + nd r
theorem nd_append (a b : List Pt) : nd (a ++ b) = nd a + nd b := by
  induction a with
  | nil => simp [nd]
  | cons p a ih => simp only [List.cons_append, nd, ih]; omega
theorem nd_flat (t : Ex) (h : t.good) : nd t.flat.reverse = -1 ∧ ∀ j, j < t.sz → 0 ≤ nd (t.flat.reverse.take j) := by
  induction t with
  | leaf k l =>
    refine ⟨by simp [Ex.flat, nd, Ex.pn_leaf h], fun j hj => ?_⟩
    have : j = 0 := by simp [Ex.sz] at hj; exact hj
    subst this; simp [nd]
  | un k a ih =>
    obtain ⟨h1, h2⟩ := ih h.2
    refine ⟨by simp [Ex.flat, nd, Ex.pn_un h.1, h1], fun j hj => ?_⟩
    cases j with
    | zero => simp [nd]
    | succ j =>
      simp only [Ex.sz] at hj
      have := h2 j (by omega)
      simp [Ex.flat, nd, Ex.pn_un h.1, this]
  | bin k a b iha ihb =>
    obtain ⟨h1, h2⟩ := iha h.2.1
    obtain ⟨h3, h4⟩ := ihb h.2.2
    refine ⟨by simp [Ex.flat, nd, nd_append, Ex.pn_bin h.1, h1, h3], fun j hj => ?_⟩
    cases j with
    | zero => simp [nd]
    | succ j =>
      simp only [Ex.sz] at hj
      have e : (Ex.flat (.bin k a b)).reverse.take (j + 1) = (k, 0) :: (b.flat.reverse ++ a.flat.reverse).take j := by simp [Ex.flat]
      rw [e]
      simp only [nd, Ex.pn_bin h.1]
      rw [List.take_append, nd_append, List.length_reverse, Ex.flat_length]
      by_cases hjb : j < b.sz
      · have := h4 j hjb
        rw [show j - b.sz = 0 from by omega]
        simp only [List.take_zero, nd]; omega
      · have := h2 (j - b.sz) (by omega)
        rw [List.take_of_length_le (by rw [List.length_reverse, Ex.flat_length]; omega), h3]; omega
/-- Two lists that end with trees end with one tree. -/
theorem Ex.tail_inj {x y : List Pt} {t u : Ex} (ht : t.good) (hu : u.good) (h : x ++ t.flat = y ++ u.flat) : x = y ∧ t.flat = u.flat := by
  have h0 : t.flat.reverse ++ x.reverse = u.flat.reverse ++ y.reverse := by rw [← List.reverse_append, h, List.reverse_append]
  have hs : t.sz = u.sz := by
    obtain ⟨t1, t2⟩ := nd_flat t ht
    obtain ⟨u1, u2⟩ := nd_flat u hu
    have lt : t.flat.reverse.length = t.sz := by rw [List.length_reverse, Ex.flat_length]
    have lu : u.flat.reverse.length = u.sz := by rw [List.length_reverse, Ex.flat_length]
    rcases Nat.lt_trichotomy t.sz u.sz with hlt | he | hgt
    · have h1 := u2 t.sz hlt
      have e : u.flat.reverse.take t.sz = t.flat.reverse := by
        have e1 : (u.flat.reverse ++ y.reverse).take t.sz = u.flat.reverse.take t.sz := List.take_append_of_le_length (by omega)
        have e2 : (t.flat.reverse ++ x.reverse).take t.sz = t.flat.reverse := by rw [← lt]; exact List.take_left
        rw [← e1, ← h0, e2]
      rw [e] at h1; omega
    · exact he
    · have h1 := t2 u.sz hgt
      have e : t.flat.reverse.take u.sz = u.flat.reverse := by
        have e1 : (t.flat.reverse ++ x.reverse).take u.sz = t.flat.reverse.take u.sz := List.take_append_of_le_length (by omega)
        have e2 : (u.flat.reverse ++ y.reverse).take u.sz = u.flat.reverse := by rw [← lu]; exact List.take_left
        rw [← e1, h0, e2]
      rw [e] at h1; omega
  exact List.append_inj' h (by rw [Ex.flat_length, Ex.flat_length, hs])
end Go.Proofs.Ytgcggmlekmjpdaa
