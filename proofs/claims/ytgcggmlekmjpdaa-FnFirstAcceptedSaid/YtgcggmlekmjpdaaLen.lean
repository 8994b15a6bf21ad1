/-
  The drawn numbers of letters.
-/
import Derived.Test.YtgcggmlekmjpdaaNear
namespace Go.Proofs.Ytgcggmlekmjpdaa
open Go.RowKit
set_option linter.unusedVariables false
set_option maxRecDepth 100000

def LenD (w : World) (B R : Nat) (r : Ending) (w' : World) : Prop := ∃ k : Int, r = .returned (.int .i64 k) ∧ -1 ≤ k ∧ k ≤ 4 ∧ w.grownBy w' (some R)
set_option maxHeartbeats 2000000 in
theorem l20Length_any (w : World) (B R : Nat) (p : Int) (h : Rd w B R p) (hp : p ≤ 10000000) :
    Calls Try.prog 56 #[.pointer (some ⟨R, 0, none⟩), .int .i64 3] w (LenD w B R) := by
  have hlt := h.lt
  go_enter Try.func56, Try.ntmps56
  go_wp2_with fail
  refine (pick_any _ B R p 4 h (by omega) (by omega)).mono ?_
  rintro r w1 ⟨a, rfl, a0, a1, hR1, hg1⟩
  have a2 := a1 (by omega)
  clear a1
  have hlt1 := hR1.lt
  go_wp2_with fail
  refine (pick_any _ B R (p + 1) 8 ((hR1.alloc _).alloc _) (by omega) (by omega)).mono ?_
  rintro r w2 ⟨j, rfl, j0, j1, hR2, hg2⟩
  have j2 := j1 (by omega)
  clear j1
  have f1 : ∀ o, w2.cell? ⟨w1.heap.size, o, none⟩ = ((w1.alloc (.cells #[.int .i64 a, .int .i64 (-1), .int .i64 4] 3)).alloc (.cells #[.int .i64 0, .int .i64 0, .int .i64 0, .int .i64 0, .int .i64 0, .int .i64 0, .int .i64 1, .int .i64 2] 3)).cell? ⟨w1.heap.size, o, none⟩ := fun o => only_far hg2 (b := w1.heap.size) o (by simp; omega) (by omega)
  have f2 : ∀ o, w2.cell? ⟨w1.heap.size + 1, o, none⟩ = ((w1.alloc (.cells #[.int .i64 a, .int .i64 (-1), .int .i64 4] 3)).alloc (.cells #[.int .i64 0, .int .i64 0, .int .i64 0, .int .i64 0, .int .i64 0, .int .i64 0, .int .i64 1, .int .i64 2] 3)).cell? ⟨w1.heap.size + 1, o, none⟩ := fun o => only_far hg2 (b := w1.heap.size + 1) o (by simp) (by omega)
  have hgg := only_trans (only_alloc (only_alloc hg1 _) _) hg2
  rcases (show j = 0 ∨ j = 1 ∨ j = 2 ∨ j = 3 ∨ j = 4 ∨ j = 5 ∨ j = 6 ∨ j = 7 by omega) with rfl | rfl | rfl | rfl | rfl | rfl | rfl | rfl
  all_goals
    go_wp2
    go_ret
    first
      | exact ⟨a, rfl, by omega, by omega, hgg⟩
      | exact ⟨_, rfl, by omega, by omega, hgg⟩
/-- What a draw of an expression and a number leaves. -/
def DrawEI (w : World) (r : Ending) (w' : World) : Prop :=
  ∃ (e : List Pt) (A : Option Addr) (n c : Nat) (k : Int), r = .returned (.tuple #[.slice A n c, .int .i64 k]) ∧ (n ≤ 16 ∨ n = 61) ∧ SL w' w'.heap.size A n c e ∧ -1 ≤ k ∧ k ≤ 3 ∧ Below w.heap.size w w'
theorem dCountAccepted_any (w : World) (n c : Nat) (A : Option Addr) (B : Nat) (h : CodeB w B A n) (hB : B ≤ w.heap.size) (hnc : n ≤ c) (hn : n ≤ 1048576) :
    Calls Try.prog 37 #[.slice A n c] w (DrawEI w) := by
  go_enter Try.func37, Try.ntmps37
  go_wp2_with fail
  refine (l20Open_any _ B n c A h hB hnc hn).mono ?_
  rintro r w1 ⟨R, rfl, hR, hRd, hb⟩
  go_wp2_with fail
  refine (l20Expr_any _ B R 0 12 hRd (by omega) (by omega) (by omega)).mono ?_
  rintro r w2 ⟨e, A2, c2, q, rfl, hl, hSL, ⟨-, hne⟩, hq, hRd2, hg⟩
  go_wp2_with fail
  refine (l20Length_any _ B R q hRd2 (by omega)).mono ?_
  rintro r w3 ⟨k, rfl, k0, k1, hg3⟩
  have hSL3 := hSL.reader hne hg3
  have hbb := below_only hb (only_trans hg hg3) hR
  by_cases hk : k ≤ 3
  · go_wp2
    go_ret2
    exact ⟨e, A2, _, c2, _, rfl, hl, hSL3, by omega, by omega, hbb⟩
  · go_wp2
    go_ret2
    exact ⟨e, A2, _, c2, _, rfl, hl, hSL3, by omega, by omega, hbb⟩
theorem dFirstAccepted_any (w : World) (n c : Nat) (A : Option Addr) (B : Nat) (h : CodeB w B A n) (hB : B ≤ w.heap.size) (hnc : n ≤ c) (hn : n ≤ 1048576) :
    Calls Try.prog 34 #[.slice A n c] w (DrawEI w) := by
  go_enter Try.func34, Try.ntmps34
  go_wp2_with fail
  refine (l20Open_any _ B n c A h hB hnc hn).mono ?_
  rintro r w1 ⟨R, rfl, hR, hRd, hb⟩
  go_wp2_with fail
  refine (l20Expr_any _ B R 0 12 hRd (by omega) (by omega) (by omega)).mono ?_
  rintro r w2 ⟨e, A2, c2, q, rfl, hl, hSL, ⟨-, hne⟩, hq, hRd2, hg⟩
  go_wp2_with fail
  refine (l20Length_any _ B R q hRd2 (by omega)).mono ?_
  rintro r w3 ⟨k, rfl, k0, k1, hg3⟩
  have hSL3 := hSL.reader hne hg3
  have hbb := below_only hb (only_trans hg hg3) hR
  by_cases hk : k ≤ 3
  · go_wp2
    go_ret2
    exact ⟨e, A2, _, c2, _, rfl, hl, hSL3, by omega, by omega, hbb⟩
  · go_wp2
    go_ret2
    exact ⟨e, A2, _, c2, _, rfl, hl, hSL3, by omega, by omega, hbb⟩
end Go.Proofs.Ytgcggmlekmjpdaa
