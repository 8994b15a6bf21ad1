/-
  Walks of the functions on one part of an expression.
-/
import Derived.Test.YtcphbncgkemdoaaBase
namespace Go.Proofs.Ytcphbncgkemdoaa
open Go.RowKit
set_option linter.unusedVariables false
set_option maxRecDepth 100000

/-- A part is valid; how many operands a valid part needs; the same of any part. -/
def pvB (k l : Int) : Bool := inB k 1 8 && (if k = 3 then inB l 0 2 else decide (l = 0))
def needN (k : Int) : Int := if k = 1 ∨ k = 2 ∨ k = 3 then 0 else if k = 7 ∨ k = 8 then 1 else 2
def pnI (k l : Int) : Int := if pvB k l = true then needN k else -1
theorem needN_bd (k : Int) : 0 ≤ needN k ∧ needN k ≤ 2 := by unfold needN; split <;> (try split) <;> omega
theorem pnI_bd (k l : Int) : -1 ≤ pnI k l ∧ pnI k l ≤ 2 := by unfold pnI; have := needN_bd k; split <;> omega
theorem pvB_kind {k l : Int} (h : pvB k l = true) : 1 ≤ k ∧ k ≤ 8 := by
  rw [pvB, Bool.and_eq_true] at h; exact inB_true.1 h.1
abbrev part (k l : Int) : Value := .agg #[.int .i64 k, .int .i64 l]
/-- The block in which a part that is handed over lies. -/
abbrev pbox (k l : Int) : Obj := .cells #[.int .i64 k, .int .i64 l] 26

theorem isLetter_any (l : Int) (w : World) : Calls Try.prog 50 #[.int .i64 l] w fun e w' => e = .returned (.bool (inB l 0 2)) ∧ w = w' := by
  go_enter Try.func50, Try.ntmps50
  go_wp2_with (go_at_call 51; refine (within_any _ _ _ _).mono ?_; rintro e w' ⟨rfl, rfl⟩)
  go_ret
  exact ⟨rfl, rfl⟩
theorem specPartValid_any (k l : Int) (w : World) :
    Calls Try.prog 15 #[part k l] w fun e w' => e = .returned (.bool (pvB k l)) ∧ w.alloc (pbox k l) = w' := by
  rcases h1 : inB k 1 8
  · go_enter Try.func15, Try.ntmps15
    go_wp2_with (go_at_call 49; refine (l1In_any _ _ _ _).mono ?_; rintro e w' ⟨rfl, rfl⟩)
    go_ret
    exact ⟨ret_bool (by simp [pvB, h1]), rfl⟩
  · by_cases h3 : k = 3
    · subst h3
      rcases h2 : inB l 0 2
      all_goals
        go_enter Try.func15, Try.ntmps15
        go_wp2_with (go_at_call 49; refine (l1In_any _ _ _ _).mono ?_; rintro e w' ⟨rfl, rfl⟩)
        go_ret
        exact ⟨ret_bool (by simp [pvB, h1, h2]), rfl⟩
    · have e3 : (k == 3) = false := by simpa using h3
      have e3' : (k != 3) = true := by simpa using h3
      rcases h2 : (l == 0)
      all_goals
        go_enter Try.func15, Try.ntmps15
        go_wp2_with (go_at_call 49; refine (l1In_any _ _ _ _).mono ?_; rintro e w' ⟨rfl, rfl⟩)
        go_ret
        exact ⟨ret_bool (by simp at h2; simp [pvB, h1, h2, h3]), rfl⟩
theorem implPartValid_any (k l : Int) (w : World) :
    Calls Try.prog 17 #[part k l] w fun e w' => e = .returned (.bool (pvB k l)) ∧ w.alloc (pbox k l) = w' := by
  by_cases h3 : k = 3
  · subst h3
    have h1 : inB 3 1 8 = true := by decide
    go_enter Try.func17, Try.ntmps17
    go_wp2_with (go_at_call 50; refine (isLetter_any _ _).mono ?_; rintro e w' ⟨rfl, rfl⟩)
    go_ret
    exact ⟨ret_bool (by simp [pvB, h1]), rfl⟩
  · have e3 : (k == 3) = false := by simpa using h3
    rcases h1 : inB k 1 8
    · go_enter Try.func17, Try.ntmps17
      go_wp2_with (go_at_call 51; refine (within_any _ _ _ _).mono ?_; rintro e w' ⟨rfl, rfl⟩)
      go_ret
      exact ⟨ret_bool (by simp [pvB, h1]), rfl⟩
    · rcases h2 : (l == 0)
      all_goals
        go_enter Try.func17, Try.ntmps17
        go_wp2_with (go_at_call 51; refine (within_any _ _ _ _).mono ?_; rintro e w' ⟨rfl, rfl⟩)
        go_ret
        exact ⟨ret_bool (by simp at h2; simp [pvB, h1, h2, h3]), rfl⟩
theorem needs_any (k l : Int) (w : World) :
    Calls Try.prog 54 #[part k l] w fun e w' => e = .returned (.int .i64 (needN k)) ∧ w.alloc (pbox k l) = w' := by
  by_cases h1 : k = 1
  · subst h1; go_enter Try.func54, Try.ntmps54; go_wp2; go_ret; exact ⟨rfl, rfl⟩
  by_cases h2 : k = 2
  · subst h2; go_enter Try.func54, Try.ntmps54; go_wp2; go_ret; exact ⟨rfl, rfl⟩
  by_cases h3 : k = 3
  · subst h3; go_enter Try.func54, Try.ntmps54; go_wp2; go_ret; exact ⟨rfl, rfl⟩
  by_cases h7 : k = 7
  · subst h7; go_enter Try.func54, Try.ntmps54; go_wp2; go_ret; exact ⟨rfl, rfl⟩
  by_cases h8 : k = 8
  · subst h8; go_enter Try.func54, Try.ntmps54; go_wp2; go_ret; exact ⟨rfl, rfl⟩
  have e1 : (k == 1) = false := by simpa using h1
  have e2 : (k == 2) = false := by simpa using h2
  have e3 : (k == 3) = false := by simpa using h3
  have e7 : (k == 7) = false := by simpa using h7
  have e8 : (k == 8) = false := by simpa using h8
  go_enter Try.func54, Try.ntmps54
  go_wp2
  go_ret
  exact ⟨ret_int (by simp [needN, *]), rfl⟩
theorem implPartNeeds_any (k l : Int) (w : World) :
    Calls Try.prog 25 #[part k l] w fun e w' => e = .returned (.int .i64 (pnI k l)) ∧ Below w.heap.size w w' := by
  rcases hv : pvB k l
  · go_enter Try.func25, Try.ntmps25
    go_wp2_with (go_at_call 17; refine (implPartValid_any _ _ _).mono ?_; rintro e w' ⟨rfl, rfl⟩)
    go_ret
    exact ⟨ret_int (by simp [pnI, hv]), by repeat (first | exact Below.refl _ _ | apply Below.alloc | simp; done | omega)⟩
  · go_enter Try.func25, Try.ntmps25
    go_wp2_with (first | (go_at_call 17; refine (implPartValid_any _ _ _).mono ?_; rintro e w' ⟨rfl, rfl⟩) | (go_at_call 54; refine (needs_any _ _ _).mono ?_; rintro e w' ⟨rfl, rfl⟩))
    go_ret
    exact ⟨ret_int (by simp [pnI, hv]), ((Below.refl _ _).alloc (Nat.le_refl _) _).alloc (by simp) _ |>.alloc (by simp; omega) _⟩
set_option maxHeartbeats 1000000 in
theorem specPartNeeds_any (k l : Int) (w : World) :
    Calls Try.prog 24 #[part k l] w fun e w' => e = .returned (.int .i64 (pnI k l)) ∧ Below w.heap.size w w' := by
  rcases hv : pvB k l
  · go_enter Try.func24, Try.ntmps24
    go_wp2_with (go_at_call 15; refine (specPartValid_any _ _ _).mono ?_; rintro e w' ⟨rfl, rfl⟩)
    go_ret
    exact ⟨ret_int (by simp [pnI, hv]), ((Below.refl _ _).alloc (Nat.le_refl _) _).alloc (by simp) _⟩
  · have hk := pvB_kind hv
    have h : k = 1 ∨ k = 2 ∨ k = 3 ∨ k = 4 ∨ k = 5 ∨ k = 6 ∨ k = 7 ∨ k = 8 := by omega
    rcases h with rfl | rfl | rfl | rfl | rfl | rfl | rfl | rfl
    all_goals
      go_enter Try.func24, Try.ntmps24
      go_wp2_with (go_at_call 15; refine (specPartValid_any _ _ _).mono ?_; rintro e w' ⟨rfl, rfl⟩)
      go_ret
      exact ⟨ret_int (by simp [pnI, hv, needN]), ((Below.refl _ _).alloc (Nat.le_refl _) _).alloc (by simp) _⟩
end Go.Proofs.Ytcphbncgkemdoaa
