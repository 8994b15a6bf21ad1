/-
  The laws' own draws of expressions, and their own small functions.
-/
import Derived.Test.YtgcggmlekmjpdaaDrawE2
import Derived.Test.YtgcggmlekmjpdaaSame
namespace Go.Proofs.Ytgcggmlekmjpdaa
open Go.RowKit
set_option linter.unusedVariables false
set_option maxRecDepth 100000

/-- What a law's draw of an expression leaves. -/
def DrawD (w : World) (r : Ending) (w' : World) : Prop :=
  ∃ (e : List Pt) (A : Option Addr) (n c : Nat), r = .returned (.slice A n c) ∧ (n ≤ 16 ∨ n = 61) ∧ SL w' w'.heap.size A n c e ∧ Below w.heap.size w w'
theorem dHasEmpty_any (w : World) (n c : Nat) (A : Option Addr) (B : Nat) (h : CodeB w B A n) (hB : B ≤ w.heap.size) (hnc : n ≤ c) (hn : n ≤ 1048576) :
    Calls Try.prog 22 #[.slice A n c] w (DrawD w) := by
  go_enter Try.func22, Try.ntmps22
  go_wp2_with fail
  refine (l20Open_any _ B n c A h hB hnc hn).mono ?_
  rintro r w1 ⟨R, rfl, hR, hRd, hb⟩
  go_wp2_with fail
  refine (l20Expr_any _ B R 0 9 hRd (by omega) (by omega) (by omega)).mono ?_
  rintro r w2 ⟨e, A2, c2, q, rfl, hl, hSL, -, -, -, hg⟩
  go_wp2
  go_ret
  exact ⟨e, A2, _, c2, rfl, hl, hSL, below_only hb hg hR⟩
theorem dSimplifyExpr_any (w : World) (n c : Nat) (A : Option Addr) (B : Nat) (h : CodeB w B A n) (hB : B ≤ w.heap.size) (hnc : n ≤ c) (hn : n ≤ 1048576) :
    Calls Try.prog 32 #[.slice A n c] w (DrawD w) := by
  go_enter Try.func32, Try.ntmps32
  go_wp2_with fail
  refine (l20Open_any _ B n c A h hB hnc hn).mono ?_
  rintro r w1 ⟨R, rfl, hR, hRd, hb⟩
  go_wp2_with fail
  refine (l20Expr_any _ B R 0 12 hRd (by omega) (by omega) (by omega)).mono ?_
  rintro r w2 ⟨e, A2, c2, q, rfl, hl, hSL, -, -, -, hg⟩
  go_wp2
  go_ret
  exact ⟨e, A2, _, c2, rfl, hl, hSL, below_only hb hg hR⟩
theorem alive_any (w : World) : Calls Try.prog 26 #[] w fun e w' => e = .returned (.bool true) ∧ w = w' := by
  have e5 : rankI [97, 98] = 5 := by decide
  go_enter Try.func26, Try.ntmps26
  go_wp2_with (go_at_call 35; refine (implWordRank_any _ _ (by decide)).mono ?_; rintro e w' ⟨rfl, rfl⟩)
  go_ret
  exact ⟨rfl, rfl⟩
/-- What every law leaves. -/
def Yes (w : World) (e : Ending) (w' : World) : Prop := e = .returned (.bool true) ∧ Below w.heap.size w w'
theorem PS_al2 {w : World} {A : Option Addr} {n : Nat} {e : List Pt} {o : Obj} (h : PS w w.heap.size A n e) : PS (w.alloc o) (w.heap.size + 1) A n e := h.keep (Nat.le_succ _) fun b o' hlt => World.cell?_alloc_lt w o ⟨b, o', none⟩ hlt
theorem lt_alloc2 (w : World) (o : Obj) : w.heap.size < (w.alloc o).heap.size := by simp
theorem le_alloc2 {a : Nat} {w : World} {o : Obj} (h : a ≤ w.heap.size) : a ≤ (w.alloc o).heap.size := by simp; omega
theorem two_any (w : World) (k : Int) (A A2 : Option Addr) (n c n2 c2 : Nat) (e f : List Pt) (h : SL w w.heap.size A n c e) (h2 : SL w w.heap.size A2 n2 c2 f) (hn : n ≤ 100000) (hn2 : n2 ≤ 100000) :
    Calls Try.prog 33 #[.int .i64 k, .slice A n c, .slice A2 n2 c2] w (OwnD w (e ++ f ++ [(k, 0)])) := by
  have H1 := hide h
  have H2 := hide h2
  have L1 := Lib.hid h.1.1
  have L2 := Lib.hid h2.1.1
  clear h h2
  go_enter Try.func33, Try.ntmps33
  go_wp2_with (first
    | (at_builtin; refine wpList_append_parts rfl (.tmp 7) (.tmp 8) rfl w.heap.size (w.heap.size + 1) (.slice (some ⟨w.heap.size, 0, none⟩) 0 0) 0 [] rfl (own_empty w _ _ (Nat.le_refl _)) A n c e rfl (unhide H1).2.2.2 (PS_al2 (unhide H1).1) ?_ ?_ ?_; go_must (omega); go_must (exact Nat.le_of_lt (lt_alloc2 _ _)); (intro v1 w1 hown1 hgrow1; have hb1 : Below w.heap.size w w1 := ((Below.refl _ _).alloc (Nat.le_refl _) _).grown hgrow1 (Nat.le_of_lt (lt_alloc2 _ _)) (own_block (own_empty w w.heap.size 37 (Nat.le_refl _))); have HO1 := hide hown1; clear hown1))
    | (at_builtin; refine wpList_append_parts rfl (.tmp 9) (.tmp 10) rfl w.heap.size w1.heap.size v1 (0 + n) ([] ++ e) rfl (unhide HO1) A2 n2 c2 f rfl (unhide H2).2.2.2 ((unhide H2).up hb1).1 ?_ ?_ ?_; go_must (omega); go_must (exact hb1.size); (intro v2 w2 hown2 hgrow2; have hb2 : Below w.heap.size w w2 := hb1.grown hgrow2 hb1.size (own_block (unhide HO1)); have HO2 := hide hown2; clear hown2))
    | (at_builtin; refine wpList_append_parts rfl (.tmp 11) (.tmp 14) rfl w.heap.size (w2.heap.size + 1) v2 (0 + n + n2) ([] ++ e ++ f) rfl ((unhide HO2).alloc _) (some ⟨w2.heap.size, 0, none⟩) 1 1 [(k, 0)] rfl (fun h => nomatch h) (PS.one _ _ _ _ _ (Nat.lt_succ_self _)) ?_ ?_ ?_; go_must (omega); go_must (exact le_alloc2 hb2.size); (intro v3 w3 hown3 hgrow3)))
  go_ret
  refine ⟨v3, rfl, ?_, (hb2.alloc hb2.size _).grown hgrow3 (le_alloc2 hb2.size) (own_block (unhide HO2))⟩
  have e1 : (e ++ f ++ [(k, 0)]).length = 0 + n + n2 + 1 := by simp [L1.out, L2.out]; omega
  rw [e1]
  simpa using hown3
theorem one_any (w : World) (k : Int) (A : Option Addr) (n c : Nat) (e : List Pt) (h : SL w w.heap.size A n c e) (hn : n ≤ 100000) :
    Calls Try.prog 31 #[.int .i64 k, .slice A n c] w (OwnD w (e ++ [(k, 0)])) := by
  have H1 := hide h
  have L1 := Lib.hid h.1.1
  clear h
  go_enter Try.func31, Try.ntmps31
  go_wp2_with (first
    | (at_builtin; refine wpList_append_parts rfl (.tmp 5) (.tmp 6) rfl w.heap.size (w.heap.size + 1) (.slice (some ⟨w.heap.size, 0, none⟩) 0 0) 0 [] rfl (own_empty w _ _ (Nat.le_refl _)) A n c e rfl (unhide H1).2.2.2 (PS_al2 (unhide H1).1) ?_ ?_ ?_; go_must (omega); go_must (exact Nat.le_of_lt (lt_alloc2 _ _)); (intro v1 w1 hown1 hgrow1; have hb1 : Below w.heap.size w w1 := ((Below.refl _ _).alloc (Nat.le_refl _) _).grown hgrow1 (Nat.le_of_lt (lt_alloc2 _ _)) (own_block (own_empty w w.heap.size 37 (Nat.le_refl _))); have HO1 := hide hown1; clear hown1))
    | (at_builtin; refine wpList_append_parts rfl (.tmp 7) (.tmp 10) rfl w.heap.size (w1.heap.size + 1) v1 (0 + n) ([] ++ e) rfl ((unhide HO1).alloc _) (some ⟨w1.heap.size, 0, none⟩) 1 1 [(k, 0)] rfl (fun h => nomatch h) (PS.one _ _ _ _ _ (Nat.lt_succ_self _)) ?_ ?_ ?_; go_must (omega); go_must (exact le_alloc2 hb1.size); (intro v3 w3 hown3 hgrow3)))
  go_ret
  refine ⟨v3, rfl, ?_, (hb1.alloc hb1.size _).grown hgrow3 (le_alloc2 hb1.size) (own_block (unhide HO1))⟩
  have e1 : (e ++ [(k, 0)]).length = 0 + n + 1 := by simp [L1.out]
  rw [e1]
  simpa using hown3
end Go.Proofs.Ytgcggmlekmjpdaa

