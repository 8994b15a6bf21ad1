/-
  Membership: the closures of spansOf.
-/
import Derived.Test.YtgcggmlekmjpdaaSpans3
import Derived.Test.YtgcggmlekmjpdaaWords
import Derived.Test.YtgcggmlekmjpdaaSimp
import Derived.Test.YtgcggmlekmjpdaaSame
import Derived.Deep.QuietTactic
import Derived.BigQuiet
import Derived.Deep.MidRow
namespace Go.Proofs.Ytgcggmlekmjpdaa
open Go.RowKit
set_option linter.unusedVariables false
set_option maxRecDepth 100000

theorem enter_of1 (args : Array Value) (W : World) : (callFunc 74 args).run Try.prog W = .ok (.enter 74 args) W := rfl
theorem enter_of2 (args : Array Value) (W : World) : (callFunc 75 args).run Try.prog W = .ok (.enter 75 args) W := rfl
theorem enter_of3 (args : Array Value) (W : World) : (callFunc 77 args).run Try.prog W = .ok (.enter 77 args) W := rfl
theorem enter_of4 (args : Array Value) (W : World) : (callFunc 78 args).run Try.prog W = .ok (.enter 78 args) W := rfl
theorem enter_of5 (args : Array Value) (W : World) : (callFunc 79 args).run Try.prog W = .ok (.enter 79 args) W := rfl
theorem of3_any (w : World) (ga gb i j : Nat) (P Q : Nat → Nat → Bool) (hij : i ≤ j) (hj : j ≤ 8) (ha : ArrB w ga P) (hb : ArrB w gb Q) :
    Calls Try.prog 77 #[.int .i64 i, .int .i64 j, .pointer (some ⟨ga, 0, none⟩), .pointer (some ⟨gb, 0, none⟩)] w fun r w' => r = .returned (.bool (P i j || Q i j)) ∧ w = w' := by
  have c1 := ha.cell (a := i) (b := j) (by omega) (by omega)
  have c2 := hb.cell (a := i) (b := j) (by omega) (by omega)
  clear ha hb
  have i0 : (0 : Int) ≤ (i : Int) := Int.natCast_nonneg _
  have i1 : (i : Int) < 9 := by omega
  have j0 : (0 : Int) ≤ (j : Int) := Int.natCast_nonneg _
  have j1 : (j : Int) < 9 := by omega
  rcases h1 : P i j
  all_goals
    rw [h1] at c1
    go_enter Try.func77, Try.ntmps77
    go_wp2
    go_ret
    exact ⟨ret_bool (by simp), rfl⟩
theorem of4_any (w : World) (ga gb i j : Nat) (P Q : Nat → Nat → Bool) (hij : i ≤ j) (hj : j ≤ 8) (ha : ArrB w ga P) (hb : ArrB w gb Q) :
    Calls Try.prog 78 #[.int .i64 i, .int .i64 j, .pointer (some ⟨ga, 0, none⟩), .pointer (some ⟨gb, 0, none⟩)] w fun r w' => r = .returned (.bool (P i j && Q i j)) ∧ w = w' := by
  have c1 := ha.cell (a := i) (b := j) (by omega) (by omega)
  have c2 := hb.cell (a := i) (b := j) (by omega) (by omega)
  clear ha hb
  have i0 : (0 : Int) ≤ (i : Int) := Int.natCast_nonneg _
  have i1 : (i : Int) < 9 := by omega
  have j0 : (0 : Int) ≤ (j : Int) := Int.natCast_nonneg _
  have j1 : (j : Int) < 9 := by omega
  rcases h1 : P i j
  all_goals
    rw [h1] at c1
    go_enter Try.func78, Try.ntmps78
    go_wp2
    go_ret
    exact ⟨ret_bool (by simp), rfl⟩
theorem of5_any (w : World) (ga i j : Nat) (P : Nat → Nat → Bool) (hij : i ≤ j) (hj : j ≤ 8) (ha : ArrB w ga P) :
    Calls Try.prog 79 #[.int .i64 i, .int .i64 j, .pointer (some ⟨ga, 0, none⟩)] w fun r w' => r = .returned (.bool (!(P i j))) ∧ w = w' := by
  have c1 := ha.cell (a := i) (b := j) (by omega) (by omega)
  clear ha
  have i0 : (0 : Int) ≤ (i : Int) := Int.natCast_nonneg _
  have i1 : (i : Int) < 9 := by omega
  have j0 : (0 : Int) ≤ (j : Int) := Int.natCast_nonneg _
  have j1 : (j : Int) < 9 := by omega
  go_enter Try.func79, Try.ntmps79
  go_wp2
  go_ret
  exact ⟨ret_bool (by simp), rfl⟩
/-- The letter of a word at a place. -/
theorem let_at {s : ByteArray} (hs : letsB s.data.toList = true) {i : Nat} (h : i < s.size) : ∃ c, s.data.toList[i]? = some c ∧ letB c = true := by
  have hlt : i < s.data.toList.length := by simpa using h
  refine ⟨_, List.getElem?_eq_getElem hlt, ?_⟩
  rw [letsB, List.all_eq_true] at hs
  exact hs _ (List.getElem_mem hlt)
theorem quiet_leftS {P : Program} {f : FuncId} {args : Array Value} {w : World} {n : Nat} {v : Value}
    (h : Calls P f args (w.drewN n) fun e w' => e = .returned v ∧ w.drewN n = w') : Calls P f args (w.drewN n) fun e w'' => e = .returned v ∧ ∃ m, w'' = w.drewN m :=
  h.mono fun _ _ ⟨he, hm⟩ => ⟨he, n, hm.symm⟩
set_option maxHeartbeats 1000000 in
theorem of2_any (w : World) (gs gp i j : Nat) (s : ByteArray) (k l : Int) (hij : i ≤ j) (hj : j ≤ s.size) (h8 : s.size ≤ 8) (hs : letsB s.data.toList = true) (ha : w.heap[gs]? = some (.cells #[.string s] 9 (0, 0))) (hb : w.heap[gp]? = some (pbox k l)) :
    Calls Try.prog 75 #[.int .i64 i, .int .i64 j, .pointer (some ⟨gs, 0, none⟩), .pointer (some ⟨gp, 0, none⟩)] w fun r w' => r = .returned (.bool (decide (j = i + 1) && letAt s.data.toList i l)) ∧ Below w.heap.size w w' := by
  have c0 : w.cell? ⟨gs, 0, none⟩ = some (.string s) := by rw [cell_of_row w gs 0 _ _ _ ha]; rfl
  have c1 : w.cell? ⟨gp, 0, none⟩ = some (.int .i64 k) := by rw [cell_of_row w gp 0 _ _ _ hb]; rfl
  have c2 : w.cell? ⟨gp, 1, none⟩ = some (.int .i64 l) := by rw [cell_of_row w gp 1 _ _ _ hb]; rfl
  clear ha hb
  have hw : IntKind.i64.wrap ((i : Int) + 1) = (i : Int) + 1 := IntWalk.i64_in _ (by omega)
  by_cases e : j = i + 1
  · obtain ⟨c, hc, hl⟩ := let_at hs (i := i) (by omega)
    have hji : ((j : Int) == (i : Int) + 1) = true := by simp [e]
    have hd : decide (j = i + 1) = true := by simp [e]
    have hla : letAt s.data.toList i l = (digI c == l) := by rw [letAt, hc]; rfl
    rw [hd, hla]
    have hcl := fun W => letter_any s (i : Int) c W (by omega) (by simpa using hc) hl
    clear hc hla hd e
    rcases hq : (digI c == l)
    all_goals
      go_enter Try.func75, Try.ntmps75
      go_wp2_with fail
      go_quiet ((go_at_call 57; exact quiet_leftS (hcl _)))
      go_wp2
      go_ret
      exact ⟨ret_bool (by simp), by first | exact (Below.refl _ _).drew | exact below_drewN (Below.refl _ _) _⟩
  · have hji : ((j : Int) == (i : Int) + 1) = false := by simp; omega
    have hd : decide (j = i + 1) = false := by simp [e]
    rw [hd]
    clear e hd
    go_enter Try.func75, Try.ntmps75
    go_wp2_with fail
    go_quiet (fail)
    go_wp2
    go_ret
    exact ⟨ret_bool (by simp), by first | exact (Below.refl _ _).drew | exact below_drewN (Below.refl _ _) _⟩
end Go.Proofs.Ytgcggmlekmjpdaa
