/-
  Membership: the program's accepts and ExprAccepts.
-/
import Derived.Test.YtgcggmlekmjpdaaSpans6
namespace Go.Proofs.Ytgcggmlekmjpdaa
open Go.RowKit
set_option linter.unusedVariables false
set_option maxRecDepth 100000

theorem runD_of_exprB {e : List Pt} (h : exprB e = true) : runD e 0 = some 1 := by
  rw [exprB, Bool.and_eq_true, decide_eq_true_eq, decide_eq_true_eq] at h; exact h.2
theorem len_of_exprB {e : List Pt} (h : exprB e = true) : e.length ≤ 60 := by
  rw [exprB, Bool.and_eq_true, decide_eq_true_eq, decide_eq_true_eq] at h; omega
/-- Whether a word is in the language of an expression, both taken as they come. -/
def AccR (e : List Pt) (s : List UInt8) (b : Bool) : Prop := ∃ t : Ex, t.good ∧ t.flat = e ∧ b = t.acc s
theorem AccR.uniq {e : List Pt} {s : List UInt8} {a b : Bool} (h : AccR e s a) (k : AccR e s b) : a = b := by
  obtain ⟨t, h1, h2, rfl⟩ := h
  obtain ⟨u, k1, k2, rfl⟩ := k
  rw [Ex.flat_inj h1 k1 (h2.trans k2.symm)]
theorem AccR.of {t : Ex} (h : t.good) (s : List UInt8) : AccR t.flat s (t.acc s) := ⟨t, h, rfl, rfl⟩
theorem index_row (C : Array Value) (W : World) : (Instr.index 73 (.agg C) (.int .i64 0)).run Try.prog W = .ok (.agg (C.extract 0 9)) W := by
  have u1 := Try.underlying73
  have a1 := Try.isAgg71
  have z1 := Try.sizeOf71
  simp [Instr.index, run_underlying u1, asIntOf, Go.part, a1, z1]
theorem index_bool (D : Array Value) (n : Nat) (b : Bool) (hn : n < 9) (h : D[n]? = some (.bool b)) (W : World) : (Instr.index 71 (.agg D) (.int .i64 (n : Int))).run Try.prog W = .ok (.bool b) W := by
  have u1 := Try.underlying71
  have a1 := Try.isAgg4
  have z1 := Try.sizeOf4
  have hn' : (n : Int) < 9 := by omega
  simp [Instr.index, run_underlying u1, asIntOf, Go.part, a1, z1, h]
  omega
def AccD (w : World) (e : List Pt) (s : List UInt8) (r : Ending) (w' : World) : Prop := ∃ b, r = .returned (.bool b) ∧ AccR e s b ∧ Below w.heap.size w w'
theorem accepts_any (w : World) (A : Option Addr) (n c : Nat) (e : List Pt) (s : ByteArray) (h : PS w w.heap.size A n e) (hv : exprB e = true) (hs : wordB s.data.toList = true) :
    Calls Try.prog 43 #[.slice A n c, .string s] w (AccD w e s.data.toList) := by
  obtain ⟨hs1, hs2⟩ := wordB_iff.1 hs
  have hsz : s.data.toList.length = s.size := by simp
  have h8 : s.size ≤ 8 := by omega
  have hl := h.1
  have hn := len_of_exprB hv
  go_enter Try.func43, Try.ntmps43
  go_wp2_with fail
  refine (spansOf_any w A n c e s h (by omega) (runD_of_exprB hv) hs1 h8).mono ?_
  rintro r w1 ⟨t, hg, hf, C, rfl, hC, hCs, hb⟩
  have hc : C[s.size]? = some (.bool (t.acc s.data.toList)) := by
    rw [← hC.out, arr_get _ _ (by omega), show s.size / 9 = 0 by omega, show s.size % 9 = s.size by omega, Ex.acc, upTo_at (by omega) (by omega), hsz]
  have hx1 := index_row C
  have hx2 := index_bool (C.extract 0 9) s.size (t.acc s.data.toList) (by omega) (by rw [Array.getElem?_extract, if_pos (by omega), Nat.zero_add]; exact hc)
  have HT := Lib.hid (show t.good ∧ t.flat = e from ⟨hg, hf⟩)
  generalize C.extract 0 9 = D at *
  clear hc hv hs hs1 hs2 hsz
  go_wp2
  go_ret
  exact ⟨_, rfl, ⟨t, HT.out.1, HT.out.2, rfl⟩, hb⟩
/-- What ExprAccepts returns: false unless both are valid. -/
def EAcc (e : List Pt) (s : List UInt8) (b : Bool) : Prop := (exprB e = true ∧ wordB s = true ∧ AccR e s b) ∨ (¬(exprB e = true ∧ wordB s = true) ∧ b = false)
theorem EAcc.uniq {e : List Pt} {s : List UInt8} {a b : Bool} (h : EAcc e s a) (k : EAcc e s b) : a = b := by
  rcases h with ⟨h1, h2, h3⟩ | ⟨h1, rfl⟩
  · rcases k with ⟨k1, k2, k3⟩ | ⟨k1, rfl⟩
    · exact h3.uniq k3
    · exact absurd ⟨h1, h2⟩ k1
  · rcases k with ⟨k1, k2, k3⟩ | ⟨k1, rfl⟩
    · exact absurd ⟨k1, k2⟩ h1
    · rfl
def EAccD (w : World) (e : List Pt) (s : List UInt8) (r : Ending) (w' : World) : Prop := ∃ b, r = .returned (.bool b) ∧ EAcc e s b ∧ Below w.heap.size w w'
theorem implExprAccepts_any (w : World) (A : Option Addr) (n c : Nat) (e : List Pt) (s : ByteArray) (h : PS w w.heap.size A n e) (hs : s.size ≤ maxLen) :
    Calls Try.prog 18 #[.slice A n c, .string s] w (EAccD w e s.data.toList) := by
  rcases hv : exprB e
  · go_enter Try.func18, Try.ntmps18
    go_wp2_with (go_at_call 41; refine (implExprValid_any _ _ _ _ e h).mono ?_; rintro r w1 ⟨rfl, hb⟩; rw [hv])
    go_ret
    exact ⟨_, rfl, .inr ⟨by simp [hv], rfl⟩, hb⟩
  · rcases hw : wordB s.data.toList
    · go_enter Try.func18, Try.ntmps18
      go_wp2_with (first | (go_at_call 41; refine (implExprValid_any _ _ _ _ e h).mono ?_; rintro r w1 ⟨rfl, hb⟩; rw [hv]) | (go_at_call 42; refine (implWordValid_any s _ hs).mono ?_; rintro r w2 ⟨rfl, rfl⟩; rw [hw]))
      go_ret
      exact ⟨_, rfl, .inr ⟨by simp [hw], rfl⟩, hb⟩
    · go_enter Try.func18, Try.ntmps18
      go_wp2_with (first | (go_at_call 41; refine (implExprValid_any _ _ _ _ e h).mono ?_; rintro r w1 ⟨rfl, hb⟩; rw [hv]) | (go_at_call 42; refine (implWordValid_any s _ hs).mono ?_; rintro r w2 ⟨rfl, rfl⟩; rw [hw]) | (go_at_call 43; refine (accepts_any _ _ _ _ e s (h.up hb) hv hw).mono ?_; rintro r w3 ⟨b, rfl, hacc, hb3⟩))
      go_ret
      exact ⟨_, rfl, .inl ⟨hv, hw, hacc⟩, hb.trans (hb3.mono hb.size)⟩
end Go.Proofs.Ytgcggmlekmjpdaa
