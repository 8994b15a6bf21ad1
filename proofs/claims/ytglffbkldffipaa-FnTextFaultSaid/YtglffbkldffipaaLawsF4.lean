/-
  The walk of the law that texts of expressions can be read.
-/
import Derived.Test.YtglffbkldffipaaReadX
import Derived.Test.YtglffbkldffipaaLawsF2
namespace Go.Proofs.Ytglffbkldffipaa
open Go.RowKit
set_option linter.unusedVariables false
set_option maxRecDepth 100000

/-- A short expression's text reads back. -/
theorem short_reads {e y : List Pt} {X : ByteArray} {b : Bool} (hX : TxR e X) (hv : exprB e = true) (hl : e.length ≤ 17) (h : ReadR X.data.toList y b) : b = true ∧ y = e ∧ faultI X.data.toList = X.size := by
  obtain ⟨t, hg, hf, hs, ht⟩ := hX.tree hv
  have h1 := t.txt_len.1
  have h2 : t.sz ≤ 17 := by rw [← Ex.flat_length, hf]; exact hl
  have h3 : t.txt.length ≤ 120 := by omega
  have h4 : ReadR X.data.toList e true := .inl ⟨rfl, by rw [ht]; exact h3, t, hg, hf, hs, ht⟩
  obtain ⟨hy, hb⟩ := ReadR.uniq h h4
  refine ⟨hb, hy, ?_⟩
  have h5 := fault_whole hg h3
  have h6 : X.data.toList.length = X.size := rfl
  rw [← ht, h6] at h5
  exact h5
set_option maxHeartbeats 4000000 in
theorem wFnExprText (A : Option Addr) (n c : Nat) (w : World) (hw : BytesIn w A n c) : Calls Try.prog 8 #[.slice A n c] w (Yes w) := by
  obtain ⟨hnc, hcm, hcode⟩ := hw
  unfold maxLen at hcm
  have HC := hide hcode
  clear hcode
  by_cases hn : 1048576 < n
  · go_enter Try.func8, Try.ntmps8
    go_wp2
    go_ret
    exact ⟨rfl, Below.refl _ _⟩
  · go_enter Try.func8, Try.ntmps8
    go_wp2_with fail
    refine (dExprText_any w n c A _ (unhide HC) (Nat.le_refl _) hnc (by omega)).mono ?_
    rintro r w1 ⟨e, A1, n1, c1, rfl, hl1, hsl1, hb1⟩
    have F_e := hide hsl1
    have HLE := Lib.hid hsl1.1.1
    clear hsl1
    go_wp2_with fail
    refine (implExprText_any _ _ _ _ e (unhide F_e).1 (by omega) (unhide F_e).2.1 (unhide F_e).2.2.1).mono ?_
    rintro r w2 ⟨X, rfl, hX, hb2⟩
    have hbb2 := hb1.trans (hb2.mono hb1.size)
    have e_2 := hide ((unhide F_e).up hb2)
    have HX := Lib.hid hX
    have hXs := hX.2
    clear hX F_e
    go_wp2_with fail
    refine (specExprText_any _ _ _ _ e (unhide e_2).1 (by omega) (unhide e_2).2.1 (unhide e_2).2.2.1).mono ?_
    rintro r w3 ⟨X', rfl, hX', hb3⟩
    obtain rfl : X = X' := TxR.uniq HX.out hX'
    have hbb3 := hbb2.trans (hb3.mono hbb2.size)
    have e_3 := hide ((unhide e_2).up hb3)
    clear hX' e_2
    go_wp2_with fail
    refine (specExprValid_any _ _ _ _ e (unhide e_3).1 (by omega)).mono ?_
    rintro r w4 ⟨rfl, hb4⟩
    have hbb4 := hbb3.trans (hb4.mono hbb3.size)
    have e_4 := hide ((unhide e_3).up hb4)
    clear e_3
    rcases hv : exprB e
    · have hX0 := Lib.hid (TxR.bad HX.out hv)
      have hxe : X.toList = [] := by rw [hX0.out, Lib.toList_data]
      have hxe2 : X.toList.isEmpty = true := by rw [hxe]; rfl
      go_wp2_with (first | (go_at_call 20; refine (alive_any _).mono ?_; rintro r w5 ⟨rfl, rfl⟩))
      go_ret
      exact ⟨rfl, hbb4⟩
    · have HV := Lib.hid hv
      have hn60 : n1 ≤ 60 := by
        have h1 : ((e.length : Nat) : Int) ≤ 60 := by
          have h2 := hv
          rw [exprB, Bool.and_eq_true] at h2
          exact of_decide_eq_true h2.1
        have := HLE.out
        omega
      have hn17 : n1 ≤ 17 := by omega
      clear hv
      go_wp2_with fail
      refine (implReadExpr_any X _ (by unfold maxLen; omega)).mono ?_
      intro r w5 hd5
      obtain ⟨y, A5, c5, b5, rfl, hyl, hsl5, -, hb5, hR5⟩ := hd5.opn
      obtain ⟨hb, hy, hfa⟩ := short_reads HX.out HV.out (by have := HLE.out; omega) hR5
      subst hb; subst hy
      have hbb5 := hbb4.trans (hb5.mono hbb4.size)
      have e_5 := hide ((unhide e_4).up hb5)
      have HY := hide hsl5
      have HFA := Lib.hid hfa
      clear hd5 hsl5 hR5 hfa e_4
      go_wp2_with (first
        | (go_at_call 26; refine (sameParts_any _ _ _ _ _ _ _ y y (unhide HY).1 (unhide e_5).1 (by omega) (by omega)).mono ?_; rintro r w6 ⟨rfl, hb6⟩; rw [show decide (y = y) = true by simp])
        | (go_at_call 11; refine (implTextFault_any X _ (by unfold maxLen; omega)).mono ?_; rintro r w7 ⟨rfl, rfl⟩; rw [HFA.out]))
      go_ret
      exact ⟨rfl, hbb5.trans (hb6.mono hbb5.size)⟩
end Go.Proofs.Ytglffbkldffipaa
