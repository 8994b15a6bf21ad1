/-
  The walks of the laws on drawn texts: accepted texts are canonical, faults are found early.
-/
import Derived.Test.YtglffbkldffipaaLawsF4
import Derived.Test.YtglffbkldffipaaDrawT
namespace Go.Proofs.Ytglffbkldffipaa
open Go.RowKit
set_option linter.unusedVariables false
set_option maxRecDepth 100000

/-- What a law's draw of a text leaves. -/
def DrawTD (w : World) (r : Ending) (w' : World) : Prop := ∃ X : ByteArray, r = .returned (.string X) ∧ X.size ≤ 120 ∧ Below w.heap.size w w'
theorem dReadExpr_any (w : World) (n c : Nat) (A : Option Addr) (B : Nat) (h : CodeB w B A n) (hB : B ≤ w.heap.size) (hnc : n ≤ c) (hn : n ≤ 1048576) :
    Calls Try.prog 27 #[.slice A n c] w (DrawTD w) := by
  go_enter Try.func27, Try.ntmps27
  go_wp2_with fail
  refine (l20Open_any _ B n c A h hB hnc hn).mono ?_
  rintro r w1 ⟨R, rfl, hR, hRd, hb⟩
  go_wp2_with fail
  refine (l20Text_any _ B R 3 hRd (by omega) (by omega)).mono ?_
  rintro r w2 ⟨X, rfl, hX, hg⟩
  go_wp2
  go_ret
  exact ⟨X, rfl, hX, below_only hb hg hR⟩
theorem dTextFault_any (w : World) (n c : Nat) (A : Option Addr) (B : Nat) (h : CodeB w B A n) (hB : B ≤ w.heap.size) (hnc : n ≤ c) (hn : n ≤ 1048576) :
    Calls Try.prog 25 #[.slice A n c] w (DrawTD w) := by
  go_enter Try.func25, Try.ntmps25
  go_wp2_with fail
  refine (l20Open_any _ B n c A h hB hnc hn).mono ?_
  rintro r w1 ⟨R, rfl, hR, hRd, hb⟩
  go_wp2_with fail
  refine (l20Text_any _ B R 2 hRd (by omega) (by omega)).mono ?_
  rintro r w2 ⟨X, rfl, hX, hg⟩
  go_wp2
  go_ret
  exact ⟨X, rfl, hX, below_only hb hg hR⟩
/-- The text of what was read is the text. -/
theorem read_text {X Y : ByteArray} {e : List Pt} (h : ReadR X.data.toList e true) (hY : TxR e Y) : Y = X ∧ ∃ t : Ex, t.good ∧ X.data.toList = t.txt := by
  rcases h with ⟨-, -, t, hg, hf, hs, ht⟩ | ⟨h, -⟩
  · refine ⟨ByteArray.ext (Array.ext' ?_), t, hg, ht⟩
    rw [txtS.uniq hY.1 (.inr ⟨t, hg, hf, hs, rfl⟩), ht]
  · cases h
theorem brk_data (X : ByteArray) : ((⟨#[40]⟩ : ByteArray) ++ X ++ ⟨#[41]⟩).data.toList = 40 :: (X.data.toList ++ [41]) := by
  simp [ByteArray.data_append]
theorem brk_size (X : ByteArray) : ((⟨#[40]⟩ : ByteArray) ++ X ++ ⟨#[41]⟩).size = X.size + 2 := by
  rw [ByteArray.size_append, ByteArray.size_append]
  show 1 + X.size + 1 = _
  omega
set_option maxHeartbeats 4000000 in
theorem wFnReadExpr (A : Option Addr) (n c : Nat) (w : World) (hw : BytesIn w A n c) : Calls Try.prog 9 #[.slice A n c] w (Yes w) := by
  obtain ⟨hnc, hcm, hcode⟩ := hw
  unfold maxLen at hcm
  have HC := hide hcode
  clear hcode
  by_cases hn : 1048576 < n
  · go_enter Try.func9, Try.ntmps9
    go_wp2
    go_ret
    exact ⟨rfl, Below.refl _ _⟩
  · go_enter Try.func9, Try.ntmps9
    go_wp2_with fail
    refine (dReadExpr_any w n c A _ (unhide HC) (Nat.le_refl _) hnc (by omega)).mono ?_
    rintro r w1 ⟨X, rfl, hXs, hb1⟩
    have hxm : X.size ≤ maxLen := by unfold maxLen; omega
    have HXM := Lib.hid hxm
    clear hxm
    go_wp2_with fail
    refine (implReadExpr_any X _ HXM.out).mono ?_
    intro r w2 hd2
    obtain ⟨e, A2, c2, b, rfl, hel, hsl2, -, hb2, hR2⟩ := hd2.opn
    have hbb2 := hb1.trans (hb2.mono hb1.size)
    have F_e := hide hsl2
    have HR := Lib.hid hR2
    clear hd2 hsl2 hR2
    go_wp2_with fail
    refine (specReadExpr_any X _ HXM.out).mono ?_
    intro r w3 hd3
    obtain ⟨x, A3, c3, b3, rfl, -, hsl3, -, hb3, hR3⟩ := hd3.opn
    obtain ⟨hx, hbq⟩ := ReadR.uniq hR3 HR.out
    subst hx; subst hbq
    have hbb3 := hbb2.trans (hb3.mono hbb2.size)
    have e_3 := hide ((unhide F_e).up hb3)
    have F_x := hide hsl3
    clear hd3 hsl3 hR3 F_e
    go_wp2_with fail
    refine (sameParts_any _ _ _ _ _ _ _ x x (unhide e_3).1 (unhide F_x).1 (by omega) (by omega)).mono ?_
    rintro r w4 ⟨rfl, hb4⟩
    rw [show decide (x = x) = true by simp]
    have hbb4 := hbb3.trans (hb4.mono hbb3.size)
    have e_4 := hide ((unhide e_3).up hb4)
    clear e_3 F_x
    have hbs := brk_size X
    have HBS := Lib.hid hbs
    clear hbs
    have hbne : (b3 != b3) = false := by cases b3 <;> rfl
    go_wp2_with fail
    with_reducible refine (implReadExpr_any _ _ ?_).mono ?_
    · rw [HBS.out]; unfold maxLen; omega
    intro r w5 hd5
    obtain ⟨y, A5, c5, b5, rfl, -, -, -, hb5, hR5⟩ := hd5.opn
    rw [brk_data] at hR5
    have hbb5 := hbb4.trans (hb5.mono hbb4.size)
    have e_5 := hide ((unhide e_4).up hb5)
    have HR5 := Lib.hid hR5
    clear hd5 hR5 e_4
    rcases b3 with _ | _
    · have hx0 : x = [] := by
        rcases HR.out with ⟨h, -⟩ | ⟨-, h, -⟩
        · cases h
        · exact h
      subst hx0
      go_wp2_with (first | (go_at_call 20; refine (alive_any _).mono ?_; rintro r w6 ⟨rfl, rfl⟩))
      go_ret
      exact ⟨rfl, hbb5⟩
    · go_wp2_with (first
        | (go_at_call 15; refine (implExprText_any _ _ _ _ x (unhide e_5).1 (by omega) (unhide e_5).2.1 (unhide e_5).2.2.1).mono ?_; rintro r w6 ⟨Y, rfl, hY, hb6⟩; obtain ⟨hYX, t, hg, ht⟩ := read_text HR.out hY; subst hYX; (have hb50 : b5 = false := (by have h := HR5.out; rw [ht] at h; exact read_brk hg h)); subst hb50))
      go_ret
      exact ⟨rfl, hbb5.trans (hb6.mono hbb5.size)⟩
end Go.Proofs.Ytglffbkldffipaa
