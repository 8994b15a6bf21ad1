/-
  The walk of the exact law on reading texts of expressions.
-/
import Derived.Test.YtglffbkldffipaaReadX
import Derived.Test.YtglffbkldffipaaOpenLP
namespace Go.Proofs.Ytglffbkldffipaa
open Go.RowKit
set_option linter.unusedVariables false
set_option maxRecDepth 100000

set_option maxHeartbeats 4000000 in
theorem wFnExactReadExpr (s : ByteArray) (w : World) (hsm : s.size ≤ maxLen) : Calls Try.prog 6 #[.string s] w fun r w' => r = .returned (.bool true) ∧ Below w.heap.size w w' := by
  by_cases hsz : 1048576 < s.size
  · unfold maxLen at hsm
    go_enter Try.func6, Try.ntmps6
    go_wp2
    go_ret
    exact ⟨rfl, Below.refl _ _⟩
  · go_enter Try.func6, Try.ntmps6
    go_wp2_with fail
    refine (specReadExpr_any s w hsm).mono ?_
    intro r w2 hd2
    obtain ⟨y, Aw, cw, b, rfl, hyl, hsl2, -, hb2, hR2⟩ := hd2.opn
    have HW2 := hide hsl2
    have HR2 := Lib.hid hR2
    have hbne : (b != b) = false := by cases b <;> rfl
    clear hsl2 hd2 hR2
    go_wp2_with fail
    refine (implReadExpr_any s w2 hsm).mono ?_
    intro r w4 hd4
    obtain ⟨y', Ag, cg, b', rfl, -, hsl4, hown4, hb4, hR4⟩ := hd4.opn
    obtain ⟨hy, hbb'⟩ := ReadR.uniq hR4 HR2.out
    subst hy; subst hbb'
    have hbb4 := hb2.trans (hb4.mono hb2.size)
    have HO4 := hide hown4
    have HS4 := hide hsl4
    have HW4 := hide ((unhide HW2).up hb4)
    clear hd4 hsl4 hown4 hR4
    go_wp2_with fail
    refine (eqPartS_any _ _ _ _ _ _ _ y' y' (unhide HS4).1 (unhide HW4).1 (by omega) (by omega)).mono ?_
    rintro r w5 ⟨rfl, hb5⟩
    have hdd : decide (y' = y') = true := by simp
    rw [hdd]
    clear hdd
    have hbb5 := hbb4.trans (hb5.mono hbb4.size)
    have hb25 := hb4.trans (hb5.mono hb4.size)
    have hG5 := own_keep (unhide HO4) hb5
    go_wp2_with fail
    refine (markPartS_any _ _ _ _ y' hG5 (by omega)).mono ?_
    rintro r w10 ⟨rfl, hG10, hg10⟩
    have hb2a : Below w2.heap.size w2 w10 := hb25.grown hg10 hb25.size (fun k h => own_block hG5 k h)
    have hbb10 : Below w.heap.size w w10 := hb2.trans (hb2a.mono hb2.size)
    obtain ⟨Ag10, cg10, hvg10, hsg10⟩ := SL_own hG10 (by unfold maxLen; omega)
    injection hvg10 with hA10 hn10 hcc10
    subst hA10; subst hcc10
    have HG10 := hide hsg10
    go_wp2_with fail
    refine (heldPartS_any _ _ _ _ hsg10.1 (by omega)).mono ?_
    rintro r w11 ⟨rfl, rfl⟩
    go_wp2_with fail
    refine (implReadExpr_any s w10 hsm).mono ?_
    intro r w13 hd13
    obtain ⟨z, Ah, ch, b2, rfl, -, hsl13, -, hb13, hR13⟩ := hd13.opn
    obtain ⟨hy, hbb'⟩ := ReadR.uniq hR13 HR2.out
    subst hy; subst hbb'
    have hbb13 := hbb10.trans (hb13.mono hbb10.size)
    have hW13 := ((unhide HW2).up hb2a).up hb13
    go_wp2_with fail
    refine (eqPartS_any _ _ _ _ _ _ _ z z hsl13.1 hW13.1 (by omega) (by omega)).mono ?_
    rintro r w14 ⟨rfl, hb14⟩
    have hdd : decide (z = z) = true := by simp
    rw [hdd]
    clear hdd
    have hbb14 := hbb13.trans (hb14.mono hbb13.size)
    go_wp2_with fail
    refine (heldPartS_any _ _ _ _ (((unhide HG10).up hb13).up hb14).1 (by omega)).mono ?_
    rintro r w15 ⟨rfl, rfl⟩
    go_wp2
    go_ret
    exact ⟨rfl, hbb14⟩
end Go.Proofs.Ytglffbkldffipaa
