/-
  The walk of the exact law on the number of derivatives.
-/
import Derived.Test.YtadibjjjdbglaaaDcW
import Derived.Test.YtadibjjjdbglaaaDcS
import Derived.Test.YtadibjjjdbglaaaOpenLP
namespace Go.Proofs.Ytadibjjjdbglaaa
open Go.RowKit
set_option linter.unusedVariables false
set_option maxRecDepth 100000

set_option maxHeartbeats 2000000 in
theorem wFnExactDeriveCount (A : Option Addr) (n c : Nat) (e : List Pt) (len : Int) (w : World) (hw : PartsIn w A n c e) (hlb : -9223372036854775808 ≤ len ∧ len ≤ 9223372036854775807) : Calls Try.prog 4 #[.slice A n c, .int .i64 len] w fun r w' => r = .returned (.bool true) ∧ Below w.heap.size w w' := by
  obtain ⟨hnc, hcm, hps⟩ := hw
  unfold maxLen at hcm
  by_cases hn : 1048576 < n
  · have e1 : (if 1048576 < n then (-1 : Int) else 1048576 - (n : Int)) = -1 := if_pos hn
    go_enter Try.func4, Try.ntmps4
    go_wp2_with (go_at_call 26; refine (szPartS_any _ _ _ _ (by omega)).mono ?_; rintro e w' ⟨rfl, rfl⟩)
    go_ret
    exact ⟨rfl, Below.refl _ _⟩
  · have e1 : (if 1048576 < n then (-1 : Int) else 1048576 - (n : Int)) = 1048576 - (n : Int) := if_neg hn
    have HP := hide hps
    clear hps
    obtain ⟨d, hd⟩ : ∃ d, dcntI e len = d := ⟨_, rfl⟩
    have HD := Lib.hid hd
    clear hd
    have hne : (d != d) = false := by simp
    go_enter Try.func4, Try.ntmps4
    go_wp2_with (go_at_call 26; refine (szPartS_any _ _ _ _ (by omega)).mono ?_; rintro e w' ⟨rfl, rfl⟩)
    refine (toPartS_any _ A n c e (unhide HP) (by omega)).mono ?_
    rintro r w1 ⟨rfl, hown1, hb1⟩
    obtain ⟨A1, c1, hv1, hs1⟩ := SL_own hown1 (by unfold maxLen; omega)
    injection hv1 with hA1 hn1 hcc1
    subst hA1; subst hcc1
    go_wp2_with fail
    refine (specDeriveCount_all len _ _ _ _ e hs1 (by omega)).mono ?_
    rintro r w2 ⟨rfl, hb2⟩
    rw [HD.out]
    have hbb2 := hb1.trans (hb2.mono hb1.size)
    go_wp2_with fail
    refine (toPartS_any _ A n c e ((unhide HP).up hbb2) (by omega)).mono ?_
    rintro r w3 ⟨rfl, hown3, hb3⟩
    have hbb3 := hbb2.trans (hb3.mono hbb2.size)
    obtain ⟨A3, c3, hv3, hs3⟩ := SL_own hown3 (by unfold maxLen; omega)
    injection hv3 with hA3 hn3 hcc3
    subst hA3; subst hcc3
    have hp3 := hs3.1
    go_wp2_with fail
    refine (implDeriveCount_all len _ _ _ _ e hs3 (by omega)).mono ?_
    rintro r w4 ⟨rfl, hb4⟩
    rw [HD.out]
    have hbb4 := hbb3.trans (hb4.mono hbb3.size)
    go_wp2_with fail
    refine (toPartS_any _ A n c e ((unhide HP).up hbb4) (by omega)).mono ?_
    rintro r w5 ⟨rfl, hown5, hb5⟩
    have hbb5 := hbb4.trans (hb5.mono hbb4.size)
    obtain ⟨A5, c5, hv5, hc5, hp5⟩ := PS_own hown5
    injection hv5 with hA5 hn5 hcc5
    subst hA5; subst hcc5
    go_wp2_with fail
    refine (eqPartS_any _ _ _ _ _ _ _ e e ((hp3.up hb4).up hb5) hp5 (by omega) (by omega)).mono ?_
    rintro r w6 ⟨rfl, hb6⟩
    go_wp2
    go_ret
    exact ⟨rfl, hbb5.trans (hb6.mono hbb5.size)⟩
end Go.Proofs.Ytadibjjjdbglaaa
