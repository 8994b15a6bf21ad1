/-
  The walk of the exact law on derived expressions.
-/
import Derived.Test.YtadibjjjdbglaaaDer
import Derived.Test.YtadibjjjdbglaaaOpenLP
namespace Go.Proofs.Ytadibjjjdbglaaa
open Go.RowKit
set_option linter.unusedVariables false
set_option maxRecDepth 100000

theorem TupD.opn2 {w w' : World} {b : Bool} {y : List Pt} {r : Ending} (h : TupD w (b, y) r w') (hl : y.length ≤ 60) :
    ∃ A c, r = .returned (.tuple #[.slice A y.length c, .bool b]) ∧ SL w' w'.heap.size A y.length c y ∧ w'.ownsRow w.heap.size 45 2 (.slice A y.length c) y.length (flatV y) ∧ Below w.heap.size w w' := h.opn (by show y.length ≤ _; omega)
theorem SL_of {w : World} {B : Nat} {A : Option Addr} {n : Nat} {e : List Pt} (h : PS w B A n e) (hn : n ≤ maxLen) : SL w B A n n e := by
  refine ⟨h, Nat.le_refl _, hn, fun hA => ?_⟩
  by_cases h0 : 0 < n
  · obtain ⟨b, off, e1, -⟩ := h.addr h0
    rw [hA] at e1; cases e1
  · omega
set_option maxHeartbeats 4000000 in
theorem wFnExactDerive (A : Option Addr) (n c : Nat) (e : List Pt) (lt : Int) (w : World) (hw : PartsIn w A n c e) (hlt : -9223372036854775808 ≤ lt ∧ lt ≤ 9223372036854775807) : Calls Try.prog 12 #[.slice A n c, .int .i64 lt] w fun r w' => r = .returned (.bool true) ∧ Below w.heap.size w w' := by
  obtain ⟨hnc, hcm, hps⟩ := hw
  unfold maxLen at hcm
  obtain ⟨b, y, hpf⟩ : ∃ b y, derF lt e = (b, y) := ⟨_, _, rfl⟩
  have HPF := Lib.hid hpf
  have hyl : y.length ≤ 60 := by have := derF_len lt e; rw [hpf] at this; exact this
  have hbne : (b != b) = false := by cases b <;> rfl
  clear hpf
  by_cases hn : 1048576 < n
  · have e1 : (if 1048576 < n then (-1 : Int) else 1048576 - (n : Int)) = -1 := if_pos hn
    go_enter Try.func12, Try.ntmps12
    go_wp2_with (go_at_call 26; refine (szPartS_any _ _ _ _ (by omega)).mono ?_; rintro e w' ⟨rfl, rfl⟩)
    go_ret
    exact ⟨rfl, Below.refl _ _⟩
  · have e1 : (if 1048576 < n then (-1 : Int) else 1048576 - (n : Int)) = 1048576 - (n : Int) := if_neg hn
    have HP := hide hps
    clear hps
    go_enter Try.func12, Try.ntmps12
    go_wp2_with (go_at_call 26; refine (szPartS_any _ _ _ _ (by omega)).mono ?_; rintro e w' ⟨rfl, rfl⟩)
    refine (toPartS_any _ A n c e (unhide HP) (by omega)).mono ?_
    rintro r w1 ⟨rfl, hown1, hb1⟩
    obtain ⟨A1, c1, hv1, hc1, hp1⟩ := PS_own hown1
    injection hv1 with hA1 hn1 hcc1
    subst hA1; subst hcc1
    go_wp2_with fail
    refine (specDerive_all lt _ _ _ _ e hp1 (by omega) (Nat.le_refl _) (by unfold maxLen; omega)).mono ?_
    intro r w2 hd2
    rw [HPF.out] at hd2
    obtain ⟨Aw, cw, rfl, hsl2, -, hb2⟩ := hd2.opn2 hyl
    have hbb2 := hb1.trans (hb2.mono hb1.size)
    have HW2 := hide hsl2
    clear hsl2 hd2
    go_wp2_with fail
    refine (toPartS_any _ A n c e ((unhide HP).up hbb2) (by omega)).mono ?_
    rintro r w3 ⟨rfl, hown3, hb3⟩
    have hbb3 := hbb2.trans (hb3.mono hbb2.size)
    obtain ⟨A3, c3, hv3, hc3, hp3⟩ := PS_own hown3
    injection hv3 with hA3 hn3 hcc3
    subst hA3; subst hcc3
    have HO3 := hide hown3
    clear hown3
    go_wp2_with fail
    refine (implDerive_all lt _ _ _ _ e (SL_of hp3 (by unfold maxLen; omega)) (by omega)).mono ?_
    intro r w4 hd4
    rw [HPF.out] at hd4
    obtain ⟨Ag, cg, rfl, hsl4, hown4, hb4⟩ := hd4.opn2 hyl
    have hbb4 := hbb3.trans (hb4.mono hbb3.size)
    have HO4 := hide hown4
    have HS4 := hide hsl4
    clear hd4 hsl4 hown4
    have hb24 : Below w2.heap.size w2 w4 := hb3.trans (hb4.mono hb3.size)
    have HW4 := hide ((unhide HW2).up hb24)
    go_wp2_with fail
    refine (eqPartS_any _ _ _ _ _ _ _ y y (unhide HS4).1 (unhide HW4).1 (by omega) (by omega)).mono ?_
    rintro r w5 ⟨rfl, hb5⟩
    have hdd : decide (y = y) = true := by simp
    rw [hdd]
    clear hdd
    have hbb5 := hbb4.trans (hb5.mono hbb4.size)
    go_wp2_with fail
    refine (toPartS_any _ A n c e ((unhide HP).up hbb5) (by omega)).mono ?_
    rintro r w6 ⟨rfl, hown6, hb6⟩
    have hbb6 := hbb5.trans (hb6.mono hbb5.size)
    obtain ⟨A6, c6, hv6, hc6, hp6⟩ := PS_own hown6
    injection hv6 with hA6 hn6 hcc6
    subst hA6; subst hcc6
    go_wp2_with fail
    refine (eqPartS_any _ _ _ _ _ _ _ e e (((hp3.up hb4).up hb5).up hb6) hp6 (by omega) (by omega)).mono ?_
    rintro r w7 ⟨rfl, hb7⟩
    have hdd : decide (e = e) = true := by simp
    rw [hdd]
    clear hdd
    have hbb7 := hbb6.trans (hb7.mono hbb6.size)
    -- the marks in the argument
    have hb47 : Below w4.heap.size w4 w7 := hb5.trans ((hb6.trans (hb7.mono hb6.size)).mono hb5.size)
    have hb37 : Below w3.heap.size w3 w7 := hb4.trans (hb47.mono hb4.size)
    have hb27 : Below w2.heap.size w2 w7 := hb3.trans (hb37.mono hb3.size)
    have hO7 := own_keep (unhide HO3) hb37
    go_wp2_with fail
    refine (markPartS_any _ _ _ _ e hO7 (by omega)).mono ?_
    rintro r w8 ⟨rfl, -, hg8⟩
    have hb28 : Below w2.heap.size w2 w8 := hb27.grown hg8 hb27.size (own_block hO7)
    have hbb8 : Below w.heap.size w w8 := hbb2.trans (hb28.mono hbb2.size)
    have hG7 := own_keep (unhide HO4) hb47
    have hG8 := hG7.kept hg8 (own_apart hG7 (unhide HO3) (Nat.le_refl _))
    have hW8 := (unhide HW2).up hb28
    obtain ⟨Ag8, cg8, hvg8, hsg8⟩ := SL_own hG8 (by unfold maxLen; omega)
    injection hvg8 with hA8 hn8 hcc8
    subst hA8; subst hcc8
    have HW8 := hide hW8
    have HG8 := hide hG8
    clear hW8 hG8
    go_wp2_with fail
    refine (eqPartS_any _ _ _ _ _ _ _ y y hsg8.1 (unhide HW8).1 (by omega) (by omega)).mono ?_
    rintro r w9 ⟨rfl, hb9⟩
    have hdd : decide (y = y) = true := by simp
    rw [hdd]
    clear hdd
    have hbb9 := hbb8.trans (hb9.mono hbb8.size)
    go_wp2_with fail
    have hG9 := own_keep (unhide HG8) hb9
    refine (markPartS_any _ _ _ _ y hG9 (by omega)).mono ?_
    rintro r w10 ⟨rfl, hG10, hg10⟩
    have hb2a : Below w2.heap.size w2 w10 := (hb28.trans (hb9.mono hb28.size)).grown hg10 (by have := hb28.size; have := hb9.size; omega) (fun k h => by have := own_block hG9 k h; have := hb3.size; omega)
    have hbb10 : Below w.heap.size w w10 := hbb2.trans (hb2a.mono hbb2.size)
    obtain ⟨Ag10, cg10, hvg10, hsg10⟩ := SL_own hG10 (by unfold maxLen; omega)
    injection hvg10 with hA10 hn10 hcc10
    subst hA10; subst hcc10
    have HG10 := hide hsg10
    go_wp2_with fail
    refine (heldPartS_any _ _ _ _ hsg10.1 (by omega)).mono ?_
    rintro r w11 ⟨rfl, rfl⟩
    go_wp2_with fail
    refine (toPartS_any _ A n c e ((unhide HP).up hbb10) (by omega)).mono ?_
    rintro r w12 ⟨rfl, hown12, hb12⟩
    have hbb12 := hbb10.trans (hb12.mono hbb10.size)
    obtain ⟨A12, c12, hv12, hc12, hp12⟩ := PS_own hown12
    injection hv12 with hA12 hn12 hcc12
    subst hA12; subst hcc12
    go_wp2_with fail
    refine (implDerive_all lt _ _ _ _ e (SL_of hp12 (by unfold maxLen; omega)) (by omega)).mono ?_
    intro r w13 hd13
    rw [HPF.out] at hd13
    obtain ⟨Ah, ch, rfl, hsl13, -, hb13⟩ := hd13.opn2 hyl
    have hbb13 := hbb12.trans (hb13.mono hbb12.size)
    have hW13 := ((unhide HW2).up hb2a).up (hb12.trans (hb13.mono hb12.size))
    go_wp2_with fail
    refine (eqPartS_any _ _ _ _ _ _ _ y y hsl13.1 hW13.1 (by omega) (by omega)).mono ?_
    rintro r w14 ⟨rfl, hb14⟩
    have hdd : decide (y = y) = true := by simp
    rw [hdd]
    clear hdd
    have hbb14 := hbb13.trans (hb14.mono hbb13.size)
    go_wp2_with fail
    refine (heldPartS_any _ _ _ _ ((((unhide HG10).up hb12).up hb13).up hb14).1 (by omega)).mono ?_
    rintro r w15 ⟨rfl, rfl⟩
    go_wp2
    go_ret
    exact ⟨rfl, hbb14⟩


end Go.Proofs.Ytadibjjjdbglaaa
