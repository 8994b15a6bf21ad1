/-
  The walks of the laws on languages of turned and simplified expressions.
-/
import Derived.Test.YtadibjjjdbglaaaDrawL
import Derived.Test.YtadibjjjdbglaaaEacc
import Derived.Test.YtadibjjjdbglaaaSimpS2
import Derived.Test.YtadibjjjdbglaaaTurn3
import Derived.Test.YtadibjjjdbglaaaWords2
namespace Go.Proofs.Ytadibjjjdbglaaa
open Go.RowKit
set_option linter.unusedVariables false
set_option maxRecDepth 100000

theorem FlatR.at5 {f : Ex → Ex} {t : Ex} {e x : List Pt} (he : Opq (t.flat = e)) (hg : t.good) (hs : t.sz ≤ 60) (h : FlatR f e x) : Opq ((f t).flat = x) := ⟨by
  rw [← he.out] at h; exact (FlatR.uniq h (.inr ⟨t, hg, rfl, hs, rfl⟩)).symm⟩
theorem FlatR.len5 {f : Ex → Ex} {e x : List Pt} (hf : ∀ t : Ex, (f t).sz ≤ t.sz) (h : FlatR f e x) : x.length ≤ 60 := by
  rcases h with ⟨-, rfl⟩ | ⟨t, -, -, hs, rfl⟩
  · simp
  · rw [Ex.flat_length]; have := hf t; omega
theorem FlatR.bad5 {f : Ex → Ex} {e x : List Pt} (hv : exprB e = false) (h : FlatR f e x) : x = [] := by
  rcases h with ⟨-, rfl⟩ | ⟨t, hg, hf, hs, rfl⟩
  · rfl
  · have : exprB e = true := exprB_iff.2 ⟨t, hg, hf, hs⟩
    rw [hv] at this; cases this
theorem wordB_rev (l : List UInt8) : wordB l.reverse = wordB l := by simp [wordB, letsB]
theorem turn_szle (t : Ex) : t.turn.sz ≤ t.sz := Nat.le_of_eq (Ex.turn_sz t)
namespace Ex
theorem acc_turn {t : Ex} (hg : t.good) (s : List UInt8) : t.turn.acc s.reverse = t.acc s := acc_congr (by rw [turn_L t hg, List.reverse_reverse])
theorem acc_simp {t : Ex} (hg : t.good) (s : List UInt8) : t.simp.acc s = t.acc s := acc_congr (simp_L hg s)
theorem acc_ts {t : Ex} (hg : t.good) (s : List UInt8) : t.simp.turn.acc s = t.turn.simp.acc s := acc_congr (by
  rw [turn_L _ (simp_good hg), simp_L hg, simp_L (turn_good hg), turn_L t hg])
end Ex
set_option maxHeartbeats 4000000 in
theorem wFnTurnExpr (A : Option Addr) (n c : Nat) (A' : Option Addr) (n' c' : Nat) (w : World) (hw : BytesIn w A n c) (hw2 : BytesIn w A' n' c') : Calls Try.prog 8 #[.slice A n c, .slice A' n' c'] w (Yes w) := by
  obtain ⟨hnc, hcm, hcode⟩ := hw
  obtain ⟨hnc2, hcm2, hcode2⟩ := hw2
  unfold maxLen at hcm hcm2
  have HC := hide hcode
  have HC2 := hide hcode2
  clear hcode hcode2
  by_cases hn : 1048576 < n
  · go_enter Try.func8, Try.ntmps8
    go_wp2
    go_ret
    exact ⟨rfl, Below.refl _ _⟩
  by_cases hn' : 1048576 < n'
  · go_enter Try.func8, Try.ntmps8
    go_wp2
    go_ret
    exact ⟨rfl, Below.refl _ _⟩
  · go_enter Try.func8, Try.ntmps8
    go_wp2_with fail
    refine (dTurnExpr_any w n c A _ (unhide HC) (Nat.le_refl _) hnc (by omega)).mono ?_
    rintro r w1 ⟨e, A1, n1, c1, rfl, hl, hsl, hb1⟩
    have HLN := Lib.hid hsl.1.1
    have F_e := hide hsl
    clear hsl
    go_wp2_with fail
    refine (implTurn_all _ _ _ _ _ (unhide F_e).1 (by omega) (unhide F_e).2.1 (unhide F_e).2.2.1).mono ?_
    rintro r w11 ⟨x, hx_x, hd11⟩
    have hl_x := FlatR.len5 turn_szle hx_x
    obtain ⟨A11, c11, rfl, hsl11, -, hb11⟩ := hd11.sl (by omega)
    have e_11 := hide ((unhide F_e).up hb11)
    have hbb11 := hb1.trans (hb11.mono hb1.size)
    have F_x := hide hsl11
    have R_x := Lib.hid hx_x
    clear hsl11 hd11 hx_x
    go_wp2_with fail
    refine (specTurn_all _ _ _ _ _ (unhide e_11).1 (by omega) (unhide e_11).2.1 (unhide e_11).2.2.1).mono ?_
    rintro r w12 ⟨y, hx_y, hd12⟩
    have hl_y := FlatR.len5 turn_szle hx_y
    obtain ⟨A12, c12, rfl, hsl12, -, hb12⟩ := hd12.sl (by omega)
    have e_12 := hide ((unhide e_11).up hb12)
    have x_12 := hide ((unhide F_x).up hb12)
    have hbb12 := hbb11.trans (hb12.mono hbb11.size)
    have F_y := hide hsl12
    have R_y := Lib.hid hx_y
    clear hsl12 hd12 hx_y
    obtain rfl := FlatR.uniq R_y.out R_x.out
    go_wp2_with fail
    refine (sameParts_any _ _ _ _ _ _ _ _ _ (unhide x_12).1 (unhide F_y).1 (by omega) (by omega)).mono ?_
    rintro r w13 ⟨rfl, hb13⟩
    rw [show decide (y = y) = true by simp]
    have e_13 := hide ((unhide e_12).up hb13)
    have x_13 := hide ((unhide x_12).up hb13)
    have y_13 := hide ((unhide F_y).up hb13)
    have hbb13 := hbb12.trans (hb13.mono hbb12.size)
    go_wp2_with fail
    refine (specExprValid_any _ _ _ _ _ (unhide e_13).1 (by omega)).mono ?_
    rintro r w14 ⟨rfl, hb14⟩
    have e_14 := hide ((unhide e_13).up hb14)
    have x_14 := hide ((unhide x_13).up hb14)
    have hbb14 := hbb13.trans (hb14.mono hbb13.size)
    rcases hv : exprB e
    · obtain rfl : y = [] := FlatR.bad5 hv R_y.out
      go_wp2_with fail
      refine (alive_any _).mono ?_
      rintro r w99 ⟨rfl, rfl⟩
      go_wp2
      go_ret
      exact ⟨rfl, hbb14⟩
    obtain ⟨t, hg, hfe, hs60⟩ := exprB_iff.1 hv
    have hsz : t.sz ≤ 16 := by have h1 := HLN.out; rw [← hfe, Ex.flat_length] at h1; omega
    have hn16 : n1 ≤ 16 := by have h1 := HLN.out; rw [← hfe, Ex.flat_length] at h1; omega
    have TJ_e : Opq (t.flat = e) := ⟨hfe⟩
    clear hfe hs60 hv
    have TJ_x := FlatR.at5 TJ_e hg (by omega) R_y.out
    have hgt := Ex.turn_good hg
    have hszt : t.turn.sz ≤ 60 := by have := Ex.turn_sz t; omega
    have hvx := valid_of TJ_x hgt hszt
    go_wp2_with fail
    refine (dWordRank_any _ n' c' A' w.heap.size ((unhide HC2).keep fun b o h => hbb14.cell (p := ⟨b, o, none⟩) h) hbb14.size hnc2 (by omega)).mono ?_
    rintro r w15 ⟨s, rfl, hs9, hb15⟩
    have e_15 := hide ((unhide e_14).up hb15)
    have x_15 := hide ((unhide x_14).up hb15)
    have hbb15 := hbb14.trans (hb15.mono hbb14.size)
    go_wp2_with fail
    refine (implExprValid_any _ _ _ _ _ (unhide x_15).1).mono ?_
    rintro r w16 ⟨rfl, hb16⟩
    rw [hvx]
    have e_16 := hide ((unhide e_15).up hb16)
    have x_16 := hide ((unhide x_15).up hb16)
    have hbb16 := hbb15.trans (hb16.mono hbb15.size)
    go_wp2_with fail
    refine (implTurn_all _ _ _ _ _ (unhide x_16).1 (by omega) (unhide x_16).2.1 (unhide x_16).2.2.1).mono ?_
    rintro r w17 ⟨z, hx_z, hd17⟩
    have hl_z := FlatR.len5 turn_szle hx_z
    obtain ⟨A17, c17, rfl, hsl17, -, hb17⟩ := hd17.sl (by omega)
    have e_17 := hide ((unhide e_16).up hb17)
    have x_17 := hide ((unhide x_16).up hb17)
    have hbb17 := hbb16.trans (hb17.mono hbb16.size)
    have F_z := hide hsl17
    have R_z := Lib.hid hx_z
    clear hsl17 hd17 hx_z
    have TJ_z := FlatR.at5 TJ_x hgt hszt R_z.out
    obtain rfl : z = e := by rw [← TJ_z.out, ← TJ_e.out, Ex.turn_turn]
    go_wp2_with fail
    refine (sameParts_any _ _ _ _ _ _ _ _ _ (unhide F_z).1 (unhide e_17).1 (by omega) (by omega)).mono ?_
    rintro r w18 ⟨rfl, hb18⟩
    rw [show decide (z = z) = true by simp]
    have e_18 := hide ((unhide e_17).up hb18)
    have x_18 := hide ((unhide x_17).up hb18)
    have z_18 := hide ((unhide F_z).up hb18)
    have e2_18 := hide ((unhide e_17).up hb18)
    have hbb18 := hbb17.trans (hb18.mono hbb17.size)
    rcases hws : wordB s.data.toList
    · go_wp2_with (go_at_call 34; refine (specWordValid_any s _ (by unfold maxLen; omega)).mono ?_; rintro r w98 ⟨rfl, rfl⟩; rw [hws])
      go_ret
      exact ⟨rfl, hbb18⟩
    obtain ⟨X, hX⟩ : ∃ X : ByteArray, (⟨(turnL s.data.toList).toArray⟩ : ByteArray) = X := ⟨_, rfl⟩
    have HX := Lib.hid (show X.data.toList = s.data.toList.reverse by rw [← hX]; simp [turnL, hws])
    have hXs : X.size ≤ 9 := by have h1 := congrArg List.length HX.out; simp at h1; omega
    go_wp2_with (first | (go_at_call 34; refine (specWordValid_any s _ (by unfold maxLen; omega)).mono ?_; rintro r w98 ⟨rfl, rfl⟩; rw [hws]) | (go_at_call 41; refine (implTurnWord_any s _ (by unfold maxLen; omega)).mono ?_; rintro r w97 ⟨rfl, rfl⟩; rw [hX]))
    refine (implExprAccepts_any _ _ _ _ _ X (unhide x_18).1 (by unfold maxLen; omega)).mono ?_
    rintro r w20 ⟨b1, rfl, hE_b1, hb20⟩
    have e_20 := hide ((unhide e_18).up hb20)
    have x_20 := hide ((unhide x_18).up hb20)
    have z_20 := hide ((unhide z_18).up hb20)
    have e2_20 := hide ((unhide e2_18).up hb20)
    have hbb20 := hbb18.trans (hb20.mono hbb18.size)
    go_wp2_with fail
    refine (implExprAccepts_any _ _ _ _ _ s (unhide e2_20).1 (by unfold maxLen; omega)).mono ?_
    rintro r w21 ⟨b2, rfl, hE_b2, hb21⟩
    have e_21 := hide ((unhide e_20).up hb21)
    have x_21 := hide ((unhide x_20).up hb21)
    have z_21 := hide ((unhide z_20).up hb21)
    have e2_21 := hide ((unhide e2_20).up hb21)
    have hbb21 := hbb20.trans (hb21.mono hbb20.size)
    obtain rfl : b1 = b2 := by
      have h1 := eacc_tree TJ_x hgt hszt hE_b1
      have h2 := eacc_tree TJ_e hg (by omega) hE_b2
      rw [HX.out, Ex.acc_turn hg, wordB_rev] at h1
      rw [h1, h2]
    have heq : (b1 == b1) = true := by simp
    go_wp2
    go_ret
    exact ⟨rfl, hbb21⟩
set_option maxHeartbeats 4000000 in
theorem wFnTurnSimplify (A : Option Addr) (n c : Nat) (A' : Option Addr) (n' c' : Nat) (w : World) (hw : BytesIn w A n c) (hw2 : BytesIn w A' n' c') : Calls Try.prog 13 #[.slice A n c, .slice A' n' c'] w (Yes w) := by
  obtain ⟨hnc, hcm, hcode⟩ := hw
  obtain ⟨hnc2, hcm2, hcode2⟩ := hw2
  unfold maxLen at hcm hcm2
  have HC := hide hcode
  have HC2 := hide hcode2
  clear hcode hcode2
  by_cases hn : 1048576 < n
  · go_enter Try.func13, Try.ntmps13
    go_wp2
    go_ret
    exact ⟨rfl, Below.refl _ _⟩
  by_cases hn' : 1048576 < n'
  · go_enter Try.func13, Try.ntmps13
    go_wp2
    go_ret
    exact ⟨rfl, Below.refl _ _⟩
  · go_enter Try.func13, Try.ntmps13
    go_wp2_with fail
    refine (dTurnExpr_any w n c A _ (unhide HC) (Nat.le_refl _) hnc (by omega)).mono ?_
    rintro r w1 ⟨e, A1, n1, c1, rfl, hl, hsl, hb1⟩
    have HLN := Lib.hid hsl.1.1
    have F_e := hide hsl
    clear hsl
    go_wp2_with fail
    refine (implTurn_all _ _ _ _ _ (unhide F_e).1 (by omega) (unhide F_e).2.1 (unhide F_e).2.2.1).mono ?_
    rintro r w11 ⟨x, hx_x, hd11⟩
    have hl_x := FlatR.len5 turn_szle hx_x
    obtain ⟨A11, c11, rfl, hsl11, -, hb11⟩ := hd11.sl (by omega)
    have e_11 := hide ((unhide F_e).up hb11)
    have hbb11 := hb1.trans (hb11.mono hb1.size)
    have F_x := hide hsl11
    have R_x := Lib.hid hx_x
    clear hsl11 hd11 hx_x
    go_wp2_with fail
    refine (specTurn_all _ _ _ _ _ (unhide e_11).1 (by omega) (unhide e_11).2.1 (unhide e_11).2.2.1).mono ?_
    rintro r w12 ⟨y, hx_y, hd12⟩
    have hl_y := FlatR.len5 turn_szle hx_y
    obtain ⟨A12, c12, rfl, hsl12, -, hb12⟩ := hd12.sl (by omega)
    have e_12 := hide ((unhide e_11).up hb12)
    have x_12 := hide ((unhide F_x).up hb12)
    have hbb12 := hbb11.trans (hb12.mono hbb11.size)
    have F_y := hide hsl12
    have R_y := Lib.hid hx_y
    clear hsl12 hd12 hx_y
    obtain rfl := FlatR.uniq R_y.out R_x.out
    go_wp2_with fail
    refine (sameParts_any _ _ _ _ _ _ _ _ _ (unhide x_12).1 (unhide F_y).1 (by omega) (by omega)).mono ?_
    rintro r w13 ⟨rfl, hb13⟩
    rw [show decide (y = y) = true by simp]
    have e_13 := hide ((unhide e_12).up hb13)
    have x_13 := hide ((unhide x_12).up hb13)
    have y_13 := hide ((unhide F_y).up hb13)
    have hbb13 := hbb12.trans (hb13.mono hbb12.size)
    go_wp2_with fail
    refine (specExprValid_any _ _ _ _ _ (unhide e_13).1 (by omega)).mono ?_
    rintro r w14 ⟨rfl, hb14⟩
    have e_14 := hide ((unhide e_13).up hb14)
    have x_14 := hide ((unhide x_13).up hb14)
    have hbb14 := hbb13.trans (hb14.mono hbb13.size)
    rcases hv : exprB e
    · go_wp2_with fail
      refine (alive_any _).mono ?_
      rintro r w99 ⟨rfl, rfl⟩
      go_wp2
      go_ret
      exact ⟨rfl, hbb14⟩
    obtain ⟨t, hg, hfe, hs60⟩ := exprB_iff.1 hv
    have hsz : t.sz ≤ 16 := by have h1 := HLN.out; rw [← hfe, Ex.flat_length] at h1; omega
    have hn16 : n1 ≤ 16 := by have h1 := HLN.out; rw [← hfe, Ex.flat_length] at h1; omega
    have TJ_e : Opq (t.flat = e) := ⟨hfe⟩
    clear hfe hs60 hv
    have TJ_x := FlatR.at5 TJ_e hg (by omega) R_y.out
    have hgt := Ex.turn_good hg
    have hgs := Ex.simp_good hg
    have hszt : t.turn.sz ≤ 60 := by have := Ex.turn_sz t; omega
    have hszs : t.simp.sz ≤ 60 := by have := Ex.simp_sz t; omega
    have hszst : t.simp.turn.sz ≤ 60 := by have := Ex.turn_sz t.simp; omega
    have hszts : t.turn.simp.sz ≤ 60 := by have := Ex.simp_sz t.turn; omega
    go_wp2_with fail
    refine (dWordRank_any _ n' c' A' w.heap.size ((unhide HC2).keep fun b o h => hbb14.cell (p := ⟨b, o, none⟩) h) hbb14.size hnc2 (by omega)).mono ?_
    rintro r w15 ⟨s, rfl, hs9, hb15⟩
    have e_15 := hide ((unhide e_14).up hb15)
    have x_15 := hide ((unhide x_14).up hb15)
    have hbb15 := hbb14.trans (hb15.mono hbb14.size)
    go_wp2_with fail
    refine (implSimp_all _ _ _ _ _ (unhide e_15).1 (by omega) (unhide e_15).2.1 (unhide e_15).2.2.1).mono ?_
    rintro r w16 ⟨z1, hx_z1, hd16⟩
    have hl_z1 := FlatR.len5 Ex.simp_sz hx_z1
    obtain ⟨A16, c16, rfl, hsl16, -, hb16⟩ := hd16.sl (by omega)
    have e_16 := hide ((unhide e_15).up hb16)
    have x_16 := hide ((unhide x_15).up hb16)
    have hbb16 := hbb15.trans (hb16.mono hbb15.size)
    have F_z1 := hide hsl16
    have R_z1 := Lib.hid hx_z1
    clear hsl16 hd16 hx_z1
    have TJ_z1 := FlatR.at5 TJ_e hg (by omega) R_z1.out
    go_wp2_with fail
    refine (implTurn_all _ _ _ _ _ (unhide F_z1).1 (by omega) (unhide F_z1).2.1 (unhide F_z1).2.2.1).mono ?_
    rintro r w17 ⟨z2, hx_z2, hd17⟩
    have hl_z2 := FlatR.len5 turn_szle hx_z2
    obtain ⟨A17, c17, rfl, hsl17, -, hb17⟩ := hd17.sl (by omega)
    have e_17 := hide ((unhide e_16).up hb17)
    have x_17 := hide ((unhide x_16).up hb17)
    have z1_17 := hide ((unhide F_z1).up hb17)
    have hbb17 := hbb16.trans (hb17.mono hbb16.size)
    have F_z2 := hide hsl17
    have R_z2 := Lib.hid hx_z2
    clear hsl17 hd17 hx_z2
    have TJ_z2 := FlatR.at5 TJ_z1 hgs hszs R_z2.out
    go_wp2_with fail
    refine (implExprAccepts_any _ _ _ _ _ s (unhide F_z2).1 (by unfold maxLen; omega)).mono ?_
    rintro r w18 ⟨b1, rfl, hE_b1, hb18⟩
    have e_18 := hide ((unhide e_17).up hb18)
    have x_18 := hide ((unhide x_17).up hb18)
    have z1_18 := hide ((unhide z1_17).up hb18)
    have z2_18 := hide ((unhide F_z2).up hb18)
    have hbb18 := hbb17.trans (hb18.mono hbb17.size)
    go_wp2_with fail
    refine (implSimp_all _ _ _ _ _ (unhide x_18).1 (by omega) (unhide x_18).2.1 (unhide x_18).2.2.1).mono ?_
    rintro r w19 ⟨z3, hx_z3, hd19⟩
    have hl_z3 := FlatR.len5 Ex.simp_sz hx_z3
    obtain ⟨A19, c19, rfl, hsl19, -, hb19⟩ := hd19.sl (by omega)
    have e_19 := hide ((unhide e_18).up hb19)
    have x_19 := hide ((unhide x_18).up hb19)
    have z1_19 := hide ((unhide z1_18).up hb19)
    have z2_19 := hide ((unhide z2_18).up hb19)
    have hbb19 := hbb18.trans (hb19.mono hbb18.size)
    have F_z3 := hide hsl19
    have R_z3 := Lib.hid hx_z3
    clear hsl19 hd19 hx_z3
    have TJ_z3 := FlatR.at5 TJ_x hgt hszt R_z3.out
    go_wp2_with fail
    refine (implExprAccepts_any _ _ _ _ _ s (unhide F_z3).1 (by unfold maxLen; omega)).mono ?_
    rintro r w20 ⟨b2, rfl, hE_b2, hb20⟩
    have e_20 := hide ((unhide e_19).up hb20)
    have x_20 := hide ((unhide x_19).up hb20)
    have z1_20 := hide ((unhide z1_19).up hb20)
    have z2_20 := hide ((unhide z2_19).up hb20)
    have z3_20 := hide ((unhide F_z3).up hb20)
    have hbb20 := hbb19.trans (hb20.mono hbb19.size)
    obtain rfl : b1 = b2 := eacc_eq hE_b1 hE_b2 TJ_z2 TJ_z3 (Ex.turn_good hgs) (Ex.simp_good hgt) hszst hszts (Ex.acc_ts hg _)
    have heq : (b1 == b1) = true := by simp
    go_wp2
    go_ret
    exact ⟨rfl, hbb20⟩
end Go.Proofs.Ytadibjjjdbglaaa

