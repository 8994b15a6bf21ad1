/-
  The walks of the laws on languages of turned and simplified expressions.
-/
import Derived.Test.YtadibjjjdbglaaaDrawL
import Derived.Test.YtadibjjjdbglaaaEacc
import Derived.Test.YtadibjjjdbglaaaSimpS2
import Derived.Test.YtadibjjjdbglaaaTurn3
import Derived.Test.YtadibjjjdbglaaaWords2
import Derived.Test.YtadibjjjdbglaaaCount
import Derived.Test.YtadibjjjdbglaaaLawsS5
namespace Go.Proofs.Ytadibjjjdbglaaa
open Go.RowKit
set_option linter.unusedVariables false
set_option maxRecDepth 100000

theorem SimB.simp {t : Ex} {x : List Pt} {b : Bool} (hx : Opq (t.simp.flat = x)) (hg : t.good) (hs : t.sz ≤ 60) (h : SimB x b) : b = true := by
  have hgs := Ex.simp_good hg
  have hss : t.simp.sz ≤ 60 := by have := Ex.simp_sz t; omega
  have h2 : SimB x (decide (t.simp.simp.flat = t.simp.flat)) := .inr ⟨t.simp, hgs, hx.out, hss, rfl⟩
  rw [SimB.uniq h h2, Ex.simp_simp hg]; simp
set_option maxHeartbeats 4000000 in
theorem wFnSimplifyExpr (A : Option Addr) (n c : Nat) (A' : Option Addr) (n' c' : Nat) (w : World) (hw : BytesIn w A n c) (hw2 : BytesIn w A' n' c') : Calls Try.prog 3 #[.slice A n c, .slice A' n' c'] w (Yes w) := by
  obtain ⟨hnc, hcm, hcode⟩ := hw
  obtain ⟨hnc2, hcm2, hcode2⟩ := hw2
  unfold maxLen at hcm hcm2
  have HC := hide hcode
  have HC2 := hide hcode2
  clear hcode hcode2
  by_cases hn : 1048576 < n
  · go_enter Try.func3, Try.ntmps3
    go_wp2
    go_ret
    exact ⟨rfl, Below.refl _ _⟩
  by_cases hn' : 1048576 < n'
  · go_enter Try.func3, Try.ntmps3
    go_wp2
    go_ret
    exact ⟨rfl, Below.refl _ _⟩
  · go_enter Try.func3, Try.ntmps3
    go_wp2_with fail
    refine (dSimplifyExpr_any w n c A _ (unhide HC) (Nat.le_refl _) hnc (by omega)).mono ?_
    rintro r w1 ⟨e, A1, n1, c1, rfl, hl, hsl, hb1⟩
    have HLN := Lib.hid hsl.1.1
    have F_e := hide hsl
    clear hsl
    go_wp2_with fail
    refine (implSimp_all _ _ _ _ _ (unhide F_e).1 (by omega) (unhide F_e).2.1 (unhide F_e).2.2.1).mono ?_
    rintro r w11 ⟨x, hx_x, hd11⟩
    have hl_x := FlatR.len5 Ex.simp_sz hx_x
    obtain ⟨A11, c11, rfl, hsl11, -, hb11⟩ := hd11.sl (by omega)
    have e_11 := hide ((unhide F_e).up hb11)
    have hbb11 := hb1.trans (hb11.mono hb1.size)
    have F_x := hide hsl11
    have R_x := Lib.hid hx_x
    clear hsl11 hd11 hx_x
    go_wp2_with fail
    refine (specSimp_all _ _ _ _ _ (unhide e_11).1 (by omega) (unhide e_11).2.1 (unhide e_11).2.2.1).mono ?_
    rintro r w12 ⟨y, hx_y, hd12⟩
    have hl_y := FlatR.len5 Ex.simp_sz hx_y
    obtain ⟨A12, c12, rfl, hsl12, -, hb12⟩ := hd12.sl (by omega)
    have e_12 := hide ((unhide e_11).up hb12)
    have x_12 := hide ((unhide F_x).up hb12)
    have hbb12 := hbb11.trans (hb12.mono hbb11.size)
    have F_y := hide hsl12
    have R_y := Lib.hid hx_y
    clear hsl12 hd12 hx_y
    obtain rfl := FlatR.uniq R_y.out R_x.out
    go_wp2_with fail
    refine (sameParts_any _ _ _ _ _ _ _ _ _ (unhide x_12).1 (unhide F_y).1 (by omega) (by omega)).mono ?_
    rintro r w13 ⟨rfl, hb13⟩
    rw [show decide (y = y) = true by simp]
    have e_13 := hide ((unhide e_12).up hb13)
    have x_13 := hide ((unhide x_12).up hb13)
    have y_13 := hide ((unhide F_y).up hb13)
    have hbb13 := hbb12.trans (hb13.mono hbb12.size)
    go_wp2_with fail
    refine (specExprValid_any _ _ _ _ _ (unhide e_13).1 (by omega)).mono ?_
    rintro r w14 ⟨rfl, hb14⟩
    have e_14 := hide ((unhide e_13).up hb14)
    have x_14 := hide ((unhide x_13).up hb14)
    have hbb14 := hbb13.trans (hb14.mono hbb13.size)
    rcases hv : exprB e
    · obtain rfl : y = [] := FlatR.bad5 hv R_y.out
      go_wp2_with fail
      refine (alive_any _).mono ?_
      rintro r w99 ⟨rfl, rfl⟩
      go_wp2
      go_ret
      exact ⟨rfl, hbb14⟩
    obtain ⟨t, hg, hfe, hs60⟩ := exprB_iff.1 hv
    have hsz : t.sz ≤ 16 := by have h1 := HLN.out; rw [← hfe, Ex.flat_length] at h1; omega
    have hn16 : n1 ≤ 16 := by have h1 := HLN.out; rw [← hfe, Ex.flat_length] at h1; omega
    have TJ_e : Opq (t.flat = e) := ⟨hfe⟩
    clear hfe hs60 hv
    have TJ_x := FlatR.at5 TJ_e hg (by omega) R_y.out
    have hgs := Ex.simp_good hg
    have hszs : t.simp.sz ≤ 60 := by have := Ex.simp_sz t; omega
    have hvx := valid_of TJ_x hgs hszs
    have hlen : ((y.length : Nat) : Int) ≤ (n1 : Int) := by
      have h1 := HLN.out
      rw [← TJ_e.out, Ex.flat_length] at h1
      have h2 : y.length = t.simp.sz := by rw [← TJ_x.out, Ex.flat_length]
      have := Ex.simp_sz t
      omega
    go_wp2_with fail
    refine (dWordRank_any _ n' c' A' w.heap.size ((unhide HC2).keep fun b o h => hbb14.cell (p := ⟨b, o, none⟩) h) hbb14.size hnc2 (by omega)).mono ?_
    rintro r w15 ⟨s, rfl, hs9, hb15⟩
    have e_15 := hide ((unhide e_14).up hb15)
    have x_15 := hide ((unhide x_14).up hb15)
    have hbb15 := hbb14.trans (hb15.mono hbb14.size)
    go_wp2_with fail
    refine (implExprValid_any _ _ _ _ _ (unhide x_15).1).mono ?_
    rintro r w16 ⟨rfl, hb16⟩
    rw [hvx]
    have e_16 := hide ((unhide e_15).up hb16)
    have x_16 := hide ((unhide x_15).up hb16)
    have hbb16 := hbb15.trans (hb16.mono hbb15.size)
    go_wp2_with fail
    refine (implExprAccepts_any _ _ _ _ _ s (unhide x_16).1 (by unfold maxLen; omega)).mono ?_
    rintro r w17 ⟨b1, rfl, hE_b1, hb17⟩
    have e_17 := hide ((unhide e_16).up hb17)
    have x_17 := hide ((unhide x_16).up hb17)
    have hbb17 := hbb16.trans (hb17.mono hbb16.size)
    go_wp2_with fail
    refine (implExprAccepts_any _ _ _ _ _ s (unhide e_17).1 (by unfold maxLen; omega)).mono ?_
    rintro r w18 ⟨b2, rfl, hE_b2, hb18⟩
    have e_18 := hide ((unhide e_17).up hb18)
    have x_18 := hide ((unhide x_17).up hb18)
    have hbb18 := hbb17.trans (hb18.mono hbb17.size)
    obtain rfl : b1 = b2 := eacc_eq hE_b1 hE_b2 TJ_x TJ_e hgs hg hszs (by omega) (Ex.acc_simp hg _)
    have heq : (b1 == b1) = true := by simp
    go_wp2_with fail
    refine (implCount_any _ _ _ _ _ 2 (unhide x_18).1).mono ?_
    rintro r w19 ⟨d1, rfl, hC_d1, hb19⟩
    have e_19 := hide ((unhide e_18).up hb19)
    have x_19 := hide ((unhide x_18).up hb19)
    have hbb19 := hbb18.trans (hb19.mono hbb18.size)
    go_wp2_with fail
    refine (implCount_any _ _ _ _ _ 2 (unhide e_19).1).mono ?_
    rintro r w20 ⟨d2, rfl, hC_d2, hb20⟩
    have e_20 := hide ((unhide e_19).up hb20)
    have x_20 := hide ((unhide x_19).up hb20)
    have hbb20 := hbb19.trans (hb20.mono hbb19.size)
    obtain rfl : d1 = d2 := by
      rw [CountR.tree TJ_x.out hgs hszs (by decide) hC_d1, CountR.tree TJ_e.out hg (by omega) (by decide) hC_d2]
      exact cnt_congr (fun s => Ex.acc_simp hg s) _ _
    have hdq : (d1 == d1) = true := by simp
    go_wp2_with fail
    refine (implIsSimple_all _ _ _ _ _ (unhide x_20).1 (by omega) (unhide x_20).2.1 (unhide x_20).2.2.1).mono ?_
    rintro r w21 ⟨bs, rfl, hsb, hb21⟩
    obtain rfl : bs = true := SimB.simp TJ_x hg (by omega) hsb
    have e_21 := hide ((unhide e_20).up hb21)
    have x_21 := hide ((unhide x_20).up hb21)
    have hbb21 := hbb20.trans (hb21.mono hbb20.size)
    go_wp2
    go_ret
    exact ⟨rfl, hbb21⟩
end Go.Proofs.Ytadibjjjdbglaaa

