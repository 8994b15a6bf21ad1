/-
  The walks of the laws on drawn simplified expressions.
-/
import Derived.Test.YtadibjjjdbglaaaDrawL
import Derived.Test.YtadibjjjdbglaaaSimpS2
namespace Go.Proofs.Ytadibjjjdbglaaa
open Go.RowKit
set_option linter.unusedVariables false
set_option maxRecDepth 100000

theorem FlatR.at {f : Ex → Ex} {t : Ex} {x : List Pt} (hg : t.good) (hs : t.sz ≤ 60) (h : FlatR f t.flat x) : x = (f t).flat := FlatR.uniq h (.inr ⟨t, hg, rfl, hs, rfl⟩)
namespace Ex
theorem none1_simp (t : Ex) : (bin 4 none1 t).simp = none1 := by simp [simp, mk, sJoin, none1, isK]
theorem none2_simp (t : Ex) : (bin 4 t none1).simp = none1 := by simp [simp, mk, sJoin, none1, isK]
theorem emp_simp {t : Ex} (hg : t.good) : (bin 4 emp2 t).simp = t.simp := by
  have h : (bin 4 emp2 t).simp = sJoin emp2 t.simp := by simp [simp, mk, emp2]
  rw [h, sJoin]
  by_cases h1 : t.simp.isK 1 = true
  · rw [if_pos (.inr h1)]
    obtain ⟨l, hl⟩ := isK_leaf h1
    have hgs := simp_good hg
    rw [hl] at hgs ⊢
    have : l = 0 := by simp only [good] at hgs; omega
    rw [this]; rfl
  · have h2 : ¬ (emp2.isK 1 = true ∨ t.simp.isK 1 = true) := by rintro (h | h); exact absurd h (by decide); exact h1 h
    rw [if_neg h2, if_pos (by decide)]
theorem not_not_simp {t : Ex} (hg : t.good) : (un 7 (un 7 t)).simp = t.simp := by
  have h : (un 7 (un 7 t)).simp = sNot (sNot t.simp) := by simp [simp, mk1]
  have hs := simp_simp hg
  have hgs := simp_good hg
  rw [h]
  generalize t.simp = s at *
  by_cases h7 : s.kind = 7
  · obtain ⟨a, rfl⟩ := kind7 hgs h7
    have ha := simple_un hs
    have h2 : (un 7 a).simp = sNot a.simp := by simp [simp, mk1]
    rw [h2, ha] at hs
    have h3 : sNot (un 7 a) = a := by simp [sNot, kind, child]
    rw [h3, hs]
  · have h3 : sNot s = un 7 s := by rw [sNot, if_neg h7]
    rw [h3]
    simp [sNot, kind, child]
theorem star_star_simp (t : Ex) : (un 8 (un 8 t)).simp = (un 8 t).simp := by
  have h : (un 8 (un 8 t)).simp = sStar (sStar t.simp) := by simp [simp, mk1]
  have h' : (un 8 t).simp = sStar t.simp := by simp [simp, mk1]
  rw [h, h']
  generalize t.simp = s
  by_cases h1 : s.isK 1 = true ∨ s.isK 2 = true
  · have : sStar s = emp2 := by rw [sStar, if_pos h1]
    rw [this]; rfl
  · by_cases h8 : s.kind = 8
    · have : sStar s = s := by rw [sStar, if_neg h1, if_pos h8]
      rw [this, this]
    · have : sStar s = un 8 s := by rw [sStar, if_neg h1, if_neg h8]
      rw [this]
      simp [sStar, isK, kind]
end Ex
theorem SL.one {w : World} {B : Nat} {g : Nat} {k l : Int} (h : PS w B (some ⟨g, 0, none⟩) 1 [(k, l)]) : SL w B (some ⟨g, 0, none⟩) 1 1 [(k, l)] := ⟨h, Nat.le_refl _, by simp [maxLen], fun h => nomatch h⟩
theorem PS_two1 (W : World) (k l k2 l2 : Int) (t : TypeId) : PS ((W.alloc (.cells #[.int .i64 k, .int .i64 l] t)).alloc (.cells #[.int .i64 k2, .int .i64 l2] t)) ((W.alloc (.cells #[.int .i64 k, .int .i64 l] t)).alloc (.cells #[.int .i64 k2, .int .i64 l2] t)).heap.size (some ⟨W.heap.size, 0, none⟩) 1 [(k, l)] :=
  (PS.one W _ k l t (by rw [World.size_alloc]; exact Nat.lt_succ_self _) : PS (W.alloc _) (W.alloc _).heap.size _ _ _).upA _
theorem PS_two2 (W : World) (k l k2 l2 : Int) (t : TypeId) : PS ((W.alloc (.cells #[.int .i64 k, .int .i64 l] t)).alloc (.cells #[.int .i64 k2, .int .i64 l2] t)) ((W.alloc (.cells #[.int .i64 k, .int .i64 l] t)).alloc (.cells #[.int .i64 k2, .int .i64 l2] t)).heap.size (some ⟨W.heap.size + 1, 0, none⟩) 1 [(k2, l2)] := by
  have h := PS.one (W.alloc (.cells #[.int .i64 k, .int .i64 l] t)) ((W.alloc (.cells #[.int .i64 k, .int .i64 l] t)).alloc (.cells #[.int .i64 k2, .int .i64 l2] t)).heap.size k2 l2 t (by simp)
  have e : (W.alloc (.cells #[.int .i64 k, .int .i64 l] t)).heap.size = W.heap.size + 1 := World.size_alloc _ _
  simp only [e] at h
  exact h

set_option maxHeartbeats 4000000 in
theorem wFnSimplifyNone (A : Option Addr) (n c : Nat) (w : World) (hw : BytesIn w A n c) : Calls Try.prog 9 #[.slice A n c] w (Yes w) := by
  obtain ⟨hnc, hcm, hcode⟩ := hw
  unfold maxLen at hcm
  have HC := hide hcode
  clear hcode
  by_cases hn : 1048576 < n
  · go_enter Try.func9, Try.ntmps9
    go_wp2
    go_ret
    exact ⟨rfl, Below.refl _ _⟩
  · go_enter Try.func9, Try.ntmps9
    go_wp2_with fail
    refine (dSimplifyExpr_any w n c A _ (unhide HC) (Nat.le_refl _) hnc (by omega)).mono ?_
    rintro r w1 ⟨e, A1, n1, c1, rfl, hl, hsl, hb1⟩
    have HLN := Lib.hid hsl.1.1
    have HS := hide hsl
    clear hsl
    go_wp2_with fail
    refine (implSimp_all _ _ _ _ e (unhide HS).1 (by omega) (unhide HS).2.1 (unhide HS).2.2.1).mono ?_
    rintro r w2 ⟨x, hx2, hd2⟩
    have hl_x := simp_len hx2
    obtain ⟨A2, c2, rfl, hsl2, -, hb2⟩ := hd2.sl (by omega)
    have HS_2 := hide ((unhide HS).up hb2)
    have hbb2 := hb1.trans (hb2.mono hb1.size)
    have F_x := hide hsl2
    have R_x := Lib.hid hx2
    clear hx2 hsl2 hd2
    go_wp2_with fail
    refine (specSimp_all _ _ _ _ e (unhide HS_2).1 (by omega) (unhide HS_2).2.1 (unhide HS_2).2.2.1).mono ?_
    rintro r w3 ⟨y, hx3, hd3⟩
    have hl_y := simp_len hx3
    obtain ⟨A3, c3, rfl, hsl3, -, hb3⟩ := hd3.sl (by omega)
    have HS_3 := hide ((unhide HS_2).up hb3)
    have F_x_3 := hide ((unhide F_x).up hb3)
    have hbb3 := hbb2.trans (hb3.mono hbb2.size)
    have F_y := hide hsl3
    have R_y := Lib.hid hx3
    clear hx3 hsl3 hd3
    obtain rfl := FlatR.uniq R_x.out R_y.out
    go_wp2_with fail
    refine (sameParts_any _ _ _ _ _ _ _ x x (unhide F_x_3).1 (unhide F_y).1 (by first | omega | decide) (by first | omega | decide)).mono ?_
    rintro r w4 ⟨rfl, hb4⟩
    have hdd : decide (x = x) = true := by simp
    rw [hdd]
    clear hdd
    have HS_4 := hide ((unhide HS_3).up hb4)
    have F_x_4 := hide ((unhide F_x_3).up hb4)
    have F_y_4 := hide ((unhide F_y).up hb4)
    have hbb4 := hbb3.trans (hb4.mono hbb3.size)
    go_wp2_with fail
    refine (specExprValid_any _ _ _ _ e (unhide HS_4).1 (by omega)).mono ?_
    rintro r w5 ⟨rfl, hb5⟩
    have HS_5 := hide ((unhide HS_4).up hb5)
    have F_x_5 := hide ((unhide F_x_4).up hb5)
    have hbb5 := hbb4.trans (hb5.mono hbb4.size)
    rcases hv : exprB e
    · go_wp2_with fail
      refine (alive_any _).mono ?_
      rintro r w77 ⟨rfl, rfl⟩
      go_wp2
      go_ret
      exact ⟨rfl, hbb5⟩
    by_cases h58 : 58 < n1
    · go_wp2_with fail
      refine (alive_any _).mono ?_
      rintro r w77 ⟨rfl, rfl⟩
      go_wp2
      go_ret
      exact ⟨rfl, hbb5⟩
    obtain ⟨t, hg, rfl, hs⟩ := exprB_iff.1 hv
    have hsz : t.sz ≤ 58 := by have := HLN.out; rw [Ex.flat_length] at this; omega
    have HT := Lib.hid (show t.flat = t.flat from rfl)
    generalize hE : t.flat = e at *
    have HE := Lib.hid hE
    clear hE hs HT hv
    have hbA : Below w5.heap.size w5 ((w5.alloc (.cells #[.int .i64 1, .int .i64 0] 45)).alloc (.cells #[.int .i64 2, .int .i64 0] 45)) := ((Below.refl _ _).alloc (Nat.le_refl _) _).alloc (by simp) _
    have F_n := hide (SL.one (PS_two1 w5 1 0 2 0 45))
    have F_m := hide (SL.one (PS_two2 w5 1 0 2 0 45))
    have HS_A := hide ((unhide HS_5).up hbA)
    have F_x_A := hide ((unhide F_x_5).up hbA)
    have hbbA := hbb5.trans (hbA.mono hbb5.size)
    clear hbA
    go_wp2_with fail
    refine (two_any _ 4 _ _ _ _ _ _ [((1 : Int), (0 : Int))] e (unhide F_n) (unhide HS_A) (by first | omega | decide) (by first | omega | decide)).mono ?_
    intro r w6 hd6
    have hl_j : ([((1 : Int), (0 : Int))] ++ e ++ [((4 : Int), (0 : Int))]).length ≤ 70 := by simp [HLN.out]; omega
    obtain ⟨A6, c6, rfl, hsl6, -, hb6⟩ := hd6.sl (by omega)
    generalize hJ6 : [((1 : Int), (0 : Int))] ++ e ++ [((4 : Int), (0 : Int))] = j at *
    have E_j := Lib.hid hJ6
    have HS_6 := hide ((unhide HS_A).up hb6)
    have F_x_6 := hide ((unhide F_x_A).up hb6)
    have F_n_6 := hide ((unhide F_n).up hb6)
    have F_m_6 := hide ((unhide F_m).up hb6)
    have hbb6 := hbbA.trans (hb6.mono hbbA.size)
    have F_j := hide hsl6
    clear hd6 hsl6 hJ6
    go_wp2_with fail
    refine (implSimp_all _ _ _ _ j (unhide F_j).1 (by omega) (unhide F_j).2.1 (unhide F_j).2.2.1).mono ?_
    rintro r w7 ⟨zj, hx7, hd7⟩
    have hl_zj := simp_len hx7
    obtain ⟨A7, c7, rfl, hsl7, -, hb7⟩ := hd7.sl (by omega)
    have HS_7 := hide ((unhide HS_6).up hb7)
    have F_x_7 := hide ((unhide F_x_6).up hb7)
    have F_n_7 := hide ((unhide F_n_6).up hb7)
    have F_m_7 := hide ((unhide F_m_6).up hb7)
    have F_j_7 := hide ((unhide F_j).up hb7)
    have hbb7 := hbb6.trans (hb7.mono hbb6.size)
    have F_zj := hide hsl7
    have R_zj := Lib.hid hx7
    clear hx7 hsl7 hd7
    obtain rfl : zj = [((1 : Int), (0 : Int))] := by
      have h := R_zj.out
      rw [← E_j.out, ← HE.out] at h
      have h2 : FlatR Ex.simp (Ex.bin 4 Ex.none1 t).flat zj := h
      rw [FlatR.at (t := Ex.bin 4 Ex.none1 t) ⟨.inl rfl, Ex.good_none, hg⟩ (by simp only [Ex.sz, Ex.none1, Ex.emp2]; omega) h2]
      rw [Ex.none1_simp]; rfl
    go_wp2_with fail
    refine (sameParts_any _ _ _ _ _ _ _ [((1 : Int), (0 : Int))] [((1 : Int), (0 : Int))] (unhide F_zj).1 (unhide F_n_7).1 (by first | omega | decide) (by first | omega | decide)).mono ?_
    rintro r w8 ⟨rfl, hb8⟩
    have hdd : decide ([((1 : Int), (0 : Int))] = [((1 : Int), (0 : Int))]) = true := by simp
    rw [hdd]
    clear hdd
    have HS_8 := hide ((unhide HS_7).up hb8)
    have F_x_8 := hide ((unhide F_x_7).up hb8)
    have F_n_8 := hide ((unhide F_n_7).up hb8)
    have F_m_8 := hide ((unhide F_m_7).up hb8)
    have F_j_8 := hide ((unhide F_j_7).up hb8)
    have F_zj_8 := hide ((unhide F_zj).up hb8)
    have hbb8 := hbb7.trans (hb8.mono hbb7.size)
    go_wp2_with fail
    refine (two_any _ 4 _ _ _ _ _ _ e [((1 : Int), (0 : Int))] (unhide HS_8) (unhide F_n_8) (by first | omega | decide) (by first | omega | decide)).mono ?_
    intro r w9 hd9
    have hl_k : (e ++ [((1 : Int), (0 : Int))] ++ [((4 : Int), (0 : Int))]).length ≤ 70 := by simp [HLN.out]; omega
    obtain ⟨A9, c9, rfl, hsl9, -, hb9⟩ := hd9.sl (by omega)
    generalize hJ9 : e ++ [((1 : Int), (0 : Int))] ++ [((4 : Int), (0 : Int))] = k at *
    have E_k := Lib.hid hJ9
    have HS_9 := hide ((unhide HS_8).up hb9)
    have F_x_9 := hide ((unhide F_x_8).up hb9)
    have F_n_9 := hide ((unhide F_n_8).up hb9)
    have F_m_9 := hide ((unhide F_m_8).up hb9)
    have hbb9 := hbb8.trans (hb9.mono hbb8.size)
    have F_k := hide hsl9
    clear hd9 hsl9 hJ9
    go_wp2_with fail
    refine (implSimp_all _ _ _ _ k (unhide F_k).1 (by omega) (unhide F_k).2.1 (unhide F_k).2.2.1).mono ?_
    rintro r w10 ⟨zk, hx10, hd10⟩
    have hl_zk := simp_len hx10
    obtain ⟨A10, c10, rfl, hsl10, -, hb10⟩ := hd10.sl (by omega)
    have HS_10 := hide ((unhide HS_9).up hb10)
    have F_x_10 := hide ((unhide F_x_9).up hb10)
    have F_n_10 := hide ((unhide F_n_9).up hb10)
    have F_m_10 := hide ((unhide F_m_9).up hb10)
    have F_k_10 := hide ((unhide F_k).up hb10)
    have hbb10 := hbb9.trans (hb10.mono hbb9.size)
    have F_zk := hide hsl10
    have R_zk := Lib.hid hx10
    clear hx10 hsl10 hd10
    obtain rfl : zk = [((1 : Int), (0 : Int))] := by
      have h := R_zk.out
      rw [← E_k.out, ← HE.out] at h
      have h2 : FlatR Ex.simp (Ex.bin 4 t Ex.none1).flat zk := h
      rw [FlatR.at (t := Ex.bin 4 t Ex.none1) ⟨.inl rfl, hg, Ex.good_none⟩ (by simp only [Ex.sz, Ex.none1, Ex.emp2]; omega) h2]
      rw [Ex.none2_simp]; rfl
    go_wp2_with fail
    refine (sameParts_any _ _ _ _ _ _ _ [((1 : Int), (0 : Int))] [((1 : Int), (0 : Int))] (unhide F_zk).1 (unhide F_n_10).1 (by first | omega | decide) (by first | omega | decide)).mono ?_
    rintro r w11 ⟨rfl, hb11⟩
    have hdd : decide ([((1 : Int), (0 : Int))] = [((1 : Int), (0 : Int))]) = true := by simp
    rw [hdd]
    clear hdd
    have HS_11 := hide ((unhide HS_10).up hb11)
    have F_x_11 := hide ((unhide F_x_10).up hb11)
    have F_n_11 := hide ((unhide F_n_10).up hb11)
    have F_m_11 := hide ((unhide F_m_10).up hb11)
    have F_k_11 := hide ((unhide F_k_10).up hb11)
    have F_zk_11 := hide ((unhide F_zk).up hb11)
    have hbb11 := hbb10.trans (hb11.mono hbb10.size)
    go_wp2_with fail
    refine (two_any _ 4 _ _ _ _ _ _ [((2 : Int), (0 : Int))] e (unhide F_m_11) (unhide HS_11) (by first | omega | decide) (by first | omega | decide)).mono ?_
    intro r w12 hd12
    have hl_l : ([((2 : Int), (0 : Int))] ++ e ++ [((4 : Int), (0 : Int))]).length ≤ 70 := by simp [HLN.out]; omega
    obtain ⟨A12, c12, rfl, hsl12, -, hb12⟩ := hd12.sl (by omega)
    generalize hJ12 : [((2 : Int), (0 : Int))] ++ e ++ [((4 : Int), (0 : Int))] = l at *
    have E_l := Lib.hid hJ12
    have HS_12 := hide ((unhide HS_11).up hb12)
    have F_x_12 := hide ((unhide F_x_11).up hb12)
    have F_m_12 := hide ((unhide F_m_11).up hb12)
    have hbb12 := hbb11.trans (hb12.mono hbb11.size)
    have F_l := hide hsl12
    clear hd12 hsl12 hJ12
    go_wp2_with fail
    refine (implSimp_all _ _ _ _ l (unhide F_l).1 (by omega) (unhide F_l).2.1 (unhide F_l).2.2.1).mono ?_
    rintro r w13 ⟨zl, hx13, hd13⟩
    have hl_zl := simp_len hx13
    obtain ⟨A13, c13, rfl, hsl13, -, hb13⟩ := hd13.sl (by omega)
    have HS_13 := hide ((unhide HS_12).up hb13)
    have F_x_13 := hide ((unhide F_x_12).up hb13)
    have F_m_13 := hide ((unhide F_m_12).up hb13)
    have F_l_13 := hide ((unhide F_l).up hb13)
    have hbb13 := hbb12.trans (hb13.mono hbb12.size)
    have F_zl := hide hsl13
    have R_zl := Lib.hid hx13
    clear hx13 hsl13 hd13
    obtain rfl : zl = x := by
      have h := R_zl.out
      rw [← E_l.out, ← HE.out] at h
      have h2 : FlatR Ex.simp (Ex.bin 4 Ex.emp2 t).flat zl := h
      rw [FlatR.at (t := Ex.bin 4 Ex.emp2 t) ⟨.inl rfl, Ex.good_emp, hg⟩ (by simp only [Ex.sz, Ex.none1, Ex.emp2]; omega) h2]
      rw [Ex.emp_simp hg]; have hx := R_x.out
      rw [← HE.out] at hx
      rw [FlatR.at hg (by omega) hx]
    go_wp2_with fail
    refine (sameParts_any _ _ _ _ _ _ _ zl zl (unhide F_zl).1 (unhide F_x_13).1 (by first | omega | decide) (by first | omega | decide)).mono ?_
    rintro r w14 ⟨rfl, hb14⟩
    have hdd : decide (zl = zl) = true := by simp
    rw [hdd]
    clear hdd
    have HS_14 := hide ((unhide HS_13).up hb14)
    have F_x_14 := hide ((unhide F_x_13).up hb14)
    have F_m_14 := hide ((unhide F_m_13).up hb14)
    have F_l_14 := hide ((unhide F_l_13).up hb14)
    have F_zl_14 := hide ((unhide F_zl).up hb14)
    have hbb14 := hbb13.trans (hb14.mono hbb13.size)
    go_wp2
    go_ret
    exact ⟨rfl, hbb14⟩

set_option maxHeartbeats 4000000 in
theorem wFnSimplifyNot (A : Option Addr) (n c : Nat) (w : World) (hw : BytesIn w A n c) : Calls Try.prog 10 #[.slice A n c] w (Yes w) := by
  obtain ⟨hnc, hcm, hcode⟩ := hw
  unfold maxLen at hcm
  have HC := hide hcode
  clear hcode
  by_cases hn : 1048576 < n
  · go_enter Try.func10, Try.ntmps10
    go_wp2
    go_ret
    exact ⟨rfl, Below.refl _ _⟩
  · go_enter Try.func10, Try.ntmps10
    go_wp2_with fail
    refine (dSimplifyExpr_any w n c A _ (unhide HC) (Nat.le_refl _) hnc (by omega)).mono ?_
    rintro r w1 ⟨e, A1, n1, c1, rfl, hl, hsl, hb1⟩
    have HLN := Lib.hid hsl.1.1
    have HS := hide hsl
    clear hsl
    go_wp2_with fail
    refine (implSimp_all _ _ _ _ e (unhide HS).1 (by omega) (unhide HS).2.1 (unhide HS).2.2.1).mono ?_
    rintro r w2 ⟨x, hx2, hd2⟩
    have hl_x := simp_len hx2
    obtain ⟨A2, c2, rfl, hsl2, -, hb2⟩ := hd2.sl (by omega)
    have HS_2 := hide ((unhide HS).up hb2)
    have hbb2 := hb1.trans (hb2.mono hb1.size)
    have F_x := hide hsl2
    have R_x := Lib.hid hx2
    clear hx2 hsl2 hd2
    go_wp2_with fail
    refine (specSimp_all _ _ _ _ e (unhide HS_2).1 (by omega) (unhide HS_2).2.1 (unhide HS_2).2.2.1).mono ?_
    rintro r w3 ⟨y, hx3, hd3⟩
    have hl_y := simp_len hx3
    obtain ⟨A3, c3, rfl, hsl3, -, hb3⟩ := hd3.sl (by omega)
    have HS_3 := hide ((unhide HS_2).up hb3)
    have F_x_3 := hide ((unhide F_x).up hb3)
    have hbb3 := hbb2.trans (hb3.mono hbb2.size)
    have F_y := hide hsl3
    have R_y := Lib.hid hx3
    clear hx3 hsl3 hd3
    obtain rfl := FlatR.uniq R_x.out R_y.out
    go_wp2_with fail
    refine (sameParts_any _ _ _ _ _ _ _ x x (unhide F_x_3).1 (unhide F_y).1 (by first | omega | decide) (by first | omega | decide)).mono ?_
    rintro r w4 ⟨rfl, hb4⟩
    have hdd : decide (x = x) = true := by simp
    rw [hdd]
    clear hdd
    have HS_4 := hide ((unhide HS_3).up hb4)
    have F_x_4 := hide ((unhide F_x_3).up hb4)
    have F_y_4 := hide ((unhide F_y).up hb4)
    have hbb4 := hbb3.trans (hb4.mono hbb3.size)
    go_wp2_with fail
    refine (specExprValid_any _ _ _ _ e (unhide HS_4).1 (by omega)).mono ?_
    rintro r w5 ⟨rfl, hb5⟩
    have HS_5 := hide ((unhide HS_4).up hb5)
    have F_x_5 := hide ((unhide F_x_4).up hb5)
    have hbb5 := hbb4.trans (hb5.mono hbb4.size)
    rcases hv : exprB e
    · go_wp2_with fail
      refine (alive_any _).mono ?_
      rintro r w77 ⟨rfl, rfl⟩
      go_wp2
      go_ret
      exact ⟨rfl, hbb5⟩
    by_cases h58 : 58 < n1
    · go_wp2_with fail
      refine (alive_any _).mono ?_
      rintro r w77 ⟨rfl, rfl⟩
      go_wp2
      go_ret
      exact ⟨rfl, hbb5⟩
    obtain ⟨t, hg, rfl, hs⟩ := exprB_iff.1 hv
    have hsz : t.sz ≤ 58 := by have := HLN.out; rw [Ex.flat_length] at this; omega
    have HT := Lib.hid (show t.flat = t.flat from rfl)
    generalize hE : t.flat = e at *
    have HE := Lib.hid hE
    clear hE hs HT hv
    go_wp2_with fail
    refine (one_any _ 8 _ _ _ e (unhide HS_5) (by first | omega | decide)).mono ?_
    intro r w6 hd6
    have hl_st : (e ++ [((8 : Int), (0 : Int))]).length ≤ 70 := by simp [HLN.out]; omega
    obtain ⟨A6, c6, rfl, hsl6, -, hb6⟩ := hd6.sl (by omega)
    generalize hJ6 : e ++ [((8 : Int), (0 : Int))] = st at *
    have E_st := Lib.hid hJ6
    have HS_6 := hide ((unhide HS_5).up hb6)
    have F_x_6 := hide ((unhide F_x_5).up hb6)
    have hbb6 := hbb5.trans (hb6.mono hbb5.size)
    have F_st := hide hsl6
    clear hd6 hsl6 hJ6
    go_wp2_with fail
    refine (one_any _ 7 _ _ _ e (unhide HS_6) (by first | omega | decide)).mono ?_
    intro r w7 hd7
    have hl_j : (e ++ [((7 : Int), (0 : Int))]).length ≤ 70 := by simp [HLN.out]; omega
    obtain ⟨A7, c7, rfl, hsl7, -, hb7⟩ := hd7.sl (by omega)
    generalize hJ7 : e ++ [((7 : Int), (0 : Int))] = j at *
    have E_j := Lib.hid hJ7
    have HS_7 := hide ((unhide HS_6).up hb7)
    have F_x_7 := hide ((unhide F_x_6).up hb7)
    have F_st_7 := hide ((unhide F_st).up hb7)
    have hbb7 := hbb6.trans (hb7.mono hbb6.size)
    have F_j := hide hsl7
    clear hd7 hsl7 hJ7
    go_wp2_with fail
    refine (one_any _ 7 _ _ _ j (unhide F_j) (by first | omega | decide)).mono ?_
    intro r w8 hd8
    have hl_k : (j ++ [((7 : Int), (0 : Int))]).length ≤ 72 := by simp [HLN.out]; omega
    obtain ⟨A8, c8, rfl, hsl8, -, hb8⟩ := hd8.sl (by omega)
    generalize hJ8 : j ++ [((7 : Int), (0 : Int))] = k at *
    have E_k := Lib.hid hJ8
    have HS_8 := hide ((unhide HS_7).up hb8)
    have F_x_8 := hide ((unhide F_x_7).up hb8)
    have F_st_8 := hide ((unhide F_st_7).up hb8)
    have F_j_8 := hide ((unhide F_j).up hb8)
    have hbb8 := hbb7.trans (hb8.mono hbb7.size)
    have F_k := hide hsl8
    clear hd8 hsl8 hJ8
    go_wp2_with fail
    refine (implSimp_all _ _ _ _ k (unhide F_k).1 (by omega) (unhide F_k).2.1 (unhide F_k).2.2.1).mono ?_
    rintro r w9 ⟨zk, hx9, hd9⟩
    have hl_zk := simp_len hx9
    obtain ⟨A9, c9, rfl, hsl9, -, hb9⟩ := hd9.sl (by omega)
    have HS_9 := hide ((unhide HS_8).up hb9)
    have F_x_9 := hide ((unhide F_x_8).up hb9)
    have F_st_9 := hide ((unhide F_st_8).up hb9)
    have F_j_9 := hide ((unhide F_j_8).up hb9)
    have F_k_9 := hide ((unhide F_k).up hb9)
    have hbb9 := hbb8.trans (hb9.mono hbb8.size)
    have F_zk := hide hsl9
    have R_zk := Lib.hid hx9
    clear hx9 hsl9 hd9
    obtain rfl : zk = x := by
      have h := R_zk.out
      rw [← E_k.out, ← E_j.out, ← HE.out] at h
      have h2 : FlatR Ex.simp (Ex.un 7 (Ex.un 7 t)).flat zk := h
      rw [FlatR.at (t := Ex.un 7 (Ex.un 7 t)) ⟨.inl rfl, .inl rfl, hg⟩ (by simp only [Ex.sz]; omega) h2]
      have hx := R_x.out
      rw [← HE.out] at hx
      rw [FlatR.at hg (by omega) hx, Ex.not_not_simp hg]
    go_wp2_with fail
    refine (sameParts_any _ _ _ _ _ _ _ zk zk (unhide F_zk).1 (unhide F_x_9).1 (by first | omega | decide) (by first | omega | decide)).mono ?_
    rintro r w10 ⟨rfl, hb10⟩
    have hdd : decide (zk = zk) = true := by simp
    rw [hdd]
    clear hdd
    have HS_10 := hide ((unhide HS_9).up hb10)
    have F_x_10 := hide ((unhide F_x_9).up hb10)
    have F_st_10 := hide ((unhide F_st_9).up hb10)
    have F_j_10 := hide ((unhide F_j_9).up hb10)
    have F_k_10 := hide ((unhide F_k_9).up hb10)
    have F_zk_10 := hide ((unhide F_zk).up hb10)
    have hbb10 := hbb9.trans (hb10.mono hbb9.size)
    go_wp2_with fail
    refine (one_any _ 8 _ _ _ st (unhide F_st_10) (by first | omega | decide)).mono ?_
    intro r w11 hd11
    have hl_s2 : (st ++ [((8 : Int), (0 : Int))]).length ≤ 72 := by simp [HLN.out]; omega
    obtain ⟨A11, c11, rfl, hsl11, -, hb11⟩ := hd11.sl (by omega)
    generalize hJ11 : st ++ [((8 : Int), (0 : Int))] = s2 at *
    have E_s2 := Lib.hid hJ11
    have F_st_11 := hide ((unhide F_st_10).up hb11)
    have hbb11 := hbb10.trans (hb11.mono hbb10.size)
    have F_s2 := hide hsl11
    clear hd11 hsl11 hJ11
    go_wp2_with fail
    refine (implSimp_all _ _ _ _ s2 (unhide F_s2).1 (by omega) (unhide F_s2).2.1 (unhide F_s2).2.2.1).mono ?_
    rintro r w12 ⟨za, hx12, hd12⟩
    have hl_za := simp_len hx12
    obtain ⟨A12, c12, rfl, hsl12, -, hb12⟩ := hd12.sl (by omega)
    have F_st_12 := hide ((unhide F_st_11).up hb12)
    have F_s2_12 := hide ((unhide F_s2).up hb12)
    have hbb12 := hbb11.trans (hb12.mono hbb11.size)
    have F_za := hide hsl12
    have R_za := Lib.hid hx12
    clear hx12 hsl12 hd12
    go_wp2_with fail
    refine (implSimp_all _ _ _ _ st (unhide F_st_12).1 (by omega) (unhide F_st_12).2.1 (unhide F_st_12).2.2.1).mono ?_
    rintro r w13 ⟨zb, hx13, hd13⟩
    have hl_zb := simp_len hx13
    obtain ⟨A13, c13, rfl, hsl13, -, hb13⟩ := hd13.sl (by omega)
    have F_st_13 := hide ((unhide F_st_12).up hb13)
    have F_s2_13 := hide ((unhide F_s2_12).up hb13)
    have F_za_13 := hide ((unhide F_za).up hb13)
    have hbb13 := hbb12.trans (hb13.mono hbb12.size)
    have F_zb := hide hsl13
    have R_zb := Lib.hid hx13
    clear hx13 hsl13 hd13
    obtain rfl : za = zb := by
      have h := R_za.out
      have h' := R_zb.out
      rw [← E_s2.out, ← E_st.out, ← HE.out] at h
      rw [← E_st.out, ← HE.out] at h'
      have h2 : FlatR Ex.simp (Ex.un 8 (Ex.un 8 t)).flat za := h
      have h3 : FlatR Ex.simp (Ex.un 8 t).flat zb := h'
      rw [FlatR.at (t := Ex.un 8 (Ex.un 8 t)) ⟨.inr rfl, .inr rfl, hg⟩ (by simp only [Ex.sz]; omega) h2, FlatR.at (t := Ex.un 8 t) ⟨.inr rfl, hg⟩ (by simp only [Ex.sz]; omega) h3, Ex.star_star_simp]
    go_wp2_with fail
    refine (sameParts_any _ _ _ _ _ _ _ za za (unhide F_za_13).1 (unhide F_zb).1 (by first | omega | decide) (by first | omega | decide)).mono ?_
    rintro r w14 ⟨rfl, hb14⟩
    have hdd : decide (za = za) = true := by simp
    rw [hdd]
    clear hdd
    have F_st_14 := hide ((unhide F_st_13).up hb14)
    have F_s2_14 := hide ((unhide F_s2_13).up hb14)
    have F_za_14 := hide ((unhide F_za_13).up hb14)
    have F_zb_14 := hide ((unhide F_zb).up hb14)
    have hbb14 := hbb13.trans (hb14.mono hbb13.size)
    go_wp2
    go_ret
    exact ⟨rfl, hbb14⟩
end Go.Proofs.Ytadibjjjdbglaaa

