/-
  The walks of the laws on languages of drawn expressions.
-/
import Derived.Test.YtgcggmlekmjpdaaNear
import Derived.Test.YtgcggmlekmjpdaaEacc
namespace Go.Proofs.Ytgcggmlekmjpdaa
open Go.RowKit
set_option linter.unusedVariables false
set_option maxRecDepth 100000

theorem two_list {w : World} (k : Int) {A A2 : Option Addr} {n c n2 c2 : Nat} {x y : List Pt} (T U : Ex) (hx : Opq (T.flat = x)) (hy : Opq (U.flat = y)) (h : SL w w.heap.size A n c x) (h2 : SL w w.heap.size A2 n2 c2 y) (hn : n ≤ 100000) (hn2 : n2 ≤ 100000) :
    Calls Try.prog 33 #[.int .i64 k, .slice A n c, .slice A2 n2 c2] w (OwnD w (Ex.bin k T U).flat) := by
  rw [Ex.flat, hx.out, hy.out]; exact two_any w k A A2 n c n2 c2 x y h h2 hn hn2
theorem one_list {w : World} (k : Int) {A : Option Addr} {n c : Nat} {x : List Pt} (T : Ex) (hx : Opq (T.flat = x)) (h : SL w w.heap.size A n c x) (hn : n ≤ 100000) :
    Calls Try.prog 31 #[.int .i64 k, .slice A n c] w (OwnD w (Ex.un k T).flat) := by
  rw [Ex.flat, hx.out]; exact one_any w k A n c x h hn
namespace Ex
theorem acc_un7 (t : Ex) (s : List UInt8) : (un 7 t).acc s = !(t.acc s) := by simp [acc, sp]
theorem acc_bin5 (t u : Ex) (s : List UInt8) : (bin 5 t u).acc s = (t.acc s || u.acc s) := by simp [acc, sp]
theorem acc_bin6 (t u : Ex) (s : List UInt8) : (bin 6 t u).acc s = (t.acc s && u.acc s) := by simp [acc, sp]
theorem acc_nn (t : Ex) (s : List UInt8) : (un 7 (un 7 t)).acc s = t.acc s := by rw [acc_un7, acc_un7, Bool.not_not]
theorem acc_ne (t u : Ex) (s : List UInt8) : (un 7 (bin 5 t u)).acc s = (bin 6 (un 7 t) (un 7 u)).acc s := by rw [acc_un7, acc_bin5, acc_bin6, acc_un7, acc_un7, Bool.not_or]
theorem acc_o5 (t u : Ex) (s : List UInt8) : (bin 5 t u).acc s = (bin 5 u t).acc s := by rw [acc_bin5, acc_bin5, Bool.or_comm]
theorem acc_o6 (t u : Ex) (s : List UInt8) : (bin 6 t u).acc s = (bin 6 u t).acc s := by rw [acc_bin6, acc_bin6, Bool.and_comm]
theorem acc_je (a b c : Ex) (s : List UInt8) : (bin 4 a (bin 5 b c)).acc s = (bin 5 (bin 4 a b) (bin 4 a c)).acc s := by
  refine acc_congr ?_
  simp only [L, if_true, if_neg (show ¬ (5 : Int) = 4 by decide)]
  constructor
  · rintro ⟨u, v, e, h1, h2 | h2⟩
    · exact .inl ⟨u, v, e, h1, h2⟩
    · exact .inr ⟨u, v, e, h1, h2⟩
  · rintro (⟨u, v, e, h1, h2⟩ | ⟨u, v, e, h1, h2⟩)
    · exact ⟨u, v, e, h1, .inl h2⟩
    · exact ⟨u, v, e, h1, .inr h2⟩
theorem L_star (a : Ex) (w : List UInt8) : (un 8 a).L w ↔ StarL a.L w := by simp [L]
theorem acc_ss (a : Ex) (s : List UInt8) : (un 8 (un 8 a)).acc s = (un 8 a).acc s := by
  refine acc_congr ?_
  rw [L_star, L_star]
  constructor
  · intro h
    induction h with
    | nil => exact .nil
    | app h1 h2 ih => exact starL_trans ((L_star a _).1 h1) ih
  · intro h
    exact starL_one ((L_star a _).2 h)
theorem acc_es (a : Ex) (s : List UInt8) : (bin 5 (leaf 2 0) (bin 4 a (un 8 a))).acc s = (un 8 a).acc s := by
  refine acc_congr ?_
  rw [L_star]
  have h0 : (bin 5 (leaf 2 0) (bin 4 a (un 8 a))).L s ↔ (s = [] ∨ ∃ u v, s = u ++ v ∧ a.L u ∧ StarL a.L v) := by simp [L]
  rw [h0]
  clear h0
  constructor
  · rintro (rfl | ⟨u, v, rfl, h1, h2⟩)
    · exact .nil
    · exact .app h1 h2
  · intro h
    cases h with
    | nil => exact .inl rfl
    | app h1 h2 => exact .inr ⟨_, _, rfl, h1, h2⟩
end Ex
theorem SL.one1 (w : World) (k l : Int) : SL (w.alloc (.cells #[.int .i64 k, .int .i64 l] 37)) (w.alloc (.cells #[.int .i64 k, .int .i64 l] 37)).heap.size (some ⟨w.heap.size, 0, none⟩) 1 1 [(k, l)] :=
  ⟨PS.one w _ k l _ (by rw [World.size_alloc]; exact Nat.lt_succ_self _), Nat.le_refl _, by simp [maxLen], fun h => nomatch h⟩
set_option maxHeartbeats 4000000 in
theorem wFnNotTwice (A : Option Addr) (n c : Nat) (w : World) (hw : BytesIn w A n c) : Calls Try.prog 8 #[.slice A n c] w (Yes w) := by
  obtain ⟨hnc, hcm, hcode⟩ := hw
  unfold maxLen at hcm
  have HC := hide hcode
  clear hcode
  by_cases hn : 1048576 < n
  · go_enter Try.func8, Try.ntmps8
    go_wp2
    go_ret
    exact ⟨rfl, Below.refl _ _⟩
  · go_enter Try.func8, Try.ntmps8
    go_wp2_with fail
    refine (dExprAccepts_any w n c A _ (unhide HC) (Nat.le_refl _) hnc (by omega)).mono ?_
    rintro r w1 ⟨e, A1, n1, c1, s, rfl, hl, hsl, hs9, hb1⟩
    have HLN := Lib.hid hsl.1.1
    have F_e := hide hsl
    clear hsl
    go_wp2_with fail
    refine (implExprAccepts_any _ _ _ _ _ s (unhide F_e).1 (by unfold maxLen; omega)).mono ?_
    rintro r w11 ⟨ok, rfl, hE_ok, hb11⟩
    have e_11 := hide ((unhide F_e).up hb11)
    have hbb11 := hb1.trans (hb11.mono hb1.size)
    go_wp2_with fail
    refine (specExprAccepts_any _ _ _ _ _ s (unhide e_11).1 (by omega) (by unfold maxLen; omega)).mono ?_
    rintro r w12 ⟨ok2, rfl, hE_ok2, hb12⟩
    have e_12 := hide ((unhide e_11).up hb12)
    have hbb12 := hbb11.trans (hb12.mono hbb11.size)
    obtain rfl : ok2 = ok := hE_ok2.uniq hE_ok
    have hne : (ok2 != ok2) = false := by simp
    go_wp2_with fail
    refine (one_any _ 7 _ _ _ e (unhide e_12) (by omega)).mono ?_
    intro r w13 hd13
    generalize hJ1 : e ++ [((7 : Int), (0 : Int))] = x1 at hd13
    have hlx1 : x1.length = n1 + 1 := by rw [← hJ1]; simp [HLN.out]
    obtain ⟨A13, c13, rfl, hsl13, -, hb13⟩ := hd13.sl (by omega)
    clear hd13
    have e_13 := hide ((unhide e_12).up hb13)
    have hbb13 := hbb12.trans (hb13.mono hbb12.size)
    have F_x1 := hide hsl13
    clear hsl13
    have HX1 := Lib.hid hlx1
    have HJ1 := Lib.hid hJ1
    have hx1b : x1.length ≤ 62 := by omega
    clear hlx1 hJ1
    go_wp2_with fail
    refine (one_any _ 7 _ _ _ x1 (unhide F_x1) (by omega)).mono ?_
    intro r w14 hd14
    generalize hJ2 : x1 ++ [((7 : Int), (0 : Int))] = x2 at hd14
    have hlx2 : x2.length ≤ 63 := by rw [← hJ2]; simp; omega
    obtain ⟨A14, c14, rfl, hsl14, -, hb14⟩ := hd14.sl (by omega)
    clear hd14
    have e_14 := hide ((unhide e_13).up hb14)
    have x1_14 := hide ((unhide F_x1).up hb14)
    have hbb14 := hbb13.trans (hb14.mono hbb13.size)
    have F_x2 := hide hsl14
    clear hsl14
    have HJ2 := Lib.hid hJ2
    clear hJ2
    go_wp2_with fail
    refine (specExprValid_any _ _ _ _ _ (unhide e_14).1 (by omega)).mono ?_
    rintro r w15 ⟨rfl, hb15⟩
    have e_15 := hide ((unhide e_14).up hb15)
    have x1_15 := hide ((unhide x1_14).up hb15)
    have x2_15 := hide ((unhide F_x2).up hb15)
    have hbb15 := hbb14.trans (hb15.mono hbb14.size)
    rcases hv : exprB e
    · obtain rfl : ok2 = false := eacc_bad hE_ok hv
      go_wp2_with fail
      refine (alive_any _).mono ?_
      rintro r w99 ⟨rfl, rfl⟩
      go_wp2
      go_ret
      exact ⟨rfl, hbb15⟩
    obtain ⟨t, hg, hfe, hs60⟩ := exprB_iff.1 hv
    have hsz : t.sz ≤ 16 := by have h1 := HLN.out; rw [← hfe, Ex.flat_length] at h1; omega
    have hn16 : n1 ≤ 16 := by have h1 := HLN.out; rw [← hfe, Ex.flat_length] at h1; omega
    have TJ_e : Opq (t.flat = e) := ⟨hfe⟩
    clear hfe hs60
    have hgu := hg
    clear hv
    have TJ_x2 : Opq (Ex.flat (.un 7 (.un 7 t)) = x2) := ⟨by rw [← HJ2.out, ← HJ1.out, ← TJ_e.out]; simp [Ex.flat]⟩
    have hv2 := valid_of TJ_x2 (by simp [Ex.good, hg]) (by (try simp only [Ex.sz]); omega)
    go_wp2_with fail
    refine (specExprValid_any _ _ _ _ _ (unhide x2_15).1 (by omega)).mono ?_
    rintro r w16 ⟨rfl, hb16⟩
    rw [hv2]
    have e_16 := hide ((unhide e_15).up hb16)
    have x1_16 := hide ((unhide x1_15).up hb16)
    have x2_16 := hide ((unhide x2_15).up hb16)
    have hbb16 := hbb15.trans (hb16.mono hbb15.size)
    go_wp2_with fail
    refine (implExprAccepts_any _ _ _ _ _ s (unhide x2_16).1 (by unfold maxLen; omega)).mono ?_
    rintro r w17 ⟨b3, rfl, hE_b3, hb17⟩
    have e_17 := hide ((unhide e_16).up hb17)
    have x1_17 := hide ((unhide x1_16).up hb17)
    have x2_17 := hide ((unhide x2_16).up hb17)
    have hbb17 := hbb16.trans (hb17.mono hbb16.size)
    obtain rfl : b3 = ok2 := eacc_eq hE_b3 hE_ok TJ_x2 TJ_e (by simp [Ex.good, hg, hgu]) (by simp [Ex.good, hg, hgu]) (by (try simp only [Ex.sz]); omega) (by (try simp only [Ex.sz]); omega) (Ex.acc_nn t _)
    have heq_b3 : (b3 == b3) = true := by simp
    go_wp2_with fail
    refine (alive_any _).mono ?_
    rintro r w99 ⟨rfl, rfl⟩
    go_wp2
    go_ret
    exact ⟨rfl, hbb17⟩
set_option maxHeartbeats 4000000 in
theorem wFnStarTwice (A : Option Addr) (n c : Nat) (w : World) (hw : BytesIn w A n c) : Calls Try.prog 11 #[.slice A n c] w (Yes w) := by
  obtain ⟨hnc, hcm, hcode⟩ := hw
  unfold maxLen at hcm
  have HC := hide hcode
  clear hcode
  by_cases hn : 1048576 < n
  · go_enter Try.func11, Try.ntmps11
    go_wp2
    go_ret
    exact ⟨rfl, Below.refl _ _⟩
  · go_enter Try.func11, Try.ntmps11
    go_wp2_with fail
    refine (dExprAccepts_any w n c A _ (unhide HC) (Nat.le_refl _) hnc (by omega)).mono ?_
    rintro r w1 ⟨e, A1, n1, c1, s, rfl, hl, hsl, hs9, hb1⟩
    have HLN := Lib.hid hsl.1.1
    have F_e := hide hsl
    clear hsl
    go_wp2_with fail
    refine (implExprAccepts_any _ _ _ _ _ s (unhide F_e).1 (by unfold maxLen; omega)).mono ?_
    rintro r w11 ⟨ok, rfl, hE_ok, hb11⟩
    have e_11 := hide ((unhide F_e).up hb11)
    have hbb11 := hb1.trans (hb11.mono hb1.size)
    go_wp2_with fail
    refine (specExprAccepts_any _ _ _ _ _ s (unhide e_11).1 (by omega) (by unfold maxLen; omega)).mono ?_
    rintro r w12 ⟨ok2, rfl, hE_ok2, hb12⟩
    have e_12 := hide ((unhide e_11).up hb12)
    have hbb12 := hbb11.trans (hb12.mono hbb11.size)
    obtain rfl : ok2 = ok := hE_ok2.uniq hE_ok
    have hne : (ok2 != ok2) = false := by simp
    go_wp2_with fail
    refine (specExprValid_any _ _ _ _ _ (unhide e_12).1 (by omega)).mono ?_
    rintro r w13 ⟨rfl, hb13⟩
    have e_13 := hide ((unhide e_12).up hb13)
    have hbb13 := hbb12.trans (hb13.mono hbb12.size)
    rcases hv : exprB e
    · go_wp2_with fail
      refine (alive_any _).mono ?_
      rintro r w99 ⟨rfl, rfl⟩
      go_wp2
      go_ret
      exact ⟨rfl, hbb13⟩
    obtain ⟨t, hg, hfe, hs60⟩ := exprB_iff.1 hv
    have hsz : t.sz ≤ 16 := by have h1 := HLN.out; rw [← hfe, Ex.flat_length] at h1; omega
    have hn16 : n1 ≤ 16 := by have h1 := HLN.out; rw [← hfe, Ex.flat_length] at h1; omega
    have TJ_e : Opq (t.flat = e) := ⟨hfe⟩
    clear hfe hs60
    have hgu := hg
    clear hv
    go_wp2_with fail
    refine (one_list 8 _ TJ_e (unhide e_13) (by omega)).mono ?_
    intro r w14 hd14
    generalize hJ_st : (Ex.flat (.un 8 (t))) = st at hd14
    have hl_st : st.length ≤ 60 := by rw [← hJ_st, Ex.flat_length]; simp only [Ex.sz]; omega
    obtain ⟨A14, c14, rfl, hsl14, -, hb14⟩ := hd14.sl (by omega)
    have TJ_st : Opq (Ex.flat (.un 8 (t)) = st) := ⟨hJ_st⟩
    clear hd14 hJ_st
    have e_14 := hide ((unhide e_13).up hb14)
    have hbb14 := hbb13.trans (hb14.mono hbb13.size)
    have F_st := hide hsl14
    clear hsl14
    go_wp2_with fail
    refine (one_list 8 _ TJ_st (unhide F_st) (by omega)).mono ?_
    intro r w15 hd15
    generalize hJ_x : (Ex.flat (.un 8 (.un 8 (t)))) = x at hd15
    have hl_x : x.length ≤ 60 := by rw [← hJ_x, Ex.flat_length]; simp only [Ex.sz]; omega
    obtain ⟨A15, c15, rfl, hsl15, -, hb15⟩ := hd15.sl (by omega)
    have TJ_x : Opq (Ex.flat (.un 8 (.un 8 (t))) = x) := ⟨hJ_x⟩
    clear hd15 hJ_x
    have e_15 := hide ((unhide e_14).up hb15)
    have st_15 := hide ((unhide F_st).up hb15)
    have hbb15 := hbb14.trans (hb15.mono hbb14.size)
    have F_x := hide hsl15
    clear hsl15
    have hb16 : Below w15.heap.size w15 (w15.alloc (.cells #[.int .i64 2, .int .i64 0] 37)) := (Below.refl _ _).alloc (Nat.le_refl _) _
    have e_16 := hide ((unhide e_15).up hb16)
    have st_16 := hide ((unhide st_15).up hb16)
    have x_16 := hide ((unhide F_x).up hb16)
    have hbb16 := hbb15.trans (hb16.mono hbb15.size)
    have F_em := hide (SL.one1 w15 2 0)
    have TJ_em : Opq (Ex.flat (.leaf 2 0) = [((2 : Int), (0 : Int))]) := ⟨rfl⟩
    go_wp2_with fail
    refine (two_list 4 _ _ TJ_e TJ_st (unhide e_16) (unhide st_16) (by omega) (by omega)).mono ?_
    intro r w17 hd17
    generalize hJ_y1 : (Ex.flat (.bin 4 (t) (.un 8 (t)))) = y1 at hd17
    have hl_y1 : y1.length ≤ 60 := by rw [← hJ_y1, Ex.flat_length]; simp only [Ex.sz]; omega
    obtain ⟨A17, c17, rfl, hsl17, -, hb17⟩ := hd17.sl (by omega)
    have TJ_y1 : Opq (Ex.flat (.bin 4 (t) (.un 8 (t))) = y1) := ⟨hJ_y1⟩
    clear hd17 hJ_y1
    have e_17 := hide ((unhide e_16).up hb17)
    have st_17 := hide ((unhide st_16).up hb17)
    have x_17 := hide ((unhide x_16).up hb17)
    have em_17 := hide ((unhide F_em).up hb17)
    have hbb17 := hbb16.trans (hb17.mono hbb16.size)
    have F_y1 := hide hsl17
    clear hsl17
    go_wp2_with fail
    refine (two_list 5 _ _ TJ_em TJ_y1 (unhide em_17) (unhide F_y1) (by omega) (by omega)).mono ?_
    intro r w18 hd18
    generalize hJ_y : (Ex.flat (.bin 5 (.leaf 2 0) (.bin 4 (t) (.un 8 (t))))) = y at hd18
    have hl_y : y.length ≤ 60 := by rw [← hJ_y, Ex.flat_length]; simp only [Ex.sz]; omega
    obtain ⟨A18, c18, rfl, hsl18, -, hb18⟩ := hd18.sl (by omega)
    have TJ_y : Opq (Ex.flat (.bin 5 (.leaf 2 0) (.bin 4 (t) (.un 8 (t)))) = y) := ⟨hJ_y⟩
    clear hd18 hJ_y
    have e_18 := hide ((unhide e_17).up hb18)
    have st_18 := hide ((unhide st_17).up hb18)
    have x_18 := hide ((unhide x_17).up hb18)
    have em_18 := hide ((unhide em_17).up hb18)
    have y1_18 := hide ((unhide F_y1).up hb18)
    have hbb18 := hbb17.trans (hb18.mono hbb17.size)
    have F_y := hide hsl18
    clear hsl18
    go_wp2_with fail
    refine (implExprAccepts_any _ _ _ _ _ s (unhide st_18).1 (by unfold maxLen; omega)).mono ?_
    rintro r w19 ⟨b1, rfl, hE_b1, hb19⟩
    have e_19 := hide ((unhide e_18).up hb19)
    have st_19 := hide ((unhide st_18).up hb19)
    have x_19 := hide ((unhide x_18).up hb19)
    have em_19 := hide ((unhide em_18).up hb19)
    have y1_19 := hide ((unhide y1_18).up hb19)
    have y_19 := hide ((unhide F_y).up hb19)
    have hbb19 := hbb18.trans (hb19.mono hbb18.size)
    have hv2 := valid_of TJ_x (by simp [Ex.good, hg]) (by (try simp only [Ex.sz]); omega)
    go_wp2_with fail
    refine (specExprValid_any _ _ _ _ _ (unhide x_19).1 (by omega)).mono ?_
    rintro r w20 ⟨rfl, hb20⟩
    rw [hv2]
    have e_20 := hide ((unhide e_19).up hb20)
    have st_20 := hide ((unhide st_19).up hb20)
    have x_20 := hide ((unhide x_19).up hb20)
    have em_20 := hide ((unhide em_19).up hb20)
    have y1_20 := hide ((unhide y1_19).up hb20)
    have y_20 := hide ((unhide y_19).up hb20)
    have hbb20 := hbb19.trans (hb20.mono hbb19.size)
    go_wp2_with fail
    refine (implExprAccepts_any _ _ _ _ _ s (unhide x_20).1 (by unfold maxLen; omega)).mono ?_
    rintro r w21 ⟨b2, rfl, hE_b2, hb21⟩
    have e_21 := hide ((unhide e_20).up hb21)
    have st_21 := hide ((unhide st_20).up hb21)
    have x_21 := hide ((unhide x_20).up hb21)
    have em_21 := hide ((unhide em_20).up hb21)
    have y1_21 := hide ((unhide y1_20).up hb21)
    have y_21 := hide ((unhide y_20).up hb21)
    have hbb21 := hbb20.trans (hb21.mono hbb20.size)
    obtain rfl : b2 = b1 := eacc_eq hE_b2 hE_b1 TJ_x TJ_st (by simp [Ex.good, hg, hgu]) (by simp [Ex.good, hg, hgu]) (by (try simp only [Ex.sz]); omega) (by (try simp only [Ex.sz]); omega) (Ex.acc_ss t _)
    have heq_b2 : (b2 == b2) = true := by simp
    have hv3 := valid_of TJ_y (by simp [Ex.good, hg]) (by (try simp only [Ex.sz]); omega)
    go_wp2_with fail
    refine (specExprValid_any _ _ _ _ _ (unhide y_21).1 (by omega)).mono ?_
    rintro r w22 ⟨rfl, hb22⟩
    rw [hv3]
    have e_22 := hide ((unhide e_21).up hb22)
    have st_22 := hide ((unhide st_21).up hb22)
    have x_22 := hide ((unhide x_21).up hb22)
    have em_22 := hide ((unhide em_21).up hb22)
    have y1_22 := hide ((unhide y1_21).up hb22)
    have y_22 := hide ((unhide y_21).up hb22)
    have hbb22 := hbb21.trans (hb22.mono hbb21.size)
    go_wp2_with fail
    refine (implExprAccepts_any _ _ _ _ _ s (unhide y_22).1 (by unfold maxLen; omega)).mono ?_
    rintro r w23 ⟨b3, rfl, hE_b3, hb23⟩
    have e_23 := hide ((unhide e_22).up hb23)
    have st_23 := hide ((unhide st_22).up hb23)
    have x_23 := hide ((unhide x_22).up hb23)
    have em_23 := hide ((unhide em_22).up hb23)
    have y1_23 := hide ((unhide y1_22).up hb23)
    have y_23 := hide ((unhide y_22).up hb23)
    have hbb23 := hbb22.trans (hb23.mono hbb22.size)
    obtain rfl : b3 = b2 := eacc_eq hE_b3 hE_b1 TJ_y TJ_st (by simp [Ex.good, hg, hgu]) (by simp [Ex.good, hg, hgu]) (by (try simp only [Ex.sz]); omega) (by (try simp only [Ex.sz]); omega) (Ex.acc_es t _)
    have heq_b3 : (b3 == b3) = true := by simp
    go_wp2_with fail
    refine (alive_any _).mono ?_
    rintro r w99 ⟨rfl, rfl⟩
    go_wp2
    go_ret
    exact ⟨rfl, hbb23⟩
set_option maxHeartbeats 4000000 in
theorem wFnEitherOrder (A : Option Addr) (n c : Nat) (A' : Option Addr) (n' c' : Nat) (w : World) (hw : BytesIn w A n c) (hw2 : BytesIn w A' n' c') : Calls Try.prog 9 #[.slice A n c, .slice A' n' c'] w (Yes w) := by
  obtain ⟨hnc, hcm, hcode⟩ := hw
  obtain ⟨hnc2, hcm2, hcode2⟩ := hw2
  unfold maxLen at hcm hcm2
  have HC := hide hcode
  have HC2 := hide hcode2
  clear hcode hcode2
  by_cases hn : 1048576 < n
  · go_enter Try.func9, Try.ntmps9
    go_wp2
    go_ret
    exact ⟨rfl, Below.refl _ _⟩
  by_cases hn' : 1048576 < n'
  · go_enter Try.func9, Try.ntmps9
    go_wp2
    go_ret
    exact ⟨rfl, Below.refl _ _⟩
  · go_enter Try.func9, Try.ntmps9
    go_wp2_with fail
    refine (dExprAccepts_any w n c A _ (unhide HC) (Nat.le_refl _) hnc (by omega)).mono ?_
    rintro r w1 ⟨a, A1, n1, c1, s, rfl, hl, hsl, hs9, hb1⟩
    have HLN := Lib.hid hsl.1.1
    have F_a0 := hide hsl
    clear hsl
    go_wp2_with fail
    refine (dSimplifyExpr_any w1 n' c' A' w.heap.size ((unhide HC2).keep fun b o h => hb1.cell (p := ⟨b, o, none⟩) h) hb1.size hnc2 (by omega)).mono ?_
    rintro r w2 ⟨b, A2, n2, c2, rfl, hl2, hsl2, hb2⟩
    have HLM := Lib.hid hsl2.1.1
    have F_a := hide ((unhide F_a0).up hb2)
    have F_b := hide hsl2
    have hbb2 := hb1.trans (hb2.mono hb1.size)
    clear hsl2
    go_wp2_with fail
    refine (implExprAccepts_any _ _ _ _ _ s (unhide F_a).1 (by unfold maxLen; omega)).mono ?_
    rintro r w11 ⟨ok, rfl, hE_ok, hb11⟩
    have a_11 := hide ((unhide F_a).up hb11)
    have b_11 := hide ((unhide F_b).up hb11)
    have hbb11 := hbb2.trans (hb11.mono hbb2.size)
    go_wp2_with fail
    refine (specExprAccepts_any _ _ _ _ _ s (unhide a_11).1 (by omega) (by unfold maxLen; omega)).mono ?_
    rintro r w12 ⟨ok2, rfl, hE_ok2, hb12⟩
    have a_12 := hide ((unhide a_11).up hb12)
    have b_12 := hide ((unhide b_11).up hb12)
    have hbb12 := hbb11.trans (hb12.mono hbb11.size)
    obtain rfl : ok2 = ok := hE_ok2.uniq hE_ok
    have hne : (ok2 != ok2) = false := by simp
    go_wp2_with fail
    refine (specExprValid_any _ _ _ _ _ (unhide a_12).1 (by omega)).mono ?_
    rintro r w13 ⟨rfl, hb13⟩
    have a_13 := hide ((unhide a_12).up hb13)
    have b_13 := hide ((unhide b_12).up hb13)
    have hbb13 := hbb12.trans (hb13.mono hbb12.size)
    rcases hv : exprB a
    · go_wp2_with fail
      refine (alive_any _).mono ?_
      rintro r w99 ⟨rfl, rfl⟩
      go_wp2
      go_ret
      exact ⟨rfl, hbb13⟩
    go_wp2_with fail
    refine (specExprValid_any _ _ _ _ _ (unhide b_13).1 (by omega)).mono ?_
    rintro r w14 ⟨rfl, hb14⟩
    have a_14 := hide ((unhide a_13).up hb14)
    have b_14 := hide ((unhide b_13).up hb14)
    have hbb14 := hbb13.trans (hb14.mono hbb13.size)
    rcases hv2 : exprB b
    · go_wp2_with fail
      refine (alive_any _).mono ?_
      rintro r w99 ⟨rfl, rfl⟩
      go_wp2
      go_ret
      exact ⟨rfl, hbb14⟩
    obtain ⟨t, hg, hfe, hs60⟩ := exprB_iff.1 hv
    obtain ⟨u, hgu, hfu, hu60⟩ := exprB_iff.1 hv2
    have hsz : t.sz ≤ 16 := by have h1 := HLN.out; rw [← hfe, Ex.flat_length] at h1; omega
    have hszu : u.sz ≤ 16 := by have h1 := HLM.out; rw [← hfu, Ex.flat_length] at h1; omega
    have hn16 : n1 ≤ 16 := by have h1 := HLN.out; rw [← hfe, Ex.flat_length] at h1; omega
    have hm16 : n2 ≤ 16 := by have h1 := HLM.out; rw [← hfu, Ex.flat_length] at h1; omega
    have TJ_a : Opq (t.flat = a) := ⟨hfe⟩
    have TJ_b : Opq (u.flat = b) := ⟨hfu⟩
    clear hfe hs60 hfu hu60 hv hv2
    go_wp2_with fail
    refine (two_list 5 _ _ TJ_a TJ_b (unhide a_14) (unhide b_14) (by omega) (by omega)).mono ?_
    intro r w15 hd15
    generalize hJ_x1 : (Ex.flat (.bin 5 (t) (u))) = x1 at hd15
    have hl_x1 : x1.length ≤ 60 := by rw [← hJ_x1, Ex.flat_length]; simp only [Ex.sz]; omega
    obtain ⟨A15, c15, rfl, hsl15, -, hb15⟩ := hd15.sl (by omega)
    have TJ_x1 : Opq (Ex.flat (.bin 5 (t) (u)) = x1) := ⟨hJ_x1⟩
    clear hd15 hJ_x1
    have a_15 := hide ((unhide a_14).up hb15)
    have b_15 := hide ((unhide b_14).up hb15)
    have hbb15 := hbb14.trans (hb15.mono hbb14.size)
    have F_x1 := hide hsl15
    clear hsl15
    go_wp2_with fail
    refine (implExprAccepts_any _ _ _ _ _ s (unhide F_x1).1 (by unfold maxLen; omega)).mono ?_
    rintro r w16 ⟨b1, rfl, hE_b1, hb16⟩
    have a_16 := hide ((unhide a_15).up hb16)
    have b_16 := hide ((unhide b_15).up hb16)
    have x1_16 := hide ((unhide F_x1).up hb16)
    have hbb16 := hbb15.trans (hb16.mono hbb15.size)
    go_wp2_with fail
    refine (two_list 5 _ _ TJ_b TJ_a (unhide b_16) (unhide a_16) (by omega) (by omega)).mono ?_
    intro r w17 hd17
    generalize hJ_x2 : (Ex.flat (.bin 5 (u) (t))) = x2 at hd17
    have hl_x2 : x2.length ≤ 60 := by rw [← hJ_x2, Ex.flat_length]; simp only [Ex.sz]; omega
    obtain ⟨A17, c17, rfl, hsl17, -, hb17⟩ := hd17.sl (by omega)
    have TJ_x2 : Opq (Ex.flat (.bin 5 (u) (t)) = x2) := ⟨hJ_x2⟩
    clear hd17 hJ_x2
    have a_17 := hide ((unhide a_16).up hb17)
    have b_17 := hide ((unhide b_16).up hb17)
    have x1_17 := hide ((unhide x1_16).up hb17)
    have hbb17 := hbb16.trans (hb17.mono hbb16.size)
    have F_x2 := hide hsl17
    clear hsl17
    go_wp2_with fail
    refine (implExprAccepts_any _ _ _ _ _ s (unhide F_x2).1 (by unfold maxLen; omega)).mono ?_
    rintro r w18 ⟨b2, rfl, hE_b2, hb18⟩
    have a_18 := hide ((unhide a_17).up hb18)
    have b_18 := hide ((unhide b_17).up hb18)
    have x1_18 := hide ((unhide x1_17).up hb18)
    have x2_18 := hide ((unhide F_x2).up hb18)
    have hbb18 := hbb17.trans (hb18.mono hbb17.size)
    obtain rfl : b2 = b1 := eacc_eq hE_b2 hE_b1 TJ_x2 TJ_x1 (by simp [Ex.good, hg, hgu]) (by simp [Ex.good, hg, hgu]) (by (try simp only [Ex.sz]); omega) (by (try simp only [Ex.sz]); omega) (Ex.acc_o5 u t _)
    have heq_b2 : (b2 == b2) = true := by simp
    go_wp2_with fail
    refine (two_list 6 _ _ TJ_a TJ_b (unhide a_18) (unhide b_18) (by omega) (by omega)).mono ?_
    intro r w19 hd19
    generalize hJ_x3 : (Ex.flat (.bin 6 (t) (u))) = x3 at hd19
    have hl_x3 : x3.length ≤ 60 := by rw [← hJ_x3, Ex.flat_length]; simp only [Ex.sz]; omega
    obtain ⟨A19, c19, rfl, hsl19, -, hb19⟩ := hd19.sl (by omega)
    have TJ_x3 : Opq (Ex.flat (.bin 6 (t) (u)) = x3) := ⟨hJ_x3⟩
    clear hd19 hJ_x3
    have a_19 := hide ((unhide a_18).up hb19)
    have b_19 := hide ((unhide b_18).up hb19)
    have x1_19 := hide ((unhide x1_18).up hb19)
    have x2_19 := hide ((unhide x2_18).up hb19)
    have hbb19 := hbb18.trans (hb19.mono hbb18.size)
    have F_x3 := hide hsl19
    clear hsl19
    go_wp2_with fail
    refine (implExprAccepts_any _ _ _ _ _ s (unhide F_x3).1 (by unfold maxLen; omega)).mono ?_
    rintro r w20 ⟨b3, rfl, hE_b3, hb20⟩
    have a_20 := hide ((unhide a_19).up hb20)
    have b_20 := hide ((unhide b_19).up hb20)
    have x1_20 := hide ((unhide x1_19).up hb20)
    have x2_20 := hide ((unhide x2_19).up hb20)
    have x3_20 := hide ((unhide F_x3).up hb20)
    have hbb20 := hbb19.trans (hb20.mono hbb19.size)
    go_wp2_with fail
    refine (two_list 6 _ _ TJ_b TJ_a (unhide b_20) (unhide a_20) (by omega) (by omega)).mono ?_
    intro r w21 hd21
    generalize hJ_x4 : (Ex.flat (.bin 6 (u) (t))) = x4 at hd21
    have hl_x4 : x4.length ≤ 60 := by rw [← hJ_x4, Ex.flat_length]; simp only [Ex.sz]; omega
    obtain ⟨A21, c21, rfl, hsl21, -, hb21⟩ := hd21.sl (by omega)
    have TJ_x4 : Opq (Ex.flat (.bin 6 (u) (t)) = x4) := ⟨hJ_x4⟩
    clear hd21 hJ_x4
    have a_21 := hide ((unhide a_20).up hb21)
    have b_21 := hide ((unhide b_20).up hb21)
    have x1_21 := hide ((unhide x1_20).up hb21)
    have x2_21 := hide ((unhide x2_20).up hb21)
    have x3_21 := hide ((unhide x3_20).up hb21)
    have hbb21 := hbb20.trans (hb21.mono hbb20.size)
    have F_x4 := hide hsl21
    clear hsl21
    go_wp2_with fail
    refine (implExprAccepts_any _ _ _ _ _ s (unhide F_x4).1 (by unfold maxLen; omega)).mono ?_
    rintro r w22 ⟨b4, rfl, hE_b4, hb22⟩
    have a_22 := hide ((unhide a_21).up hb22)
    have b_22 := hide ((unhide b_21).up hb22)
    have x1_22 := hide ((unhide x1_21).up hb22)
    have x2_22 := hide ((unhide x2_21).up hb22)
    have x3_22 := hide ((unhide x3_21).up hb22)
    have x4_22 := hide ((unhide F_x4).up hb22)
    have hbb22 := hbb21.trans (hb22.mono hbb21.size)
    obtain rfl : b4 = b3 := eacc_eq hE_b4 hE_b3 TJ_x4 TJ_x3 (by simp [Ex.good, hg, hgu]) (by simp [Ex.good, hg, hgu]) (by (try simp only [Ex.sz]); omega) (by (try simp only [Ex.sz]); omega) (Ex.acc_o6 u t _)
    have heq_b4 : (b4 == b4) = true := by simp
    go_wp2_with fail
    refine (alive_any _).mono ?_
    rintro r w99 ⟨rfl, rfl⟩
    go_wp2
    go_ret
    exact ⟨rfl, hbb22⟩
set_option maxHeartbeats 4000000 in
theorem wFnJoinEither (A : Option Addr) (n c : Nat) (A' : Option Addr) (n' c' : Nat) (w : World) (hw : BytesIn w A n c) (hw2 : BytesIn w A' n' c') : Calls Try.prog 10 #[.slice A n c, .slice A' n' c'] w (Yes w) := by
  obtain ⟨hnc, hcm, hcode⟩ := hw
  obtain ⟨hnc2, hcm2, hcode2⟩ := hw2
  unfold maxLen at hcm hcm2
  have HC := hide hcode
  have HC2 := hide hcode2
  clear hcode hcode2
  by_cases hn : 1048576 < n
  · go_enter Try.func10, Try.ntmps10
    go_wp2
    go_ret
    exact ⟨rfl, Below.refl _ _⟩
  by_cases hn' : 1048576 < n'
  · go_enter Try.func10, Try.ntmps10
    go_wp2
    go_ret
    exact ⟨rfl, Below.refl _ _⟩
  · go_enter Try.func10, Try.ntmps10
    go_wp2_with fail
    refine (dExprAccepts_any w n c A _ (unhide HC) (Nat.le_refl _) hnc (by omega)).mono ?_
    rintro r w1 ⟨a, A1, n1, c1, s, rfl, hl, hsl, hs9, hb1⟩
    have HLN := Lib.hid hsl.1.1
    have F_a0 := hide hsl
    clear hsl
    go_wp2_with fail
    refine (dSimplifyExpr_any w1 n' c' A' w.heap.size ((unhide HC2).keep fun b o h => hb1.cell (p := ⟨b, o, none⟩) h) hb1.size hnc2 (by omega)).mono ?_
    rintro r w2 ⟨b, A2, n2, c2, rfl, hl2, hsl2, hb2⟩
    have HLM := Lib.hid hsl2.1.1
    have F_a := hide ((unhide F_a0).up hb2)
    have F_b := hide hsl2
    have hbb2 := hb1.trans (hb2.mono hb1.size)
    clear hsl2
    go_wp2_with fail
    refine (implExprAccepts_any _ _ _ _ _ s (unhide F_a).1 (by unfold maxLen; omega)).mono ?_
    rintro r w11 ⟨ok, rfl, hE_ok, hb11⟩
    have a_11 := hide ((unhide F_a).up hb11)
    have b_11 := hide ((unhide F_b).up hb11)
    have hbb11 := hbb2.trans (hb11.mono hbb2.size)
    go_wp2_with fail
    refine (specExprAccepts_any _ _ _ _ _ s (unhide a_11).1 (by omega) (by unfold maxLen; omega)).mono ?_
    rintro r w12 ⟨ok2, rfl, hE_ok2, hb12⟩
    have a_12 := hide ((unhide a_11).up hb12)
    have b_12 := hide ((unhide b_11).up hb12)
    have hbb12 := hbb11.trans (hb12.mono hbb11.size)
    obtain rfl : ok2 = ok := hE_ok2.uniq hE_ok
    have hne : (ok2 != ok2) = false := by simp
    go_wp2_with fail
    refine (specExprValid_any _ _ _ _ _ (unhide a_12).1 (by omega)).mono ?_
    rintro r w13 ⟨rfl, hb13⟩
    have a_13 := hide ((unhide a_12).up hb13)
    have b_13 := hide ((unhide b_12).up hb13)
    have hbb13 := hbb12.trans (hb13.mono hbb12.size)
    rcases hv : exprB a
    · go_wp2_with fail
      refine (alive_any _).mono ?_
      rintro r w99 ⟨rfl, rfl⟩
      go_wp2
      go_ret
      exact ⟨rfl, hbb13⟩
    go_wp2_with fail
    refine (specExprValid_any _ _ _ _ _ (unhide b_13).1 (by omega)).mono ?_
    rintro r w14 ⟨rfl, hb14⟩
    have a_14 := hide ((unhide a_13).up hb14)
    have b_14 := hide ((unhide b_13).up hb14)
    have hbb14 := hbb13.trans (hb14.mono hbb13.size)
    rcases hv2 : exprB b
    · go_wp2_with fail
      refine (alive_any _).mono ?_
      rintro r w99 ⟨rfl, rfl⟩
      go_wp2
      go_ret
      exact ⟨rfl, hbb14⟩
    obtain ⟨t, hg, hfe, hs60⟩ := exprB_iff.1 hv
    obtain ⟨u, hgu, hfu, hu60⟩ := exprB_iff.1 hv2
    have hsz : t.sz ≤ 16 := by have h1 := HLN.out; rw [← hfe, Ex.flat_length] at h1; omega
    have hszu : u.sz ≤ 16 := by have h1 := HLM.out; rw [← hfu, Ex.flat_length] at h1; omega
    have hn16 : n1 ≤ 16 := by have h1 := HLN.out; rw [← hfe, Ex.flat_length] at h1; omega
    have hm16 : n2 ≤ 16 := by have h1 := HLM.out; rw [← hfu, Ex.flat_length] at h1; omega
    have TJ_a : Opq (t.flat = a) := ⟨hfe⟩
    have TJ_b : Opq (u.flat = b) := ⟨hfu⟩
    clear hfe hs60 hfu hu60 hv hv2
    have hb15 : Below w14.heap.size w14 (w14.alloc (.cells #[.int .i64 3, .int .i64 1] 37)) := (Below.refl _ _).alloc (Nat.le_refl _) _
    have a_15 := hide ((unhide a_14).up hb15)
    have b_15 := hide ((unhide b_14).up hb15)
    have hbb15 := hbb14.trans (hb15.mono hbb14.size)
    have F_c := hide (SL.one1 w14 3 1)
    have TJ_c : Opq (Ex.flat (.leaf 3 1) = [((3 : Int), (1 : Int))]) := ⟨rfl⟩
    go_wp2_with fail
    refine (two_list 5 _ _ TJ_b TJ_c (unhide b_15) (unhide F_c) (by omega) (by omega)).mono ?_
    intro r w16 hd16
    generalize hJ_bc : (Ex.flat (.bin 5 (u) (.leaf 3 1))) = bc at hd16
    have hl_bc : bc.length ≤ 60 := by rw [← hJ_bc, Ex.flat_length]; simp only [Ex.sz]; omega
    obtain ⟨A16, c16, rfl, hsl16, -, hb16⟩ := hd16.sl (by omega)
    have TJ_bc : Opq (Ex.flat (.bin 5 (u) (.leaf 3 1)) = bc) := ⟨hJ_bc⟩
    clear hd16 hJ_bc
    have a_16 := hide ((unhide a_15).up hb16)
    have b_16 := hide ((unhide b_15).up hb16)
    have c_16 := hide ((unhide F_c).up hb16)
    have hbb16 := hbb15.trans (hb16.mono hbb15.size)
    have F_bc := hide hsl16
    clear hsl16
    go_wp2_with fail
    refine (two_list 4 _ _ TJ_a TJ_bc (unhide a_16) (unhide F_bc) (by omega) (by omega)).mono ?_
    intro r w17 hd17
    generalize hJ_x : (Ex.flat (.bin 4 (t) (.bin 5 (u) (.leaf 3 1)))) = x at hd17
    have hl_x : x.length ≤ 60 := by rw [← hJ_x, Ex.flat_length]; simp only [Ex.sz]; omega
    obtain ⟨A17, c17, rfl, hsl17, -, hb17⟩ := hd17.sl (by omega)
    have TJ_x : Opq (Ex.flat (.bin 4 (t) (.bin 5 (u) (.leaf 3 1))) = x) := ⟨hJ_x⟩
    clear hd17 hJ_x
    have a_17 := hide ((unhide a_16).up hb17)
    have b_17 := hide ((unhide b_16).up hb17)
    have c_17 := hide ((unhide c_16).up hb17)
    have bc_17 := hide ((unhide F_bc).up hb17)
    have hbb17 := hbb16.trans (hb17.mono hbb16.size)
    have F_x := hide hsl17
    clear hsl17
    go_wp2_with fail
    refine (two_list 4 _ _ TJ_a TJ_b (unhide a_17) (unhide b_17) (by omega) (by omega)).mono ?_
    intro r w18 hd18
    generalize hJ_y1 : (Ex.flat (.bin 4 (t) (u))) = y1 at hd18
    have hl_y1 : y1.length ≤ 60 := by rw [← hJ_y1, Ex.flat_length]; simp only [Ex.sz]; omega
    obtain ⟨A18, c18, rfl, hsl18, -, hb18⟩ := hd18.sl (by omega)
    have TJ_y1 : Opq (Ex.flat (.bin 4 (t) (u)) = y1) := ⟨hJ_y1⟩
    clear hd18 hJ_y1
    have a_18 := hide ((unhide a_17).up hb18)
    have b_18 := hide ((unhide b_17).up hb18)
    have c_18 := hide ((unhide c_17).up hb18)
    have bc_18 := hide ((unhide bc_17).up hb18)
    have x_18 := hide ((unhide F_x).up hb18)
    have hbb18 := hbb17.trans (hb18.mono hbb17.size)
    have F_y1 := hide hsl18
    clear hsl18
    go_wp2_with fail
    refine (two_list 4 _ _ TJ_a TJ_c (unhide a_18) (unhide c_18) (by omega) (by omega)).mono ?_
    intro r w19 hd19
    generalize hJ_y2 : (Ex.flat (.bin 4 (t) (.leaf 3 1))) = y2 at hd19
    have hl_y2 : y2.length ≤ 60 := by rw [← hJ_y2, Ex.flat_length]; simp only [Ex.sz]; omega
    obtain ⟨A19, c19, rfl, hsl19, -, hb19⟩ := hd19.sl (by omega)
    have TJ_y2 : Opq (Ex.flat (.bin 4 (t) (.leaf 3 1)) = y2) := ⟨hJ_y2⟩
    clear hd19 hJ_y2
    have a_19 := hide ((unhide a_18).up hb19)
    have b_19 := hide ((unhide b_18).up hb19)
    have c_19 := hide ((unhide c_18).up hb19)
    have bc_19 := hide ((unhide bc_18).up hb19)
    have x_19 := hide ((unhide x_18).up hb19)
    have y1_19 := hide ((unhide F_y1).up hb19)
    have hbb19 := hbb18.trans (hb19.mono hbb18.size)
    have F_y2 := hide hsl19
    clear hsl19
    go_wp2_with fail
    refine (two_list 5 _ _ TJ_y1 TJ_y2 (unhide y1_19) (unhide F_y2) (by omega) (by omega)).mono ?_
    intro r w20 hd20
    generalize hJ_y : (Ex.flat (.bin 5 (.bin 4 (t) (u)) (.bin 4 (t) (.leaf 3 1)))) = y at hd20
    have hl_y : y.length ≤ 60 := by rw [← hJ_y, Ex.flat_length]; simp only [Ex.sz]; omega
    obtain ⟨A20, c20, rfl, hsl20, -, hb20⟩ := hd20.sl (by omega)
    have TJ_y : Opq (Ex.flat (.bin 5 (.bin 4 (t) (u)) (.bin 4 (t) (.leaf 3 1))) = y) := ⟨hJ_y⟩
    clear hd20 hJ_y
    have a_20 := hide ((unhide a_19).up hb20)
    have b_20 := hide ((unhide b_19).up hb20)
    have c_20 := hide ((unhide c_19).up hb20)
    have bc_20 := hide ((unhide bc_19).up hb20)
    have x_20 := hide ((unhide x_19).up hb20)
    have y1_20 := hide ((unhide y1_19).up hb20)
    have y2_20 := hide ((unhide F_y2).up hb20)
    have hbb20 := hbb19.trans (hb20.mono hbb19.size)
    have F_y := hide hsl20
    clear hsl20
    have hvx := valid_of TJ_x (by simp [Ex.good, hg, hgu]) (by (try simp only [Ex.sz]); omega)
    go_wp2_with fail
    refine (specExprValid_any _ _ _ _ _ (unhide x_20).1 (by omega)).mono ?_
    rintro r w21 ⟨rfl, hb21⟩
    rw [hvx]
    have a_21 := hide ((unhide a_20).up hb21)
    have b_21 := hide ((unhide b_20).up hb21)
    have c_21 := hide ((unhide c_20).up hb21)
    have bc_21 := hide ((unhide bc_20).up hb21)
    have x_21 := hide ((unhide x_20).up hb21)
    have y1_21 := hide ((unhide y1_20).up hb21)
    have y2_21 := hide ((unhide y2_20).up hb21)
    have y_21 := hide ((unhide F_y).up hb21)
    have hbb21 := hbb20.trans (hb21.mono hbb20.size)
    have hvy := valid_of TJ_y (by simp [Ex.good, hg, hgu]) (by (try simp only [Ex.sz]); omega)
    go_wp2_with fail
    refine (specExprValid_any _ _ _ _ _ (unhide y_21).1 (by omega)).mono ?_
    rintro r w22 ⟨rfl, hb22⟩
    rw [hvy]
    have a_22 := hide ((unhide a_21).up hb22)
    have b_22 := hide ((unhide b_21).up hb22)
    have c_22 := hide ((unhide c_21).up hb22)
    have bc_22 := hide ((unhide bc_21).up hb22)
    have x_22 := hide ((unhide x_21).up hb22)
    have y1_22 := hide ((unhide y1_21).up hb22)
    have y2_22 := hide ((unhide y2_21).up hb22)
    have y_22 := hide ((unhide y_21).up hb22)
    have hbb22 := hbb21.trans (hb22.mono hbb21.size)
    go_wp2_with fail
    refine (implExprAccepts_any _ _ _ _ _ s (unhide x_22).1 (by unfold maxLen; omega)).mono ?_
    rintro r w23 ⟨b1, rfl, hE_b1, hb23⟩
    have a_23 := hide ((unhide a_22).up hb23)
    have b_23 := hide ((unhide b_22).up hb23)
    have c_23 := hide ((unhide c_22).up hb23)
    have bc_23 := hide ((unhide bc_22).up hb23)
    have x_23 := hide ((unhide x_22).up hb23)
    have y1_23 := hide ((unhide y1_22).up hb23)
    have y2_23 := hide ((unhide y2_22).up hb23)
    have y_23 := hide ((unhide y_22).up hb23)
    have hbb23 := hbb22.trans (hb23.mono hbb22.size)
    go_wp2_with fail
    refine (implExprAccepts_any _ _ _ _ _ s (unhide y_23).1 (by unfold maxLen; omega)).mono ?_
    rintro r w24 ⟨b2, rfl, hE_b2, hb24⟩
    have a_24 := hide ((unhide a_23).up hb24)
    have b_24 := hide ((unhide b_23).up hb24)
    have c_24 := hide ((unhide c_23).up hb24)
    have bc_24 := hide ((unhide bc_23).up hb24)
    have x_24 := hide ((unhide x_23).up hb24)
    have y1_24 := hide ((unhide y1_23).up hb24)
    have y2_24 := hide ((unhide y2_23).up hb24)
    have y_24 := hide ((unhide y_23).up hb24)
    have hbb24 := hbb23.trans (hb24.mono hbb23.size)
    obtain rfl : b1 = b2 := eacc_eq hE_b1 hE_b2 TJ_x TJ_y (by simp [Ex.good, hg, hgu]) (by simp [Ex.good, hg, hgu]) (by (try simp only [Ex.sz]); omega) (by (try simp only [Ex.sz]); omega) (Ex.acc_je t u _ _)
    have heq_b1 : (b1 == b1) = true := by simp
    go_wp2_with fail
    refine (alive_any _).mono ?_
    rintro r w99 ⟨rfl, rfl⟩
    go_wp2
    go_ret
    exact ⟨rfl, hbb24⟩
set_option maxHeartbeats 4000000 in
theorem wFnNotEither (A : Option Addr) (n c : Nat) (A' : Option Addr) (n' c' : Nat) (w : World) (hw : BytesIn w A n c) (hw2 : BytesIn w A' n' c') : Calls Try.prog 12 #[.slice A n c, .slice A' n' c'] w (Yes w) := by
  obtain ⟨hnc, hcm, hcode⟩ := hw
  obtain ⟨hnc2, hcm2, hcode2⟩ := hw2
  unfold maxLen at hcm hcm2
  have HC := hide hcode
  have HC2 := hide hcode2
  clear hcode hcode2
  by_cases hn : 1048576 < n
  · go_enter Try.func12, Try.ntmps12
    go_wp2
    go_ret
    exact ⟨rfl, Below.refl _ _⟩
  by_cases hn' : 1048576 < n'
  · go_enter Try.func12, Try.ntmps12
    go_wp2
    go_ret
    exact ⟨rfl, Below.refl _ _⟩
  · go_enter Try.func12, Try.ntmps12
    go_wp2_with fail
    refine (dExprAccepts_any w n c A _ (unhide HC) (Nat.le_refl _) hnc (by omega)).mono ?_
    rintro r w1 ⟨a, A1, n1, c1, s, rfl, hl, hsl, hs9, hb1⟩
    have HLN := Lib.hid hsl.1.1
    have F_a0 := hide hsl
    clear hsl
    go_wp2_with fail
    refine (dSimplifyExpr_any w1 n' c' A' w.heap.size ((unhide HC2).keep fun b o h => hb1.cell (p := ⟨b, o, none⟩) h) hb1.size hnc2 (by omega)).mono ?_
    rintro r w2 ⟨b, A2, n2, c2, rfl, hl2, hsl2, hb2⟩
    have HLM := Lib.hid hsl2.1.1
    have F_a := hide ((unhide F_a0).up hb2)
    have F_b := hide hsl2
    have hbb2 := hb1.trans (hb2.mono hb1.size)
    clear hsl2
    go_wp2_with fail
    refine (implExprAccepts_any _ _ _ _ _ s (unhide F_a).1 (by unfold maxLen; omega)).mono ?_
    rintro r w11 ⟨ok, rfl, hE_ok, hb11⟩
    have a_11 := hide ((unhide F_a).up hb11)
    have b_11 := hide ((unhide F_b).up hb11)
    have hbb11 := hbb2.trans (hb11.mono hbb2.size)
    go_wp2_with fail
    refine (specExprAccepts_any _ _ _ _ _ s (unhide a_11).1 (by omega) (by unfold maxLen; omega)).mono ?_
    rintro r w12 ⟨ok2, rfl, hE_ok2, hb12⟩
    have a_12 := hide ((unhide a_11).up hb12)
    have b_12 := hide ((unhide b_11).up hb12)
    have hbb12 := hbb11.trans (hb12.mono hbb11.size)
    obtain rfl : ok2 = ok := hE_ok2.uniq hE_ok
    have hne : (ok2 != ok2) = false := by simp
    go_wp2_with fail
    refine (specExprValid_any _ _ _ _ _ (unhide a_12).1 (by omega)).mono ?_
    rintro r w13 ⟨rfl, hb13⟩
    have a_13 := hide ((unhide a_12).up hb13)
    have b_13 := hide ((unhide b_12).up hb13)
    have hbb13 := hbb12.trans (hb13.mono hbb12.size)
    rcases hv : exprB a
    · go_wp2_with fail
      refine (alive_any _).mono ?_
      rintro r w99 ⟨rfl, rfl⟩
      go_wp2
      go_ret
      exact ⟨rfl, hbb13⟩
    go_wp2_with fail
    refine (specExprValid_any _ _ _ _ _ (unhide b_13).1 (by omega)).mono ?_
    rintro r w14 ⟨rfl, hb14⟩
    have a_14 := hide ((unhide a_13).up hb14)
    have b_14 := hide ((unhide b_13).up hb14)
    have hbb14 := hbb13.trans (hb14.mono hbb13.size)
    rcases hv2 : exprB b
    · go_wp2_with fail
      refine (alive_any _).mono ?_
      rintro r w99 ⟨rfl, rfl⟩
      go_wp2
      go_ret
      exact ⟨rfl, hbb14⟩
    obtain ⟨t, hg, hfe, hs60⟩ := exprB_iff.1 hv
    obtain ⟨u, hgu, hfu, hu60⟩ := exprB_iff.1 hv2
    have hsz : t.sz ≤ 16 := by have h1 := HLN.out; rw [← hfe, Ex.flat_length] at h1; omega
    have hszu : u.sz ≤ 16 := by have h1 := HLM.out; rw [← hfu, Ex.flat_length] at h1; omega
    have hn16 : n1 ≤ 16 := by have h1 := HLN.out; rw [← hfe, Ex.flat_length] at h1; omega
    have hm16 : n2 ≤ 16 := by have h1 := HLM.out; rw [← hfu, Ex.flat_length] at h1; omega
    have TJ_a : Opq (t.flat = a) := ⟨hfe⟩
    have TJ_b : Opq (u.flat = b) := ⟨hfu⟩
    clear hfe hs60 hfu hu60 hv hv2
    go_wp2_with fail
    refine (two_list 5 _ _ TJ_a TJ_b (unhide a_14) (unhide b_14) (by omega) (by omega)).mono ?_
    intro r w15 hd15
    generalize hJ_x1 : (Ex.flat (.bin 5 (t) (u))) = x1 at hd15
    have hl_x1 : x1.length ≤ 60 := by rw [← hJ_x1, Ex.flat_length]; simp only [Ex.sz]; omega
    obtain ⟨A15, c15, rfl, hsl15, -, hb15⟩ := hd15.sl (by omega)
    have TJ_x1 : Opq (Ex.flat (.bin 5 (t) (u)) = x1) := ⟨hJ_x1⟩
    clear hd15 hJ_x1
    have a_15 := hide ((unhide a_14).up hb15)
    have b_15 := hide ((unhide b_14).up hb15)
    have hbb15 := hbb14.trans (hb15.mono hbb14.size)
    have F_x1 := hide hsl15
    clear hsl15
    go_wp2_with fail
    refine (one_list 7 _ TJ_x1 (unhide F_x1) (by omega)).mono ?_
    intro r w16 hd16
    generalize hJ_x : (Ex.flat (.un 7 (.bin 5 (t) (u)))) = x at hd16
    have hl_x : x.length ≤ 60 := by rw [← hJ_x, Ex.flat_length]; simp only [Ex.sz]; omega
    obtain ⟨A16, c16, rfl, hsl16, -, hb16⟩ := hd16.sl (by omega)
    have TJ_x : Opq (Ex.flat (.un 7 (.bin 5 (t) (u))) = x) := ⟨hJ_x⟩
    clear hd16 hJ_x
    have a_16 := hide ((unhide a_15).up hb16)
    have b_16 := hide ((unhide b_15).up hb16)
    have x1_16 := hide ((unhide F_x1).up hb16)
    have hbb16 := hbb15.trans (hb16.mono hbb15.size)
    have F_x := hide hsl16
    clear hsl16
    go_wp2_with fail
    refine (one_list 7 _ TJ_a (unhide a_16) (by omega)).mono ?_
    intro r w17 hd17
    generalize hJ_y1 : (Ex.flat (.un 7 (t))) = y1 at hd17
    have hl_y1 : y1.length ≤ 60 := by rw [← hJ_y1, Ex.flat_length]; simp only [Ex.sz]; omega
    obtain ⟨A17, c17, rfl, hsl17, -, hb17⟩ := hd17.sl (by omega)
    have TJ_y1 : Opq (Ex.flat (.un 7 (t)) = y1) := ⟨hJ_y1⟩
    clear hd17 hJ_y1
    have a_17 := hide ((unhide a_16).up hb17)
    have b_17 := hide ((unhide b_16).up hb17)
    have x1_17 := hide ((unhide x1_16).up hb17)
    have x_17 := hide ((unhide F_x).up hb17)
    have hbb17 := hbb16.trans (hb17.mono hbb16.size)
    have F_y1 := hide hsl17
    clear hsl17
    go_wp2_with fail
    refine (one_list 7 _ TJ_b (unhide b_17) (by omega)).mono ?_
    intro r w18 hd18
    generalize hJ_y2 : (Ex.flat (.un 7 (u))) = y2 at hd18
    have hl_y2 : y2.length ≤ 60 := by rw [← hJ_y2, Ex.flat_length]; simp only [Ex.sz]; omega
    obtain ⟨A18, c18, rfl, hsl18, -, hb18⟩ := hd18.sl (by omega)
    have TJ_y2 : Opq (Ex.flat (.un 7 (u)) = y2) := ⟨hJ_y2⟩
    clear hd18 hJ_y2
    have a_18 := hide ((unhide a_17).up hb18)
    have b_18 := hide ((unhide b_17).up hb18)
    have x1_18 := hide ((unhide x1_17).up hb18)
    have x_18 := hide ((unhide x_17).up hb18)
    have y1_18 := hide ((unhide F_y1).up hb18)
    have hbb18 := hbb17.trans (hb18.mono hbb17.size)
    have F_y2 := hide hsl18
    clear hsl18
    go_wp2_with fail
    refine (two_list 6 _ _ TJ_y1 TJ_y2 (unhide y1_18) (unhide F_y2) (by omega) (by omega)).mono ?_
    intro r w19 hd19
    generalize hJ_y : (Ex.flat (.bin 6 (.un 7 (t)) (.un 7 (u)))) = y at hd19
    have hl_y : y.length ≤ 60 := by rw [← hJ_y, Ex.flat_length]; simp only [Ex.sz]; omega
    obtain ⟨A19, c19, rfl, hsl19, -, hb19⟩ := hd19.sl (by omega)
    have TJ_y : Opq (Ex.flat (.bin 6 (.un 7 (t)) (.un 7 (u))) = y) := ⟨hJ_y⟩
    clear hd19 hJ_y
    have a_19 := hide ((unhide a_18).up hb19)
    have b_19 := hide ((unhide b_18).up hb19)
    have x1_19 := hide ((unhide x1_18).up hb19)
    have x_19 := hide ((unhide x_18).up hb19)
    have y1_19 := hide ((unhide y1_18).up hb19)
    have y2_19 := hide ((unhide F_y2).up hb19)
    have hbb19 := hbb18.trans (hb19.mono hbb18.size)
    have F_y := hide hsl19
    clear hsl19
    have hvx := valid_of TJ_x (by simp [Ex.good, hg, hgu]) (by (try simp only [Ex.sz]); omega)
    go_wp2_with fail
    refine (specExprValid_any _ _ _ _ _ (unhide x_19).1 (by omega)).mono ?_
    rintro r w20 ⟨rfl, hb20⟩
    rw [hvx]
    have a_20 := hide ((unhide a_19).up hb20)
    have b_20 := hide ((unhide b_19).up hb20)
    have x1_20 := hide ((unhide x1_19).up hb20)
    have x_20 := hide ((unhide x_19).up hb20)
    have y1_20 := hide ((unhide y1_19).up hb20)
    have y2_20 := hide ((unhide y2_19).up hb20)
    have y_20 := hide ((unhide F_y).up hb20)
    have hbb20 := hbb19.trans (hb20.mono hbb19.size)
    have hvy := valid_of TJ_y (by simp [Ex.good, hg, hgu]) (by (try simp only [Ex.sz]); omega)
    go_wp2_with fail
    refine (specExprValid_any _ _ _ _ _ (unhide y_20).1 (by omega)).mono ?_
    rintro r w21 ⟨rfl, hb21⟩
    rw [hvy]
    have a_21 := hide ((unhide a_20).up hb21)
    have b_21 := hide ((unhide b_20).up hb21)
    have x1_21 := hide ((unhide x1_20).up hb21)
    have x_21 := hide ((unhide x_20).up hb21)
    have y1_21 := hide ((unhide y1_20).up hb21)
    have y2_21 := hide ((unhide y2_20).up hb21)
    have y_21 := hide ((unhide y_20).up hb21)
    have hbb21 := hbb20.trans (hb21.mono hbb20.size)
    go_wp2_with fail
    refine (implExprAccepts_any _ _ _ _ _ s (unhide x_21).1 (by unfold maxLen; omega)).mono ?_
    rintro r w22 ⟨b1, rfl, hE_b1, hb22⟩
    have a_22 := hide ((unhide a_21).up hb22)
    have b_22 := hide ((unhide b_21).up hb22)
    have x1_22 := hide ((unhide x1_21).up hb22)
    have x_22 := hide ((unhide x_21).up hb22)
    have y1_22 := hide ((unhide y1_21).up hb22)
    have y2_22 := hide ((unhide y2_21).up hb22)
    have y_22 := hide ((unhide y_21).up hb22)
    have hbb22 := hbb21.trans (hb22.mono hbb21.size)
    go_wp2_with fail
    refine (implExprAccepts_any _ _ _ _ _ s (unhide y_22).1 (by unfold maxLen; omega)).mono ?_
    rintro r w23 ⟨b2, rfl, hE_b2, hb23⟩
    have a_23 := hide ((unhide a_22).up hb23)
    have b_23 := hide ((unhide b_22).up hb23)
    have x1_23 := hide ((unhide x1_22).up hb23)
    have x_23 := hide ((unhide x_22).up hb23)
    have y1_23 := hide ((unhide y1_22).up hb23)
    have y2_23 := hide ((unhide y2_22).up hb23)
    have y_23 := hide ((unhide y_22).up hb23)
    have hbb23 := hbb22.trans (hb23.mono hbb22.size)
    obtain rfl : b1 = b2 := eacc_eq hE_b1 hE_b2 TJ_x TJ_y (by simp [Ex.good, hg, hgu]) (by simp [Ex.good, hg, hgu]) (by (try simp only [Ex.sz]); omega) (by (try simp only [Ex.sz]); omega) (Ex.acc_ne t u _)
    have heq_b1 : (b1 == b1) = true := by simp
    go_wp2_with fail
    refine (alive_any _).mono ?_
    rintro r w99 ⟨rfl, rfl⟩
    go_wp2
    go_ret
    exact ⟨rfl, hbb23⟩
end Go.Proofs.Ytgcggmlekmjpdaa

