/-
  The walks of the laws on drawn expressions: depth, the empty word, the operands, validity.
-/
import Derived.Test.YtdilcpeckkpdhaaDrawL
import Derived.Test.YtdilcpeckkpdhaaEmpty2
import Derived.Test.YtdilcpeckkpdhaaOper2
namespace Go.Proofs.Ytdilcpeckkpdhaa
open Go.RowKit
set_option linter.unusedVariables false
set_option maxRecDepth 100000

theorem exprB_len {e : List Pt} (h : exprB e = true) : e.length ≤ 60 := by
  simp [exprB] at h; omega
theorem DepI.none {x : List Pt} {d : Int} (h : DepI x d) (hx : x = []) : d = -1 := by
  rcases h with ⟨-, h⟩ | ⟨t, hg, hf, -, -⟩
  · exact h
  · exfalso
    have := Ex.flat_length t
    have := Ex.sz_pos t
    rw [hf, hx] at *
    simp at *
    omega
theorem DepI.low {x : List Pt} {d : Int} (h : DepI x d) : -1 ≤ d := by
  rcases h with ⟨-, h⟩ | ⟨t, -, -, -, h⟩ <;> omega
theorem DepI.tree {t : Ex} {d : Int} (hg : t.good) (hs : t.sz ≤ 60) (h : DepI t.flat d) : d = t.dep := DepI.uniq h (.inr ⟨t, hg, rfl, hs, rfl⟩)
theorem OpR.tree {t : Ex} {k : Nat} {x : List Pt} (hg : t.good) (hs : t.sz ≤ 60) (h : OpR k t.flat x) : x = t.opd k := OpR.uniq h (.inr ⟨t, hg, rfl, hs, rfl⟩)
theorem dep_opd {t : Ex} {x y : List Pt} {a b : Int} (hg : t.good) (hs : t.sz ≤ 60) (hx : OpR 0 t.flat x) (hy : OpR 1 t.flat y) (ha : DepI x a) (hb : DepI y b) : (t.dep : Int) = 1 + max a b := by
  have h1 := OpR.tree hg hs hx
  have h2 := OpR.tree hg hs hy
  subst h1; subst h2
  cases t with
  | leaf k l =>
    have := ha.none (by rfl)
    have := hb.none (by rfl)
    simp [Ex.dep]; omega
  | un k u =>
    simp only [Ex.sz] at hs
    have := DepI.tree (t := u) hg.2 (by omega) ha
    have := hb.none (by rfl)
    simp only [Ex.dep]; omega
  | bin k u v =>
    simp only [Ex.sz] at hs
    have := DepI.tree (t := u) hg.2.1 (by omega) ha
    have := DepI.tree (t := v) hg.2.2 (by omega) hb
    simp only [Ex.dep]; omega

set_option maxHeartbeats 2000000 in
theorem wFnExprDepth (A : Option Addr) (n c : Nat) (w : World) (hw : BytesIn w A n c) : Calls Try.prog 11 #[.slice A n c] w (Yes w) := by
  obtain ⟨hnc, hcm, hcode⟩ := hw
  unfold maxLen at hcm
  have HC := hide hcode
  clear hcode
  by_cases hn : 1048576 < n
  · go_enter Try.func11, Try.ntmps11
    go_wp2
    go_ret
    exact ⟨rfl, Below.refl _ _⟩
  · go_enter Try.func11, Try.ntmps11
    go_wp2_with fail
    refine (dExprDepth_any w n c A _ (unhide HC) (Nat.le_refl _) hnc (by omega)).mono ?_
    rintro r w1 ⟨e, A1, n1, c1, rfl, hl, hsl, hb1⟩
    have hln := hsl.1.1
    have HS := hide hsl
    clear hsl
    go_wp2_with fail
    refine (implDepth_all _ _ _ _ e (unhide HS).1 (by omega) (unhide HS).2.1 (unhide HS).2.2.1).mono ?_
    rintro r w2 ⟨d, rfl, hd, hb2⟩
    have hbb2 := hb1.trans (hb2.mono hb1.size)
    have HS2 := hide ((unhide HS).up hb2)
    go_wp2_with fail
    refine (specDepth_all _ _ _ _ e (unhide HS2).1 (by omega) (unhide HS).2.1 (unhide HS).2.2.1).mono ?_
    rintro r w3 ⟨d', rfl, hd', hb3⟩
    have hbb3 := hbb2.trans (hb3.mono hbb2.size)
    have HS3 := hide ((unhide HS2).up hb3)
    obtain rfl := DepI.uniq hd hd'
    clear hd'
    rcases hd with ⟨hx, rfl⟩ | ⟨t, hg, rfl, hs, rfl⟩
    · go_wp2_with fail
      refine (alive_any _).mono ?_
      rintro r w4 ⟨rfl, rfl⟩
      go_wp2
      go_ret
      exact ⟨rfl, hbb3⟩
    · have h0 : (0 : Int) ≤ (t.dep : Int) := Int.natCast_nonneg _
      have hlt : (t.dep : Int) < (n1 : Int) := by have := t.dep_lt; rw [Ex.flat_length] at hln; omega
      clear hln
      go_wp2_with fail
      refine (implFirst_all _ _ _ _ _ (unhide HS3).1 (unhide HS).2.1 (unhide HS).2.2.1).mono ?_
      rintro r w4 ⟨x, hx, hd4⟩
      have hxl := hx.len
      obtain ⟨Ax, cx, rfl, hslx, -, hb4⟩ := hd4.sl (by omega)
      have hbb4 := hbb3.trans (hb4.mono hbb3.size)
      have HS4 := hide ((unhide HS3).up hb4)
      have HX := hide hslx
      clear hslx hd4
      go_wp2_with fail
      refine (implDepth_all _ _ _ _ x (unhide HX).1 (by omega) (unhide HX).2.1 (unhide HX).2.2.1).mono ?_
      rintro r w5 ⟨a, rfl, ha, hb5⟩
      have hbb5 := hbb4.trans (hb5.mono hbb4.size)
      have HS5 := hide ((unhide HS4).up hb5)
      go_wp2_with fail
      refine (implSecond_all _ _ _ _ _ (unhide HS5).1 (unhide HS).2.1 (unhide HS).2.2.1).mono ?_
      rintro r w6 ⟨y, hy, hd6⟩
      have hyl := hy.len
      obtain ⟨Ay, cy, rfl, hsly, -, hb6⟩ := hd6.sl (by omega)
      have hbb6 := hbb5.trans (hb6.mono hbb5.size)
      have HY := hide hsly
      clear hsly hd6
      go_wp2_with fail
      refine (implDepth_all _ _ _ _ y (unhide HY).1 (by omega) (unhide HY).2.1 (unhide HY).2.2.1).mono ?_
      rintro r w7 ⟨b, rfl, hb, hb7⟩
      have hbb7 := hbb6.trans (hb7.mono hbb6.size)
      have hfin := dep_opd hg hs hx hy ha hb
      have ha0 := ha.low
      have hb0 := hb.low
      have h61 : (t.dep : Int) < 60 := by have := t.dep_lt; omega
      have hwa : b ≤ a → wrap64 (1 + a) = t.dep := fun h => by unfold wrap64; omega
      have hwb : ¬ b ≤ a → wrap64 (1 + b) = t.dep := fun h => by unfold wrap64; omega
      have H1 := Lib.hid hwa
      have H2 := Lib.hid hwb
      clear hfin ha hb hx hy hwa hwb
      go_wp2
      all_goals
        go_ret
        exact ⟨ret_bool (by first | (rw [H1.out (by omega)]; simp) | (rw [H2.out (by omega)]; simp)), hbb7⟩

theorem opd_shape {t : Ex} {x : List Pt} (hg : t.good) (hs : t.sz ≤ 60) (hx : OpR 1 t.flat x) : (x = [] ∧ t.ar ≠ 2) ∨ (x ≠ [] ∧ t.ar = 2 ∧ exprB x = true) := by
  have h1 := OpR.tree hg hs hx
  subst h1
  cases t with
  | leaf k l => exact .inl ⟨rfl, by simp [Ex.ar]⟩
  | un k u => exact .inl ⟨rfl, by simp [Ex.ar]⟩
  | bin k u v =>
    simp only [Ex.sz] at hs
    refine .inr ⟨?_, rfl, exprB_flat hg.2.2 (by omega)⟩
    intro h
    have := Ex.flat_length v
    have h2 := Ex.sz_pos v
    have h3 : v.flat = [] := h
    rw [h3] at this
    simp at this
    omega

set_option maxHeartbeats 2000000 in
theorem wFnSecondOperand (A : Option Addr) (n c : Nat) (w : World) (hw : BytesIn w A n c) : Calls Try.prog 12 #[.slice A n c] w (Yes w) := by
  obtain ⟨hnc, hcm, hcode⟩ := hw
  unfold maxLen at hcm
  have HC := hide hcode
  clear hcode
  by_cases hn : 1048576 < n
  · go_enter Try.func12, Try.ntmps12
    go_wp2
    go_ret
    exact ⟨rfl, Below.refl _ _⟩
  · go_enter Try.func12, Try.ntmps12
    go_wp2_with fail
    refine (dSecondOperand_any w n c A _ (unhide HC) (Nat.le_refl _) hnc (by omega)).mono ?_
    rintro r w1 ⟨e, A1, n1, c1, rfl, hl, hsl, hb1⟩
    have HLN := Lib.hid hsl.1.1
    have HS := hide hsl
    clear hsl
    go_wp2_with fail
    refine (implSecond_all _ _ _ _ e (unhide HS).1 (unhide HS).2.1 (unhide HS).2.2.1).mono ?_
    rintro r w2 ⟨x, hx, hd2⟩
    have hxl := hx.len
    obtain ⟨Ax, cx, rfl, hslx, -, hb2⟩ := hd2.sl (by omega)
    have hbb2 := hb1.trans (hb2.mono hb1.size)
    have HS2 := hide ((unhide HS).up hb2)
    have HX := hide hslx
    clear hslx hd2
    go_wp2_with fail
    refine (specSecond_all _ _ _ _ e (unhide HS2).1 (by omega) (unhide HS).2.1 (unhide HS).2.2.1).mono ?_
    rintro r w3 ⟨y, hy, hd3⟩
    obtain rfl := OpR.uniq hy hx
    obtain ⟨Ay, cy, rfl, hsly, -, hb3⟩ := hd3.sl (by omega)
    have hbb3 := hbb2.trans (hb3.mono hbb2.size)
    have HS3 := hide ((unhide HS2).up hb3)
    have HX3 := hide ((unhide HX).up hb3)
    have HY := hide hsly
    clear hsly hd3 hy
    go_wp2_with fail
    refine (sameParts_any _ _ _ _ _ _ _ y y (unhide HX3).1 (unhide HY).1 (by omega) (by omega)).mono ?_
    rintro r w4 ⟨rfl, hb4⟩
    have hdd : decide (y = y) = true := by simp
    rw [hdd]
    clear hdd
    have hbb4 := hbb3.trans (hb4.mono hbb3.size)
    have HS4 := hide ((unhide HS3).up hb4)
    have HX4 := hide ((unhide HX3).up hb4)
    go_wp2_with fail
    refine (specExprValid_any _ _ _ _ e (unhide HS4).1 (by omega)).mono ?_
    rintro r w5 ⟨rfl, hb5⟩
    have hbb5 := hbb4.trans (hb5.mono hbb4.size)
    have HS5 := hide ((unhide HS4).up hb5)
    have HX5 := hide ((unhide HX4).up hb5)
    rcases hv : exprB e
    · have hy0 : y = [] := OpR.uniq hx (.inl ⟨hv, rfl⟩)
      subst hy0
      go_wp2_with fail
      refine (alive_any _).mono ?_
      rintro r w6 ⟨rfl, rfl⟩
      go_wp2
      go_ret
      exact ⟨rfl, hbb5⟩
    · obtain ⟨t, hg, rfl, hs⟩ := exprB_iff.1 hv
      have hsh := opd_shape hg hs hx
      obtain ⟨b, off, m, rfl, hbB, hnm, hm, hk, hlt⟩ := (unhide HS5).1.last
      have hpn := Lib.hid (Ex.pn_ar hg)
      have HNM := Lib.hid hnm
      have i0 : (0 : Int) ≤ (m : Int) := Int.natCast_nonneg _
      have i1 : (m : Int) < (n1 : Int) := by omega
      have HX0 := hide hx
      clear hx hnm
      obtain ⟨K, hK⟩ : ∃ K, t.kind = K := ⟨_, rfl⟩
      obtain ⟨L, hL⟩ : ∃ L, t.lett = L := ⟨_, rfl⟩
      rw [hK] at hk hpn
      rw [hL] at hlt hpn
      have HK := Lib.hid hK
      have HL := Lib.hid hL
      clear hK hL hv
      rcases hsh with ⟨rfl, har⟩ | ⟨hne, har, hvx⟩
      · have hp2 : (pnI K L == 2) = false := by rw [hpn.out]; simp; omega
        go_wp2_with fail
        refine (implPartNeeds_any _ _ _).mono ?_
        rintro r w6 ⟨rfl, hb6⟩
        go_wp2
        go_ret
        exact ⟨rfl, hbb5.trans (hb6.mono hbb5.size)⟩
      · have hp2 : pnI K L = 2 := by rw [hpn.out, har]; rfl
        have hy1 : 0 < y.length := List.length_pos_iff.2 hne
        have HVX := Lib.hid hvx
        clear hvx
        go_wp2_with fail
        refine (implPartNeeds_any _ _ _).mono ?_
        rintro r w6 ⟨rfl, hb6⟩
        have hbb6 := hbb5.trans (hb6.mono hbb5.size)
        have HX6 := hide ((unhide HX5).up hb6)
        go_wp2_with fail
        refine (implExprValid_any _ _ _ _ _ (unhide HX6).1).mono ?_
        rintro r w7 ⟨rfl, hb7⟩
        rw [HVX.out]
        go_wp2
        go_ret
        exact ⟨rfl, hbb6.trans (hb7.mono hbb6.size)⟩

theorem EmpB.tree {t : Ex} {b : Bool} (hg : t.good) (hs : t.sz ≤ 60) (h : EmpB t.flat b) : b = t.emp := EmpB.uniq h (.inr ⟨t, hg, rfl, hs, rfl⟩)
theorem emp_join {k : Int} {e f : List Pt} {a b c : Bool} (hk : k = 4 ∨ k = 5) (he : exprB e = true) (hf : exprB f = true) (hv : exprB (e ++ f ++ [(4, 0)]) = true) (ha : EmpB e a) (hb : EmpB f b) (hc : EmpB (e ++ f ++ [(k, 0)]) c) : c = if k = 5 then a || b else a && b := by
  obtain ⟨t, hg, rfl, hs⟩ := exprB_iff.1 he
  obtain ⟨u, hg2, rfl, hs2⟩ := exprB_iff.1 hf
  have hl := exprB_len hv
  rw [List.length_append, List.length_append, Ex.flat_length, Ex.flat_length, List.length_singleton] at hl
  have hc' : EmpB (Ex.bin k t u).flat c := hc
  have h1 := EmpB.tree (t := .bin k t u) ⟨by omega, hg, hg2⟩ (by simp only [Ex.sz]; omega) hc'
  rw [h1, EmpB.tree hg hs ha, EmpB.tree hg2 hs2 hb]
  rfl
theorem or_not_not (a b c : Bool) : (a = true ∧ b = true ∧ c = true) ∨ a = false ∨ (a = true ∧ b = false) ∨ (a = true ∧ b = true ∧ c = false) := by cases a <;> cases b <;> cases c <;> simp

set_option maxHeartbeats 2000000 in
theorem wFnEmptyJoin (A : Option Addr) (n c : Nat) (A2 : Option Addr) (n2 c2 : Nat) (w : World) (hw : BytesIn w A n c) (hw2 : BytesIn w A2 n2 c2) : Calls Try.prog 9 #[.slice A n c, .slice A2 n2 c2] w (Yes w) := by
  obtain ⟨hnc, hcm, hcode⟩ := hw
  obtain ⟨hnc2, hcm2, hcode2⟩ := hw2
  unfold maxLen at hcm hcm2
  have HC := hide hcode
  have HC2 := hide hcode2
  clear hcode hcode2
  by_cases hn : 1048576 < n
  · go_enter Try.func9, Try.ntmps9
    go_wp2
    go_ret
    exact ⟨rfl, Below.refl _ _⟩
  by_cases hn2 : 1048576 < n2
  · go_enter Try.func9, Try.ntmps9
    go_wp2
    go_ret
    exact ⟨rfl, Below.refl _ _⟩
  · go_enter Try.func9, Try.ntmps9
    go_wp2_with fail
    refine (dHasEmpty_any w n c A _ (unhide HC) (Nat.le_refl _) hnc (by omega)).mono ?_
    rintro r w1 ⟨e, A1, n1, c1, rfl, hl, hsl, hb1⟩
    have HLN := Lib.hid hsl.1.1
    have HS := hide hsl
    have HC21 := hide ((unhide HC2).below (Nat.le_refl _) hb1)
    clear hsl
    go_wp2_with fail
    refine (dHasEmpty_any w1 n2 c2 A2 _ (unhide HC21) hb1.size hnc2 (by omega)).mono ?_
    rintro r w2 ⟨f, Af, nf, cf, rfl, hlf, hslf, hb2⟩
    have HLF := Lib.hid hslf.1.1
    have HF := hide hslf
    have HS2 := hide ((unhide HS).up hb2)
    have hbb2 := hb1.trans (hb2.mono hb1.size)
    clear hslf
    go_wp2_with fail
    refine (implEmpty_all _ _ _ _ e (unhide HS2).1 (by omega) (unhide HS).2.1 (unhide HS).2.2.1).mono ?_
    rintro r w3 ⟨a, rfl, ha, hb3⟩
    have HS3 := hide ((unhide HS2).up hb3)
    have HF3 := hide ((unhide HF).up hb3)
    have hbb3 := hbb2.trans (hb3.mono hbb2.size)
    go_wp2_with fail
    refine (specEmpty_all _ _ _ _ e (unhide HS3).1 (by omega) (unhide HS).2.1 (unhide HS).2.2.1).mono ?_
    rintro r w4 ⟨a', rfl, ha', hb4⟩
    obtain rfl := EmpB.uniq ha' ha
    clear ha'
    have HS4 := hide ((unhide HS3).up hb4)
    have HF4 := hide ((unhide HF3).up hb4)
    have hbb4 := hbb3.trans (hb4.mono hbb3.size)
    have hane : (a' != a') = false := by simp
    go_wp2_with fail
    refine (two_any _ 4 _ _ _ _ _ _ e f (unhide HS4) (unhide HF4) (by omega) (by omega)).mono ?_
    intro r w5 hd5
    obtain ⟨A5, c5, rfl, hsl5, -, hb5⟩ := hd5.sl (by simp [HLN.out, HLF.out]; omega)
    have HS5 := hide ((unhide HS4).up hb5)
    have HF5 := hide ((unhide HF4).up hb5)
    have HJ5 := hide hsl5
    have hbb5 := hbb4.trans (hb5.mono hbb4.size)
    have hjl : (e ++ f ++ [((4 : Int), (0 : Int))]).length ≤ 1000000000 := by simp [HLN.out, HLF.out]; omega
    generalize hJ : e ++ f ++ [((4 : Int), (0 : Int))] = j at *
    have HJ := Lib.hid hJ
    clear hd5 hsl5 hJ
    go_wp2_with fail
    refine (specExprValid_any _ _ _ _ j (unhide HJ5).1 hjl).mono ?_
    rintro r w6 ⟨rfl, hb6⟩
    have HS6 := hide ((unhide HS5).up hb6)
    have HF6 := hide ((unhide HF5).up hb6)
    have HJ6 := hide ((unhide HJ5).up hb6)
    have hbb6 := hbb5.trans (hb6.mono hbb5.size)
    rcases hvj : exprB j
    · go_wp2_with fail
      refine (alive_any _).mono ?_
      rintro r w7 ⟨rfl, rfl⟩
      go_wp2
      go_ret
      exact ⟨rfl, hbb6⟩
    go_wp2_with fail
    refine (specExprValid_any _ _ _ _ e (unhide HS6).1 (by omega)).mono ?_
    rintro r w7 ⟨rfl, hb7⟩
    have HS7 := hide ((unhide HS6).up hb7)
    have HF7 := hide ((unhide HF6).up hb7)
    have hbb7 := hbb6.trans (hb7.mono hbb6.size)
    rcases hve : exprB e
    · go_wp2_with fail
      refine (alive_any _).mono ?_
      rintro r w8 ⟨rfl, rfl⟩
      go_wp2
      go_ret
      exact ⟨rfl, hbb7⟩
    go_wp2_with fail
    refine (specExprValid_any _ _ _ _ f (unhide HF7).1 (by omega)).mono ?_
    rintro r w8 ⟨rfl, hb8⟩
    have HS8 := hide ((unhide HS7).up hb8)
    have HF8 := hide ((unhide HF7).up hb8)
    have hbb8 := hbb7.trans (hb8.mono hbb7.size)
    rcases hvf : exprB f
    · go_wp2_with fail
      refine (alive_any _).mono ?_
      rintro r w9 ⟨rfl, rfl⟩
      go_wp2
      go_ret
      exact ⟨rfl, hbb8⟩
    have HVJ := Lib.hid hvj
    have HVE := Lib.hid hve
    have HVF := Lib.hid hvf
    go_wp2_with fail
    refine (implEmpty_all _ _ _ _ f (unhide HF8).1 (by omega) (unhide HF).2.1 (unhide HF).2.2.1).mono ?_
    rintro r w9 ⟨b, rfl, hb, hb9⟩
    have HS9 := hide ((unhide HS8).up hb9)
    have HF9 := hide ((unhide HF8).up hb9)
    have hbb9 := hbb8.trans (hb9.mono hbb8.size)
    have HA := Lib.hid ha
    have HB := Lib.hid hb
    clear ha hb
    go_wp2_with fail
    refine (two_any _ 4 _ _ _ _ _ _ e f (unhide HS9) (unhide HF9) (by omega) (by omega)).mono ?_
    intro r w10 hd10
    rw [HJ.out] at hd10
    obtain ⟨A10, c10, rfl, hsl10, -, hb10⟩ := hd10.sl hjl
    have HS10 := hide ((unhide HS9).up hb10)
    have HF10 := hide ((unhide HF9).up hb10)
    have hbb10 := hbb9.trans (hb10.mono hbb9.size)
    have HJ10 := hide hsl10
    clear hsl10 hd10
    go_wp2_with fail
    refine (implEmpty_all _ _ _ _ j (unhide HJ10).1 hjl (unhide HJ10).2.1 (unhide HJ10).2.2.1).mono ?_
    rintro r w11 ⟨d, rfl, hd, hb11⟩
    have HS11 := hide ((unhide HS10).up hb11)
    have HF11 := hide ((unhide HF10).up hb11)
    have hbb11 := hbb10.trans (hb11.mono hbb10.size)
    obtain rfl : d = (a' && b) := by
      have h1 := HVJ.out
      rw [← HJ.out] at hd h1
      exact emp_join (.inl rfl) HVE.out HVF.out h1 HA.out HB.out hd
    clear hd
    cases a' <;> cases b
    all_goals
      go_wp2_with fail
      refine (two_any _ 5 _ _ _ _ _ _ e f (unhide HS11) (unhide HF11) (by omega) (by omega)).mono ?_
      intro r w12 hd12
      have hkl : (e ++ f ++ [((5 : Int), (0 : Int))]).length ≤ 1000000000 := by simp [HLN.out, HLF.out]; omega
      obtain ⟨A12, c12, rfl, hsl12, -, hb12⟩ := hd12.sl hkl
      have hbb12 := hbb11.trans (hb12.mono hbb11.size)
      have HJ12 := hide hsl12
      generalize hJ : e ++ f ++ [((5 : Int), (0 : Int))] = k at *
      have HK := Lib.hid hJ
      clear hsl12 hd12 hJ
      go_wp2_with fail
      refine (implEmpty_all _ _ _ _ k (unhide HJ12).1 hkl (unhide HJ12).2.1 (unhide HJ12).2.2.1).mono ?_
      rintro r w13 ⟨d, rfl, hd, hb13⟩
      have hd' := by
        have h1 := HVJ.out
        rw [← HJ.out] at h1
        rw [← HK.out] at hd
        exact emp_join (.inr rfl) HVE.out HVF.out h1 HA.out HB.out hd
      simp at hd'
      subst hd'
      go_wp2
      go_ret
      exact ⟨rfl, hbb12.trans (hb13.mono hbb12.size)⟩
end Go.Proofs.Ytdilcpeckkpdhaa
