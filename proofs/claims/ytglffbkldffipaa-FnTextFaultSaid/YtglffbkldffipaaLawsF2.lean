/-
  The walk of the law on the text of either of two expressions.
-/
import Derived.Test.YtglffbkldffipaaPrint2
import Derived.Test.YtglffbkldffipaaDrawL
import Derived.Lib.Bytes
namespace Go.Proofs.Ytglffbkldffipaa
open Go.RowKit
set_option linter.unusedVariables false
set_option maxRecDepth 100000

theorem TxR.bad {e : List Pt} {X : ByteArray} (h : TxR e X) (hv : exprB e = false) : X = ⟨#[]⟩ := TxR.uniq h ⟨.inl ⟨hv, rfl⟩, by decide⟩
theorem TxR.tree {e : List Pt} {X : ByteArray} (h : TxR e X) (hv : exprB e = true) : ∃ t : Ex, t.good ∧ t.flat = e ∧ t.sz ≤ 60 ∧ X.data.toList = t.txt := by
  rcases h.1 with ⟨h1, -⟩ | ⟨t, hg, hf, hs, hX⟩
  · rw [hv] at h1; cases h1
  · exact ⟨t, hg, hf, hs, hX⟩
theorem ne_empty {l : List UInt8} (h : ¬ l = []) : l.isEmpty = false := by cases l with | nil => exact absurd rfl h | cons a b => rfl
theorem TxR.full {e : List Pt} {X : ByteArray} (h : TxR e X) (hv : exprB e = true) : ¬ X.toList = [] := by
  obtain ⟨t, -, -, -, hX⟩ := h.tree hv
  have h1 := t.txt_len.2
  rw [← hX] at h1
  intro h2
  rw [Lib.toList_data] at h2
  rw [h2] at h1
  simp at h1
/-- The text of either. -/
theorem either_text {a b : List Pt} {X Y Z : ByteArray} (hX : TxR a X) (hY : TxR b Y) (hZ : TxR (a ++ b ++ [(5, 0)]) Z) (ha : exprB a = true) (hb : exprB b = true) (he : exprB (a ++ b ++ [(5, 0)]) = true)
    (hk : ∀ t : Ex, t.flat = b → t.good → t.kind ≠ 5) : Z = X ++ ⟨#[124]⟩ ++ Y := by
  obtain ⟨t, hgt, hft, hst, hXt⟩ := hX.tree ha
  obtain ⟨u, hgu, hfu, hsu, hYu⟩ := hY.tree hb
  obtain ⟨v, hgv, hfv, hsv, hZv⟩ := hZ.tree he
  have hg : (Ex.bin 5 t u).good := ⟨.inr (.inl rfl), hgt, hgu⟩
  have hv : v = Ex.bin 5 t u := Ex.flat_inj hgv hg (by rw [hfv, Ex.flat, hft, hfu])
  subst hv
  have h1 : u.br 1 = u.txt := Ex.br_low (by
    have h5 := hk u hfu hgu
    have : levK u.kind ≠ 0 := by
      unfold levK
      rw [if_neg h5]
      repeat (first | omega | split)
    omega)
  apply ByteArray.ext
  apply Array.ext'
  rw [hZv, Ex.txt_bin]
  show t.br 0 ++ [124] ++ u.br 1 = _
  rw [Ex.br_zero, h1, ByteArray.data_append, ByteArray.data_append, Array.toList_append, Array.toList_append, hXt, hYu]
set_option maxHeartbeats 8000000 in
theorem wFnTextEither (A : Option Addr) (n c : Nat) (A' : Option Addr) (n' c' : Nat) (w : World) (hw : BytesIn w A n c) (hw2 : BytesIn w A' n' c') : Calls Try.prog 5 #[.slice A n c, .slice A' n' c'] w (Yes w) := by
  obtain ⟨hnc, hcm, hcode⟩ := hw
  obtain ⟨hnc2, hcm2, hcode2⟩ := hw2
  unfold maxLen at hcm hcm2
  have HC := hide hcode
  have HC2 := hide hcode2
  clear hcode hcode2
  by_cases hn : 1048576 < n
  · go_enter Try.func5, Try.ntmps5
    go_wp2
    go_ret
    exact ⟨rfl, Below.refl _ _⟩
  by_cases hn' : 1048576 < n'
  · go_enter Try.func5, Try.ntmps5
    go_wp2
    go_ret
    exact ⟨rfl, Below.refl _ _⟩
  · go_enter Try.func5, Try.ntmps5
    go_wp2_with fail
    refine (dExprText_any w n c A _ (unhide HC) (Nat.le_refl _) hnc (by omega)).mono ?_
    rintro r w1 ⟨a, A1, n1, c1, rfl, hl1, hsl1, hb1⟩
    have F_a := hide hsl1
    have HLA := Lib.hid hsl1.1.1
    clear hsl1
    go_wp2_with fail
    refine (dExprText_any _ n' c' A' w.heap.size ((unhide HC2).keep fun b o h => hb1.cell (p := ⟨b, o, none⟩) h) hb1.size hnc2 (by omega)).mono ?_
    rintro r w2 ⟨b, A2, n2, c2, rfl, hl2, hsl2, hb2⟩
    have hbb2 := hb1.trans (hb2.mono hb1.size)
    have a_2 := hide ((unhide F_a).up hb2)
    have F_b := hide hsl2
    have HLB := Lib.hid hsl2.1.1
    clear hsl2 F_a
    go_wp2_with fail
    refine (implExprText_any _ _ _ _ a (unhide a_2).1 (by omega) (unhide a_2).2.1 (unhide a_2).2.2.1).mono ?_
    rintro r w3 ⟨X, rfl, hX, hb3⟩
    have hbb3 := hbb2.trans (hb3.mono hbb2.size)
    have a_3 := hide ((unhide a_2).up hb3)
    have b_3 := hide ((unhide F_b).up hb3)
    have HX := Lib.hid hX
    have hXs := hX.2
    clear hX a_2 F_b
    go_wp2_with fail
    refine (specExprText_any _ _ _ _ a (unhide a_3).1 (by omega) (unhide a_3).2.1 (unhide a_3).2.2.1).mono ?_
    rintro r w4 ⟨X', rfl, hX', hb4⟩
    obtain rfl : X = X' := TxR.uniq HX.out hX'
    have hbb4 := hbb3.trans (hb4.mono hbb3.size)
    have a_4 := hide ((unhide a_3).up hb4)
    have b_4 := hide ((unhide b_3).up hb4)
    clear hX' a_3 b_3
    go_wp2_with fail
    refine (two_any _ 5 _ _ _ _ _ _ a b (unhide a_4) (unhide b_4) (by omega) (by omega)).mono ?_
    intro r w5 hd5
    have hl_e : (a ++ b ++ [((5 : Int), (0 : Int))]).length ≤ 200 := by simp [HLA.out, HLB.out]; omega
    obtain ⟨A5, c5, rfl, hsl5, -, hb5⟩ := hd5.sl (by omega)
    generalize hJ : a ++ b ++ [((5 : Int), (0 : Int))] = e at *
    have HJ := Lib.hid hJ
    have hbb5 := hbb4.trans (hb5.mono hbb4.size)
    have b_5 := hide ((unhide b_4).up hb5)
    have F_e := hide hsl5
    clear hd5 hsl5 hJ a_4 b_4
    rcases hva : exprB a
    · have hX0 := Lib.hid (TxR.bad HX.out hva)
      have hxe : X.toList = [] := by rw [hX0.out, Lib.toList_data]
      go_wp2_with fail
      refine (alive_any _).mono ?_
      rintro r w99 ⟨rfl, rfl⟩
      go_wp2
      go_ret
      exact ⟨rfl, hbb5⟩
    have hxe := TxR.full HX.out hva
    have hxe2 : X.toList.isEmpty = false := ne_empty hxe
    have HVA := Lib.hid hva
    clear hva
    rcases hvb : exprB b
    · go_wp2_with (first | (go_at_call 15; refine (implExprText_any _ _ _ _ b (unhide b_5).1 (by omega) (unhide b_5).2.1 (unhide b_5).2.2.1).mono ?_; rintro r w6 ⟨Y, rfl, hY, hb6⟩; have hye : Y.toList = [] := by (rw [TxR.bad hY hvb, Lib.toList_data])))
      refine (alive_any _).mono ?_
      rintro r w99 ⟨rfl, rfl⟩
      go_wp2
      go_ret
      exact ⟨rfl, hbb5.trans (hb6.mono hbb5.size)⟩
    have HVB := Lib.hid hvb
    clear hvb
    rcases hve : exprB e
    · go_wp2_with (first
        | (go_at_call 15; refine (implExprText_any _ _ _ _ b (unhide b_5).1 (by omega) (unhide b_5).2.1 (unhide b_5).2.2.1).mono ?_; rintro r w6 ⟨Y, rfl, hY, hb6⟩; have hye := TxR.full hY HVB.out; have hye2 : Y.toList.isEmpty = false := ne_empty hye)
        | (go_at_call 19; refine (specExprValid_any _ _ _ _ e ((unhide F_e).up hb6).1 (by omega)).mono ?_; rintro r w7 ⟨rfl, hb7⟩; rw [hve]))
      refine (alive_any _).mono ?_
      rintro r w99 ⟨rfl, rfl⟩
      go_wp2
      go_ret
      exact ⟨rfl, hbb5.trans ((hb6.trans (hb7.mono hb6.size)).mono hbb5.size)⟩
    have HVE := Lib.hid hve
    clear hve
    obtain ⟨t, hg, hft, hst⟩ := exprB_iff.1 HVB.out
    have hpsb := (unhide b_5).1
    rw [← hft] at hpsb
    obtain ⟨bb, off, m, hA, hbB, hnm, hm, hk, hlt⟩ := hpsb.last
    subst hA
    have HT := Lib.hid hft
    have HNM := Lib.hid hnm
    have i0 : (0 : Int) ≤ (m : Int) := Int.natCast_nonneg _
    have i1 : (m : Int) < (n2 : Int) := by omega
    have n2' : 1 ≤ n2 := by omega
    clear hpsb hft hnm
    obtain ⟨K, hK⟩ : ∃ K, t.kind = K := ⟨_, rfl⟩
    rw [hK] at hk
    have HK := Lib.hid hK
    clear hK hlt
    have hcell : ∀ W, Below w5.heap.size w5 W → W.cell? ⟨bb, off + m * 2, none⟩ = some (.int .i64 K) := fun W h => (h.cell (p := ⟨bb, off + m * 2, none⟩) hbB).trans hk
    clear hk
    by_cases hK5 : K = 5
    · subst hK5
      go_wp2_with (first
        | (go_at_call 15; refine (implExprText_any _ _ _ _ b (unhide b_5).1 (by omega) (unhide b_5).2.1 (unhide b_5).2.2.1).mono ?_; rintro r w6 ⟨Y, rfl, hY, hb6⟩; have hye := TxR.full hY HVB.out; have hye2 : Y.toList.isEmpty = false := ne_empty hye)
        | (go_at_call 19; refine (specExprValid_any _ _ _ _ e ((unhide F_e).up hb6).1 (by omega)).mono ?_; rintro r w7 ⟨rfl, hb7⟩; rw [HVE.out]; have hc7 := hcell w7 (hb6.trans (hb7.mono hb6.size))))
      refine (alive_any _).mono ?_
      rintro r w99 ⟨rfl, rfl⟩
      go_wp2
      go_ret
      exact ⟨rfl, hbb5.trans ((hb6.trans (hb7.mono hb6.size)).mono hbb5.size)⟩
    · have hK5' : (K == 5) = false := by simpa using hK5
      go_wp2_with (first
        | (go_at_call 15; refine (implExprText_any _ _ _ _ b (unhide b_5).1 (by omega) (unhide b_5).2.1 (unhide b_5).2.2.1).mono ?_; rintro r w6 ⟨Y, rfl, hY, hb6⟩; have hye := TxR.full hY HVB.out; have hye2 : Y.toList.isEmpty = false := ne_empty hye)
        | (go_at_call 19; refine (specExprValid_any _ _ _ _ e ((unhide F_e).up hb6).1 (by omega)).mono ?_; rintro r w7 ⟨rfl, hb7⟩; rw [HVE.out]; have hc7 := hcell w7 (hb6.trans (hb7.mono hb6.size))))
      have hb67 := hb6.trans (hb7.mono hb6.size)
      have hbb7 := hbb5.trans (hb67.mono hbb5.size)
      have e_7 := hide ((unhide F_e).up hb67)
      have b_7 := hide ((unhide b_5).up hb67)
      refine (implExprText_any _ _ _ _ e (unhide e_7).1 (by omega) (unhide e_7).2.1 (unhide e_7).2.2.1).mono ?_
      rintro r w8 ⟨Z, rfl, hZ, hb8⟩
      have hbb8 := hbb7.trans (hb8.mono hbb7.size)
      have b_8 := hide ((unhide b_7).up hb8)
      go_wp2_with fail
      refine (implExprText_any _ _ _ _ b (unhide b_8).1 (by omega) (unhide b_8).2.1 (unhide b_8).2.2.1).mono ?_
      rintro r w9 ⟨Y', rfl, hY', hb9⟩
      have hYs := hY'.2
      obtain rfl : Z = X ++ ⟨#[124]⟩ ++ Y' := either_text HX.out hY' (by rw [HJ.out]; exact hZ) HVA.out HVB.out (by rw [HJ.out]; exact HVE.out) (fun u hu hgu h5 => hK5 (by rw [← HK.out, Ex.flat_inj hg hgu (HT.out.trans hu.symm), h5]))
      clear hZ hY'
      go_wp2
      go_ret
      exact ⟨rfl, hbb8.trans (hb9.mono hbb8.size)⟩
end Go.Proofs.Ytglffbkldffipaa
