/-
  Simplified expressions: the reference's walk.
-/
import Derived.Test.YtadibjjjdbglaaaSimpS1
namespace Go.Proofs.Ytadibjjjdbglaaa
open Go.RowKit
set_option linter.unusedVariables false
set_option maxRecDepth 100000

theorem mk1_len (k : Int) (a : Ex) (h : a.sz ≤ 59) : (Ex.mk1 k a.simp).flat.length ≤ 60 := by
  have := Ex.mk1_sz k a.simp; have := Ex.simp_sz a; rw [Ex.flat_length]; omega
theorem mk_len (k : Int) (x y : Ex) (h : x.sz + y.sz + 1 ≤ 60) : (Ex.mk k x.simp y.simp).flat.length ≤ 60 := by
  have := Ex.mk_sz k x.simp y.simp; have := Ex.simp_sz x; have := Ex.simp_sz y; rw [Ex.flat_length]; omega
set_option maxHeartbeats 4000000 in
theorem l5Simple_any (t : Ex) : ∀ (w : World) (A : Option Addr) (n c : Nat) (hg : t.good) (h : PS w w.heap.size A n t.flat) (hn : n ≤ 60) (hc : n ≤ c) (hcm : c ≤ maxLen),
    Calls Try.prog 53 #[.slice A n c] w (OwnD w t.simp.flat) := by
  induction t with
  | leaf kd l =>
    intro w A n c hg h hn hc hcm
    obtain ⟨b, off, m, rfl, hbB, hnm, hm, hk, hl⟩ := h.last
    simp only [Ex.kind, Ex.lett] at hk hl
    have n1 : 1 ≤ n := by omega
    have HH := hide h
    have HNM := Lib.hid hnm
    have hkd : kd = 1 ∨ kd = 2 ∨ kd = 3 := by rcases hg with ⟨h | h, _⟩ | ⟨h, _⟩ <;> omega
    have HKD := hide hkd
    clear h hnm hkd
    go_enter Try.func53, Try.ntmps53
    go_wp2_with fail
    refine (l2Split_any _ _ _ _ _ hg (unhide HH) (by omega) hc hcm).mono ?_
    rintro r wl ⟨g1, g2, rfl, hbl⟩
    have hc0 := (hbl.cell (p := ⟨b, off + m * 2, none⟩) hbB).trans hk
    have hc1 := (hbl.cell (p := ⟨b, off + m * 2 + 1, none⟩) hbB).trans hl
    have hbw : b < wl.heap.size := by have := hbl.size; omega
    clear hk hl
    go_wp2_with fail
    have hO0 := own_empty wl w.heap.size 45 hbl.size
    have hbE := hbl.alloc hbl.size (.cells #[] 45)
    have HO0 := hide hO0
    clear hO0
    refine (l5Make_leaf _ kd l (unhide HKD) _ _ _ _ SL.empty SL.empty).mono ?_
    intro r w8 hd
    have hlen8 := Lib.hid (show [(kd, l)].length ≤ 60 from by simp)
    obtain ⟨A8, n8, c8, rfl, h8, hb8⟩ := (OwnD.ret hd (by simp)).opn
    have hn8 : n8 ≤ 60 := by have := h8.1.1; have := hlen8.out; omega
    have hbb8 := hbE.trans (hb8.mono hbE.size)
    have HO8 := hide (own_keep (unhide HO0) hb8)
    have H8 := hide h8
    have HN8 := Lib.hid h8.1.1
    clear h8 hd
    go_wp2_with (at_builtin; go_must (refine wpList_append_parts rfl (.tmp 20) (.tmp 29) rfl w.heap.size w8.heap.size (.slice (some ⟨wl.heap.size, 0, none⟩) 0 0) 0 [] rfl (unhide HO8) A8 n8 c8 ([(kd, l)]) rfl (unhide H8).2.2.2 (unhide H8).1 ?_ ?_ ?_); go_must (omega); go_must (exact hbb8.size); go_must (intro v9 w9 hown9 hgrow9))
    go_ret
    refine ⟨v9, rfl, ?_, hbb8.grown hgrow9 hbb8.size (own_block (unhide HO8))⟩
    rw [show (Ex.simp (.leaf kd l)).flat.length = 0 + n8 by rw [Nat.zero_add]; exact HN8.out]
    rw [List.nil_append] at hown9
    exact hown9
  | un kd a ih =>
    intro w A n c hg h hn hc hcm
    obtain ⟨b, off, m, rfl, hbB, hnm, hm, hk, hl⟩ := h.last
    obtain ⟨l, hl0⟩ : ∃ l, (Ex.un kd a).lett = l := ⟨_, rfl⟩
    rw [hl0] at hl
    have hl1 : l = 0 := hl0.symm
    subst hl1
    simp only [Ex.kind] at hk
    have n1 : 1 ≤ n := by omega
    have HH := hide h
    have HNM := Lib.hid hnm
    have HPA := hide (PS.un h)
    have hla := h.len
    simp only [Ex.sz] at hla
    have a0 : 0 < a.sz := Ex.sz_pos a
    have a1' : a.sz ≤ 59 := by omega
    have a1 : a.sz ≤ 60 := by omega
    have a2 : a.sz ≤ c := by omega
    have hsl := Lib.hid (show a.simp.flat.length ≤ 60 by rw [Ex.flat_length]; exact Nat.le_trans (Ex.simp_sz a) a1)
    have HG := hide hg
    obtain ⟨hkd, hga⟩ := hg
    have hgs := Ex.simp_good hga
    clear h hnm hla hl0
    rcases hkd with rfl | rfl
    · go_enter Try.func53, Try.ntmps53
      go_wp2_with fail
      refine (l2Split_any _ _ _ _ _ (unhide HG) (unhide HH) (by omega) hc hcm).mono ?_
      rintro r w1 ⟨g2, rfl, hb⟩
      go_wp2_with fail
      refine (ih _ _ _ _ hga ((unhide HPA).up hb) a1 a2 hcm).mono ?_
      intro r wl hd
      obtain ⟨A2, n2, c2, rfl, h2, hb2⟩ := (OwnD.ret hd (Nat.le_trans hsl.out (by omega))).opn
      have hn2 : n2 ≤ 60 := by have := h2.1.1; have := hsl.out; omega
      have hbl := hb.trans (hb2.mono hb.size)
      have H2 := hide h2
      have hc0 := (hbl.cell (p := ⟨b, off + m * 2, none⟩) hbB).trans hk
      have hc1 := (hbl.cell (p := ⟨b, off + m * 2 + 1, none⟩) hbB).trans hl
      have hbw : b < wl.heap.size := by have := hbl.size; omega
      clear hk hl h2 hd
      go_wp2_with fail
      have hO0 := own_empty wl w.heap.size 45 hbl.size
      have hbE := hbl.alloc hbl.size (.cells #[] 45)
      have HO0 := hide hO0
      clear hO0
      refine (l5Make_7 _ hgs _ _ _ _ _ _ ((unhide H2).up ((Below.refl _ _).alloc (Nat.le_refl _) _)) SL.empty (by omega)).mono ?_
      intro r w8 hd
      have hlen8 := Lib.hid (show (Ex.sNot a.simp).flat.length ≤ 60 from by have := mk1_len 7 a a1'; exact this)
      obtain ⟨A8, n8, c8, rfl, h8, hb8⟩ := (hd).opn
      have hn8 : n8 ≤ 60 := by have := h8.1.1; have := hlen8.out; omega
      have hbb8 := hbE.trans (hb8.mono hbE.size)
      have HO8 := hide (own_keep (unhide HO0) hb8)
      have H8 := hide h8
      have HN8 := Lib.hid h8.1.1
      clear h8 hd
      go_wp2_with (at_builtin; go_must (refine wpList_append_parts rfl (.tmp 20) (.tmp 29) rfl w.heap.size w8.heap.size (.slice (some ⟨wl.heap.size, 0, none⟩) 0 0) 0 [] rfl (unhide HO8) A8 n8 c8 ((Ex.sNot a.simp).flat) rfl (unhide H8).2.2.2 (unhide H8).1 ?_ ?_ ?_); go_must (omega); go_must (exact hbb8.size); go_must (intro v9 w9 hown9 hgrow9))
      go_ret
      refine ⟨v9, rfl, ?_, hbb8.grown hgrow9 hbb8.size (own_block (unhide HO8))⟩
      rw [show (Ex.simp (.un 7 a)).flat.length = 0 + n8 by rw [Nat.zero_add]; exact HN8.out]
      rw [List.nil_append] at hown9
      exact hown9
    · go_enter Try.func53, Try.ntmps53
      go_wp2_with fail
      refine (l2Split_any _ _ _ _ _ (unhide HG) (unhide HH) (by omega) hc hcm).mono ?_
      rintro r w1 ⟨g2, rfl, hb⟩
      go_wp2_with fail
      refine (ih _ _ _ _ hga ((unhide HPA).up hb) a1 a2 hcm).mono ?_
      intro r wl hd
      obtain ⟨A2, n2, c2, rfl, h2, hb2⟩ := (OwnD.ret hd (Nat.le_trans hsl.out (by omega))).opn
      have hn2 : n2 ≤ 60 := by have := h2.1.1; have := hsl.out; omega
      have hbl := hb.trans (hb2.mono hb.size)
      have H2 := hide h2
      have hc0 := (hbl.cell (p := ⟨b, off + m * 2, none⟩) hbB).trans hk
      have hc1 := (hbl.cell (p := ⟨b, off + m * 2 + 1, none⟩) hbB).trans hl
      have hbw : b < wl.heap.size := by have := hbl.size; omega
      clear hk hl h2 hd
      go_wp2_with fail
      have hO0 := own_empty wl w.heap.size 45 hbl.size
      have hbE := hbl.alloc hbl.size (.cells #[] 45)
      have HO0 := hide hO0
      clear hO0
      refine (l5Make_8 _ hgs _ _ _ _ _ _ ((unhide H2).up ((Below.refl _ _).alloc (Nat.le_refl _) _)) SL.empty (by omega)).mono ?_
      intro r w8 hd
      have hlen8 := Lib.hid (show (Ex.sStar a.simp).flat.length ≤ 60 from by have := mk1_len 8 a a1'; exact this)
      obtain ⟨A8, n8, c8, rfl, h8, hb8⟩ := (hd).opn
      have hn8 : n8 ≤ 60 := by have := h8.1.1; have := hlen8.out; omega
      have hbb8 := hbE.trans (hb8.mono hbE.size)
      have HO8 := hide (own_keep (unhide HO0) hb8)
      have H8 := hide h8
      have HN8 := Lib.hid h8.1.1
      clear h8 hd
      go_wp2_with (at_builtin; go_must (refine wpList_append_parts rfl (.tmp 20) (.tmp 29) rfl w.heap.size w8.heap.size (.slice (some ⟨wl.heap.size, 0, none⟩) 0 0) 0 [] rfl (unhide HO8) A8 n8 c8 ((Ex.sStar a.simp).flat) rfl (unhide H8).2.2.2 (unhide H8).1 ?_ ?_ ?_); go_must (omega); go_must (exact hbb8.size); go_must (intro v9 w9 hown9 hgrow9))
      go_ret
      refine ⟨v9, rfl, ?_, hbb8.grown hgrow9 hbb8.size (own_block (unhide HO8))⟩
      rw [show (Ex.simp (.un 8 a)).flat.length = 0 + n8 by rw [Nat.zero_add]; exact HN8.out]
      rw [List.nil_append] at hown9
      exact hown9
  | bin kd x y ihx ihy =>
    intro w A n c hg h hn hc hcm
    obtain ⟨b, off, m, rfl, hbB, hnm, hm, hk, hl⟩ := h.last
    obtain ⟨l, hl0⟩ : ∃ l, (Ex.bin kd x y).lett = l := ⟨_, rfl⟩
    rw [hl0] at hl
    have hl1 : l = 0 := hl0.symm
    subst hl1
    simp only [Ex.kind] at hk
    have n1 : 1 ≤ n := by omega
    have HH := hide h
    have HNM := Lib.hid hnm
    have HPA := hide (PS.bin h)
    have hla := h.len
    simp only [Ex.sz] at hla
    have a0 : 0 < x.sz := Ex.sz_pos x
    have a1 : x.sz ≤ 60 := by omega
    have a2 : x.sz ≤ c := by omega
    have a3 : 0 < y.sz := Ex.sz_pos y
    have a4 : y.sz ≤ 60 := by omega
    have a5 : y.sz ≤ c - x.sz := by omega
    have a6 : c - x.sz ≤ maxLen := by omega
    have hslx := Lib.hid (show x.simp.flat.length ≤ 60 by rw [Ex.flat_length]; exact Nat.le_trans (Ex.simp_sz x) a1)
    have hsly := Lib.hid (show y.simp.flat.length ≤ 60 by rw [Ex.flat_length]; exact Nat.le_trans (Ex.simp_sz y) a4)
    have a7 : x.sz + y.sz + 1 ≤ 60 := by omega
    have HG := hide hg
    obtain ⟨hkd, hgx, hgy⟩ := hg
    clear h hnm hla hl0
    rcases hkd with rfl | rfl | rfl
    · go_enter Try.func53, Try.ntmps53
      go_wp2_with fail
      refine (l2Split_any _ _ _ _ _ (unhide HG) (unhide HH) (by omega) hc hcm).mono ?_
      rintro r w1 ⟨b', o', hA, rfl, hb⟩
      injection hA with hA
      injection hA with hA1 hA2
      subst hA1; subst hA2
      go_wp2_with fail
      refine (ihx _ _ _ _ hgx ((unhide HPA).1.up hb) a1 a2 hcm).mono ?_
      intro r w2 hd
      obtain ⟨A2, n2, c2, rfl, h2, hb2⟩ := (OwnD.ret hd (Nat.le_trans hslx.out (by omega))).opn
      have hn2 : n2 ≤ 60 := by have := h2.1.1; have := hslx.out; omega
      have hbb := hb.trans (hb2.mono hb.size)
      have H2 := hide h2
      clear h2 hd
      go_wp2_with fail
      refine (ihy _ _ _ _ hgy ((unhide HPA).2.up hbb) a4 a5 a6).mono ?_
      intro r wl hd
      obtain ⟨A3, n3, c3, rfl, h3, hb3⟩ := (OwnD.ret hd (Nat.le_trans hsly.out (by omega))).opn
      have hn3 : n3 ≤ 60 := by have := h3.1.1; have := hsly.out; omega
      have hbl := hbb.trans (hb3.mono hbb.size)
      have H3 := hide h3
      have H23 := hide ((unhide H2).up hb3)
      have hc0 := (hbl.cell (p := ⟨b, off + m * 2, none⟩) hbB).trans hk
      have hc1 := (hbl.cell (p := ⟨b, off + m * 2 + 1, none⟩) hbB).trans hl
      have hbw : b < wl.heap.size := by have := hbl.size; omega
      clear hk hl h3 hd
      go_wp2_with fail
      have hO0 := own_empty wl w.heap.size 45 hbl.size
      have hbE := hbl.alloc hbl.size (.cells #[] 45)
      have HO0 := hide hO0
      clear hO0
      refine (l5Make_4 _ _ _ _ _ _ _ _ _ ((unhide H23).up ((Below.refl _ _).alloc (Nat.le_refl _) _)) ((unhide H3).up ((Below.refl _ _).alloc (Nat.le_refl _) _)) (by omega) (by omega)).mono ?_
      intro r w8 hd
      have hlen8 := Lib.hid (show (Ex.sJoin x.simp y.simp).flat.length ≤ 60 from by have := mk_len 4 x y a7; exact this)
      obtain ⟨A8, n8, c8, rfl, h8, hb8⟩ := (hd).opn
      have hn8 : n8 ≤ 60 := by have := h8.1.1; have := hlen8.out; omega
      have hbb8 := hbE.trans (hb8.mono hbE.size)
      have HO8 := hide (own_keep (unhide HO0) hb8)
      have H8 := hide h8
      have HN8 := Lib.hid h8.1.1
      clear h8 hd
      go_wp2_with (at_builtin; go_must (refine wpList_append_parts rfl (.tmp 20) (.tmp 29) rfl w.heap.size w8.heap.size (.slice (some ⟨wl.heap.size, 0, none⟩) 0 0) 0 [] rfl (unhide HO8) A8 n8 c8 ((Ex.sJoin x.simp y.simp).flat) rfl (unhide H8).2.2.2 (unhide H8).1 ?_ ?_ ?_); go_must (omega); go_must (exact hbb8.size); go_must (intro v9 w9 hown9 hgrow9))
      go_ret
      refine ⟨v9, rfl, ?_, hbb8.grown hgrow9 hbb8.size (own_block (unhide HO8))⟩
      rw [show (Ex.simp (.bin 4 x y)).flat.length = 0 + n8 by rw [Nat.zero_add]; exact HN8.out]
      rw [List.nil_append] at hown9
      exact hown9
    · go_enter Try.func53, Try.ntmps53
      go_wp2_with fail
      refine (l2Split_any _ _ _ _ _ (unhide HG) (unhide HH) (by omega) hc hcm).mono ?_
      rintro r w1 ⟨b', o', hA, rfl, hb⟩
      injection hA with hA
      injection hA with hA1 hA2
      subst hA1; subst hA2
      go_wp2_with fail
      refine (ihx _ _ _ _ hgx ((unhide HPA).1.up hb) a1 a2 hcm).mono ?_
      intro r w2 hd
      obtain ⟨A2, n2, c2, rfl, h2, hb2⟩ := (OwnD.ret hd (Nat.le_trans hslx.out (by omega))).opn
      have hn2 : n2 ≤ 60 := by have := h2.1.1; have := hslx.out; omega
      have hbb := hb.trans (hb2.mono hb.size)
      have H2 := hide h2
      clear h2 hd
      go_wp2_with fail
      refine (ihy _ _ _ _ hgy ((unhide HPA).2.up hbb) a4 a5 a6).mono ?_
      intro r wl hd
      obtain ⟨A3, n3, c3, rfl, h3, hb3⟩ := (OwnD.ret hd (Nat.le_trans hsly.out (by omega))).opn
      have hn3 : n3 ≤ 60 := by have := h3.1.1; have := hsly.out; omega
      have hbl := hbb.trans (hb3.mono hbb.size)
      have H3 := hide h3
      have H23 := hide ((unhide H2).up hb3)
      have hc0 := (hbl.cell (p := ⟨b, off + m * 2, none⟩) hbB).trans hk
      have hc1 := (hbl.cell (p := ⟨b, off + m * 2 + 1, none⟩) hbB).trans hl
      have hbw : b < wl.heap.size := by have := hbl.size; omega
      clear hk hl h3 hd
      go_wp2_with fail
      have hO0 := own_empty wl w.heap.size 45 hbl.size
      have hbE := hbl.alloc hbl.size (.cells #[] 45)
      have HO0 := hide hO0
      clear hO0
      refine (l5Make_5 _ _ _ _ _ _ _ _ _ ((unhide H23).up ((Below.refl _ _).alloc (Nat.le_refl _) _)) ((unhide H3).up ((Below.refl _ _).alloc (Nat.le_refl _) _)) (by omega) (by omega)).mono ?_
      intro r w8 hd
      have hlen8 := Lib.hid (show (Ex.sEither x.simp y.simp).flat.length ≤ 60 from by have := mk_len 5 x y a7; exact this)
      obtain ⟨A8, n8, c8, rfl, h8, hb8⟩ := (hd).opn
      have hn8 : n8 ≤ 60 := by have := h8.1.1; have := hlen8.out; omega
      have hbb8 := hbE.trans (hb8.mono hbE.size)
      have HO8 := hide (own_keep (unhide HO0) hb8)
      have H8 := hide h8
      have HN8 := Lib.hid h8.1.1
      clear h8 hd
      go_wp2_with (at_builtin; go_must (refine wpList_append_parts rfl (.tmp 20) (.tmp 29) rfl w.heap.size w8.heap.size (.slice (some ⟨wl.heap.size, 0, none⟩) 0 0) 0 [] rfl (unhide HO8) A8 n8 c8 ((Ex.sEither x.simp y.simp).flat) rfl (unhide H8).2.2.2 (unhide H8).1 ?_ ?_ ?_); go_must (omega); go_must (exact hbb8.size); go_must (intro v9 w9 hown9 hgrow9))
      go_ret
      refine ⟨v9, rfl, ?_, hbb8.grown hgrow9 hbb8.size (own_block (unhide HO8))⟩
      rw [show (Ex.simp (.bin 5 x y)).flat.length = 0 + n8 by rw [Nat.zero_add]; exact HN8.out]
      rw [List.nil_append] at hown9
      exact hown9
    · go_enter Try.func53, Try.ntmps53
      go_wp2_with fail
      refine (l2Split_any _ _ _ _ _ (unhide HG) (unhide HH) (by omega) hc hcm).mono ?_
      rintro r w1 ⟨b', o', hA, rfl, hb⟩
      injection hA with hA
      injection hA with hA1 hA2
      subst hA1; subst hA2
      go_wp2_with fail
      refine (ihx _ _ _ _ hgx ((unhide HPA).1.up hb) a1 a2 hcm).mono ?_
      intro r w2 hd
      obtain ⟨A2, n2, c2, rfl, h2, hb2⟩ := (OwnD.ret hd (Nat.le_trans hslx.out (by omega))).opn
      have hn2 : n2 ≤ 60 := by have := h2.1.1; have := hslx.out; omega
      have hbb := hb.trans (hb2.mono hb.size)
      have H2 := hide h2
      clear h2 hd
      go_wp2_with fail
      refine (ihy _ _ _ _ hgy ((unhide HPA).2.up hbb) a4 a5 a6).mono ?_
      intro r wl hd
      obtain ⟨A3, n3, c3, rfl, h3, hb3⟩ := (OwnD.ret hd (Nat.le_trans hsly.out (by omega))).opn
      have hn3 : n3 ≤ 60 := by have := h3.1.1; have := hsly.out; omega
      have hbl := hbb.trans (hb3.mono hbb.size)
      have H3 := hide h3
      have H23 := hide ((unhide H2).up hb3)
      have hc0 := (hbl.cell (p := ⟨b, off + m * 2, none⟩) hbB).trans hk
      have hc1 := (hbl.cell (p := ⟨b, off + m * 2 + 1, none⟩) hbB).trans hl
      have hbw : b < wl.heap.size := by have := hbl.size; omega
      clear hk hl h3 hd
      go_wp2_with fail
      have hO0 := own_empty wl w.heap.size 45 hbl.size
      have hbE := hbl.alloc hbl.size (.cells #[] 45)
      have HO0 := hide hO0
      clear hO0
      refine (l5Make_6 _ _ _ _ _ _ _ _ _ ((unhide H23).up ((Below.refl _ _).alloc (Nat.le_refl _) _)) ((unhide H3).up ((Below.refl _ _).alloc (Nat.le_refl _) _)) (by omega) (by omega)).mono ?_
      intro r w8 hd
      have hlen8 := Lib.hid (show (Ex.sBoth x.simp y.simp).flat.length ≤ 60 from by have := mk_len 6 x y a7; exact this)
      obtain ⟨A8, n8, c8, rfl, h8, hb8⟩ := (hd).opn
      have hn8 : n8 ≤ 60 := by have := h8.1.1; have := hlen8.out; omega
      have hbb8 := hbE.trans (hb8.mono hbE.size)
      have HO8 := hide (own_keep (unhide HO0) hb8)
      have H8 := hide h8
      have HN8 := Lib.hid h8.1.1
      clear h8 hd
      go_wp2_with (at_builtin; go_must (refine wpList_append_parts rfl (.tmp 20) (.tmp 29) rfl w.heap.size w8.heap.size (.slice (some ⟨wl.heap.size, 0, none⟩) 0 0) 0 [] rfl (unhide HO8) A8 n8 c8 ((Ex.sBoth x.simp y.simp).flat) rfl (unhide H8).2.2.2 (unhide H8).1 ?_ ?_ ?_); go_must (omega); go_must (exact hbb8.size); go_must (intro v9 w9 hown9 hgrow9))
      go_ret
      refine ⟨v9, rfl, ?_, hbb8.grown hgrow9 hbb8.size (own_block (unhide HO8))⟩
      rw [show (Ex.simp (.bin 6 x y)).flat.length = 0 + n8 by rw [Nat.zero_add]; exact HN8.out]
      rw [List.nil_append] at hown9
      exact hown9
theorem specSimp_all (w : World) (A : Option Addr) (n c : Nat) (e : List Pt) (h : PS w w.heap.size A n e) (hn : n ≤ 1000000000) (hc : n ≤ c) (hcm : c ≤ maxLen) :
    Calls Try.prog 18 #[.slice A n c] w (RelD w (FlatR Ex.simp e)) := by
  have HH := hide h
  rcases hv : exprB e
  · have HV := Lib.hid hv
    clear hv h
    go_enter Try.func18, Try.ntmps18
    go_wp2_with fail
    refine (specExprValid_any _ _ _ _ e (unhide HH) hn).mono ?_
    rintro r w1 ⟨rfl, hb⟩
    rw [HV.out]
    go_wp2
    go_ret
    exact ⟨[], .inl ⟨HV.out, rfl⟩, _, rfl, own_empty _ _ _ hb.size, hb.alloc hb.size _⟩
  · obtain ⟨t, hg, rfl, hs⟩ := exprB_iff.1 hv
    have HV := Lib.hid hv
    clear hv h
    go_enter Try.func18, Try.ntmps18
    go_wp2_with fail
    refine (specExprValid_any _ _ _ _ _ (unhide HH) hn).mono ?_
    rintro r w1 ⟨rfl, hb⟩
    rw [HV.out]
    go_wp2_with fail
    refine (l5Simple_any t _ _ _ _ hg ((unhide HH).up hb) (by rw [(unhide HH).len]; exact hs) hc hcm).mono ?_
    rintro r w2 ⟨v, rfl, h1, h2⟩
    go_wp2
    go_ret
    exact RelD.behind (.inr ⟨t, hg, rfl, hs, rfl⟩) hb ⟨v, rfl, h1, h2⟩
theorem specIsSimple_all (w : World) (A : Option Addr) (n c : Nat) (e : List Pt) (h : PS w w.heap.size A n e) (hn : n ≤ 1000000000) (hc : n ≤ c) (hcm : c ≤ maxLen) :
    Calls Try.prog 35 #[.slice A n c] w (SimD w e) := by
  have HH := hide h
  rcases hv : exprB e
  · have HV := Lib.hid hv
    clear hv h
    go_enter Try.func35, Try.ntmps35
    go_wp2_with fail
    refine (specExprValid_any _ _ _ _ e (unhide HH) hn).mono ?_
    rintro r w1 ⟨rfl, hb⟩
    rw [HV.out]
    go_wp2
    go_ret
    exact ⟨_, rfl, .inl ⟨HV.out, rfl⟩, hb⟩
  · obtain ⟨t, hg, rfl, hs⟩ := exprB_iff.1 hv
    have HV := Lib.hid hv
    have hsl := Lib.hid (simp_len (e := t.flat) (.inr ⟨t, hg, rfl, hs, rfl⟩))
    clear hv h
    go_enter Try.func35, Try.ntmps35
    go_wp2_with fail
    refine (specExprValid_any _ _ _ _ _ (unhide HH) hn).mono ?_
    rintro r w1 ⟨rfl, hb⟩
    rw [HV.out]
    go_wp2_with fail
    refine (l5Simple_any t _ _ _ _ hg ((unhide HH).up hb) (by rw [(unhide HH).len]; exact hs) hc hcm).mono ?_
    intro r w2 hd
    obtain ⟨A2, n2, c2, rfl, h2, hb2⟩ := (OwnD.ret hd (Nat.le_trans hsl.out (by omega))).opn
    have hn2 : n2 ≤ 60 := by have := h2.1.1; have := hsl.out; omega
    have hbb := hb.trans (hb2.mono hb.size)
    have H2 := hide h2
    clear h2 hd
    go_wp2_with fail
    refine (l5Same_any _ _ _ _ _ _ _ _ _ (unhide H2).1 ((unhide HH).up hbb) (by omega) (by omega)).mono ?_
    rintro r w3 ⟨rfl, hb3⟩
    go_wp2
    go_ret
    exact ⟨_, rfl, .inr ⟨t, hg, rfl, hs, rfl⟩, hbb.trans (hb3.mono hbb.size)⟩
end Go.Proofs.Ytadibjjjdbglaaa

