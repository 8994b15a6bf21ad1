/-
  Turned expressions: the reference's walk, and both of any list.
-/
import Derived.Test.YtadibjjjdbglaaaTurn
namespace Go.Proofs.Ytadibjjjdbglaaa
open Go.RowKit
set_option linter.unusedVariables false
set_option maxRecDepth 100000

/-- 'append(v, x...)' on an own row of parts, and where the row lies then. -/
theorem wpList_append_parts_at {w : World} {ops : Array Oper} {rest : List Oper} {o : Oper} {a : Act} {Q : Exit → Act → World → Prop} (hgd : o.guard = none) (s x : Operand)
    (ho : o.op = .call { callee := .builtin .append, args := #[s, x], argTypes := #[23, 23] })
    (base B : Nat) (v : Value) (n : Nat) (e1 : List Pt) (hs : a.eval s = v) (hown : w.ownsRow base 45 2 v n (flatV e1))
    (A : Option Addr) (m c : Nat) (e2 : List Pt) (hx : a.eval x = .slice A m c) (hA : A = none → m = 0 ∧ c = 0) (hp : PS w B A m e2)
    (hm : n + m ≤ 1000000000) (hbase : base ≤ w.heap.size)
    (h : ∀ v' w', w'.ownsRow base 45 2 v' (n + m) (flatV (e1 ++ e2)) → w.grownBy w' v.ownBlock → (v'.ownBlock = v.ownBlock ∨ v'.ownBlock = some w.heap.size) → wpList Try.prog ops Q rest (a.put o.dst v') w') : wpList Try.prog ops Q (o :: rest) a w := by
  obtain ⟨i0, hi0, hz0, hz1, hz2⟩ := info_parts part_info
  cases A with
  | none =>
    obtain ⟨rfl, rfl⟩ := hA rfl
    have he : e2 = [] := List.eq_nil_of_length_eq_zero hp.1
    subst he
    refine wpList_append_own_none hgd s x 23 ho base 45 i0 2 Try.underlying23 hi0 v n (flatV e1) hs hown hx ?_
    exact h v w (by rw [List.append_nil]; exact hown) (World.grownBy.refl w _) (.inl rfl)
  | some ad =>
    by_cases hm0 : m = 0
    · subst hm0
      have he : e2 = [] := List.eq_nil_of_length_eq_zero hp.1
      subst he
      refine wpList_append_own_at w hgd s x 23 ho base 45 i0 (part 0 0) 2 16 Try.underlying23 hi0 hz0 hz1 hz2 rfl (by decide) v n (flatV e1) hs hown ad 0 c [] hx rfl (by simp) (by simp) (by unfold maxLen; omega) (by omega) hbase ?_
      intro v' w' h1 h2 _ h3
      exact h v' w' (by rw [List.append_nil]; rw [List.append_nil] at h1; exact h1) h2 h3
    · obtain ⟨b, off, e, -⟩ := hp.2 (by omega)
      injection e with e
      subst e
      refine wpList_append_own_at w hgd s x 23 ho base 45 i0 (part 0 0) 2 16 Try.underlying23 hi0 hz0 hz1 hz2 rfl (by decide) v n (flatV e1) hs hown ⟨b, off, none⟩ m c (flatV e2) hx (by rw [flatV_length, hp.1]) hp.news (flatV_one e2) (by unfold maxLen; omega) (by omega) hbase ?_
      intro v' w' h1 h2 _ h3
      exact h v' w' (by rw [flatV_append]; exact h1) h2 h3
theorem box_keep {w w' : World} {row : Option Nat} {pb : Nat} {o : Obj} (h : w.heap[pb]? = some o) (hg : w.grownBy w' row) (hne : row ≠ some pb) : w'.heap[pb]? = some o :=
  (hg.block pb (Array.getElem?_eq_some_iff.1 h).1 (fun e => hne e.symm)).trans h
theorem box_below {w w' : World} {pb : Nat} {o : Obj} (h : w.heap[pb]? = some o) (hb : Below w.heap.size w w') : w'.heap[pb]? = some o :=
  (hb.block pb (Array.getElem?_eq_some_iff.1 h).1).trans h
theorem box_cells {w : World} {pb : Nat} {k l : Int} {t : TypeId} {fr : Nat × Nat} (h : w.heap[pb]? = some (.cells #[.int .i64 k, .int .i64 l] t fr)) : w.cell? ⟨pb, 0, none⟩ = some (.int .i64 k) ∧ w.cell? ⟨pb, 1, none⟩ = some (.int .i64 l) :=
  ⟨by rw [cell_of_row w pb 0 _ _ _ h]; rfl, by rw [cell_of_row w pb 1 _ _ _ h]; rfl⟩
theorem box_lt {w : World} {pb : Nat} {o : Obj} (h : w.heap[pb]? = some o) : pb < w.heap.size := (Array.getElem?_eq_some_iff.1 h).1
theorem ne_next {v v' : Option Nat} {pb s : Nat} (h : v ≠ some pb) (hv : v' = v ∨ v' = some s) (hs : pb < s) : v' ≠ some pb := by
  rcases hv with rfl | rfl
  · exact h
  · intro e; injection e; omega
/-- A part, laid behind two other blocks. -/
theorem PS_one_at2 (w : World) (o1 o2 : Obj) (k l : Int) (t : TypeId) : PS (((w.alloc o1).alloc o2).alloc (.cells #[.int .i64 k, .int .i64 l] t)) (w.heap.size + 3) (some ⟨w.heap.size + 1 + 1, 0, none⟩) 1 [(k, l)] := by
  have h := PS.one ((w.alloc o1).alloc o2) (w.heap.size + 3) k l t (by simp)
  rw [World.size_alloc, World.size_alloc] at h
  exact h
set_option maxHeartbeats 4000000 in
theorem specTurn_any (t : Ex) : ∀ (w : World) (A : Option Addr) (n c : Nat) (hg : t.good) (h : PS w w.heap.size A n t.flat) (hn : n ≤ 60) (hc : n ≤ c) (hcm : c ≤ maxLen),
    Calls Try.prog 40 #[.slice A n c] w (OwnD w t.turn.flat) := by
  induction t with
  | leaf kd l =>
    intro w A n c hg h hn hc hcm
    have HV := Lib.hid (exprB_flat hg (by rw [← h.len]; exact hn))
    obtain ⟨b, off, m, rfl, hbB, hnm, hm, hk, hl⟩ := h.last
    simp only [Ex.kind, Ex.lett] at hk hl
    have n1 : 1 ≤ n := by omega
    have HNM := Lib.hid hnm
    have hkd : ¬ kd = 4 := by rcases hg with ⟨h | h, _⟩ | ⟨h, _⟩ <;> omega
    have hkd4 : (kd == 4) = false := by simpa using hkd
    have HH := hide h
    clear hkd
    clear h hnm
    go_enter Try.func40, Try.ntmps40
    go_wp2_with fail
    refine (specExprValid_any _ _ _ _ _ (unhide HH) (by omega)).mono ?_
    rintro r w1 ⟨rfl, hb⟩
    rw [HV.out]
    go_wp2_with fail
    refine (l2Split_any _ _ _ _ _ hg ((unhide HH).up hb) (by omega) hc hcm).mono ?_
    rintro r w2 ⟨g1, g2, rfl, hb2⟩
    have hbb := hb.trans (hb2.mono hb.size)
    have hz := hbb.size
    have hc0 := (hbb.cell (p := ⟨b, off + m * 2, none⟩) hbB).trans hk
    have hc1 := (hbb.cell (p := ⟨b, off + m * 2 + 1, none⟩) hbB).trans hl
    have hbw : b < w2.heap.size := by omega
    clear hk hl
    go_wp2_with (at_builtin; go_must (refine wpList_append_parts rfl (.tmp 47) (.tmp 49) rfl w.heap.size (w2.heap.size + 3) _ 0 [] rfl (((own_empty w2 _ _ hz).alloc _).alloc _) (some ⟨w2.heap.size + 1 + 1, 0, none⟩) 1 1 [(kd, l)] rfl ?_ ?_ ?_ ?_ ?_); go_must (intro h; cases h); go_must (exact PS_one_at2 _ _ _ _ _ _); go_must (omega); go_must (simp; omega); go_must (intro v' w' hown' hgrow))
    go_ret
    refine ⟨_, rfl, by simpa [Ex.turn, Ex.flat] using hown', (((hbb.alloc hz _).alloc (by simp; omega) _).alloc (by simp; omega) _).grown hgrow (by simp; omega) (own_block (((own_empty w2 w.heap.size 45 hz))))⟩
  | un kd a ih =>
    intro w A n c hg h hn hc hcm
    have HV := Lib.hid (exprB_flat hg (by rw [← h.len]; exact hn))
    obtain ⟨b, off, m, rfl, hbB, hnm, hm, hk, hl⟩ := h.last
    obtain ⟨l, hl0⟩ : ∃ l, (Ex.un kd a).lett = l := ⟨_, rfl⟩
    rw [hl0] at hl
    have HL0 := Lib.hid (show l = 0 from hl0.symm)
    clear hl0
    simp only [Ex.kind] at hk
    have n1 : 1 ≤ n := by omega
    have HNM := Lib.hid hnm
    have hkd : ¬ kd = 4 := by have := hg.1; omega
    have hkd4 : (kd == 4) = false := by simpa using hkd
    have HH := hide h
    have HPA := hide (PS.un h)
    have hla := h.len
    simp only [Ex.sz] at hla
    have a0 : 0 < a.sz := Ex.sz_pos a
    have a1 : a.sz ≤ 60 := by omega
    have a2 : a.sz ≤ c := by omega
    clear hkd hla
    clear h hnm
    go_enter Try.func40, Try.ntmps40
    go_wp2_with fail
    refine (specExprValid_any _ _ _ _ _ (unhide HH) (by omega)).mono ?_
    rintro r w1 ⟨rfl, hb⟩
    rw [HV.out]
    go_wp2_with fail
    refine (l2Split_any _ _ _ _ _ hg ((unhide HH).up hb) (by omega) hc hcm).mono ?_
    rintro r w2 ⟨g2, rfl, hb2⟩
    have hbb := hb.trans (hb2.mono hb.size)
    have hz := hbb.size
    have hc0 := (hbb.cell (p := ⟨b, off + m * 2, none⟩) hbB).trans hk
    have hc1 := (hbb.cell (p := ⟨b, off + m * 2 + 1, none⟩) hbB).trans hl
    have hbw : b < w2.heap.size := by omega
    clear hk hl
    go_wp2_with fail
    have hO0 := (own_empty w2 w.heap.size 45 hz).alloc (pbox kd l)
    have hB0 : ((w2.alloc (.cells #[] 45)).alloc (pbox kd l)).heap[w2.heap.size + 1]? = some (pbox kd l) := by
      have := heap_alloc_new (w2.alloc (.cells #[] 45)) (pbox kd l)
      rwa [World.size_alloc] at this
    have hbW : Below w.heap.size w ((w2.alloc (.cells #[] 45)).alloc (pbox kd l)) := (hbb.alloc hz _).alloc (by simp; omega) _
    generalize hWe : (w2.alloc (.cells #[] 45)).alloc (pbox kd l) = W at *
    clear hWe hc0 hc1
    have HO0 := hide hO0
    have HB0 := hide hB0
    clear hO0 hB0
    refine (ih _ _ _ _ hg.2 ((unhide HPA).up hbW) a1 a2 hcm).mono ?_
    intro r w3 hd
    have hal : a.turn.flat.length ≤ 1000 := by rw [Ex.flat_length, Ex.turn_sz]; omega
    obtain ⟨A1, c1, rfl, hSL, -, hb3⟩ := hd.sl (by omega)
    obtain ⟨N1, hN1⟩ : ∃ N1, a.turn.flat.length = N1 := ⟨_, rfl⟩
    have HN1 := Lib.hid hN1
    rw [hN1] at hSL hal ⊢
    have HSL := hide hSL
    have hbb3 := hbW.trans (hb3.mono hbW.size)
    have HO3 := hide (own_keep (unhide HO0) hb3)
    have HB3 := hide (box_below (unhide HB0) hb3)
    have hlt3 := box_lt (unhide HB3)
    have hz3 := hbb3.size
    clear hN1 hSL hd
    go_wp2_with (first
      | (at_builtin; refine wpList_append_parts_at rfl (.tmp 36) (.tmp 38) rfl w.heap.size w3.heap.size (.slice (some ⟨w2.heap.size, 0, none⟩) 0 0) 0 [] rfl (unhide HO3) A1 N1 c1 a.turn.flat rfl (unhide HSL).2.2.2 (unhide HSL).1 ?_ ?_ ?_; go_must (omega); go_must (exact hz3); (intro v1 w4 hown1 hgrow1 hat1; have hne1 := ne_next (pb := w2.heap.size + 1) (by simp [Value.ownBlock]) hat1 hlt3; have HB4 := hide (box_keep (unhide HB3) hgrow1 (by simp [Value.ownBlock])); have hbb4 := hbb3.grown hgrow1 hz3 (own_block (unhide HO3)); have HO4 := hide hown1; obtain ⟨hp0, hp1⟩ := box_cells (unhide HB4); have hlt4 := box_lt (unhide HB4); clear hown1))
      | (at_builtin; refine wpList_append_parts_at rfl (.tmp 47) (.tmp 49) rfl w.heap.size (w4.heap.size + 1) v1 (0 + N1) ([] ++ a.turn.flat) rfl ((unhide HO4).alloc _) (some ⟨w4.heap.size, 0, none⟩) 1 1 [(kd, l)] rfl (fun h => nomatch h) (PS.one _ _ _ _ _ (Nat.lt_succ_self _)) ?_ ?_ ?_; go_must (omega); go_must (exact le_alloc hbb4.size); (intro v2 w5 hown2 hgrow2 hat2)))
    go_ret
    refine ⟨v2, rfl, ?_, (hbb4.alloc hbb4.size _).grown hgrow2 (by simp; have := hbb4.size; omega) (own_block (unhide HO4))⟩
    rw [HL0.out] at hown2
    simp only [Ex.turn, Ex.flat, List.length_append, List.length_singleton, HN1.out]
    simpa using hown2
  | bin kd x y ihx ihy =>
    intro w A n c hg h hn hc hcm
    have HV := Lib.hid (exprB_flat hg (by rw [← h.len]; exact hn))
    obtain ⟨b, off, m, rfl, hbB, hnm, hm, hk, hl⟩ := h.last
    obtain ⟨l, hl0⟩ : ∃ l, (Ex.bin kd x y).lett = l := ⟨_, rfl⟩
    rw [hl0] at hl
    have HL0 := Lib.hid (show l = 0 from hl0.symm)
    clear hl0
    simp only [Ex.kind] at hk
    have n1 : 1 ≤ n := by omega
    have HNM := Lib.hid hnm
    have HH := hide h
    have HPA := hide (PS.bin h)
    have hla := h.len
    simp only [Ex.sz] at hla
    have a0 : 0 < x.sz := Ex.sz_pos x
    have a1 : x.sz ≤ 60 := by omega
    have a2 : x.sz ≤ c := by omega
    have a3 : 0 < y.sz := Ex.sz_pos y
    have a4 : y.sz ≤ 60 := by omega
    have a5 : y.sz ≤ c - x.sz := by omega
    have a6 : c - x.sz ≤ maxLen := by omega
    have hkk : (kd = 4 ∧ (kd == 4) = true) ∨ (¬ kd = 4 ∧ (kd == 4) = false) := by by_cases h : kd = 4 <;> simp [h]
    have HKK := hide hkk
    clear hla hkk
    clear h hnm
    go_enter Try.func40, Try.ntmps40
    go_wp2_with fail
    refine (specExprValid_any _ _ _ _ _ (unhide HH) (by omega)).mono ?_
    rintro r w1 ⟨rfl, hb⟩
    rw [HV.out]
    go_wp2_with fail
    refine (l2Split_any _ _ _ _ _ hg ((unhide HH).up hb) (by omega) hc hcm).mono ?_
    rintro r w2 ⟨b', o', hA, rfl, hb2⟩
    injection hA with hA
    injection hA with hA1 hA2
    subst hA1; subst hA2
    have hbb := hb.trans (hb2.mono hb.size)
    have hz := hbb.size
    have hc0 := (hbb.cell (p := ⟨b, off + m * 2, none⟩) hbB).trans hk
    have hc1 := (hbb.cell (p := ⟨b, off + m * 2 + 1, none⟩) hbB).trans hl
    have hbw : b < w2.heap.size := by omega
    clear hk hl
    have hO0 := (own_empty w2 w.heap.size 45 hz).alloc (pbox kd l)
    have hB0 : ((w2.alloc (.cells #[] 45)).alloc (pbox kd l)).heap[w2.heap.size + 1]? = some (pbox kd l) := by
      have := heap_alloc_new (w2.alloc (.cells #[] 45)) (pbox kd l)
      rwa [World.size_alloc] at this
    have hbW : Below w.heap.size w ((w2.alloc (.cells #[] 45)).alloc (pbox kd l)) := (hbb.alloc hz _).alloc (by simp; omega) _
    have HO0 := hide hO0
    have HB0 := hide hB0
    clear hO0 hB0
    rcases unhide HKK with ⟨hk4, hkd4⟩ | ⟨hk4, hkd4⟩
    all_goals
      have HK4 := Lib.hid hk4
      clear hk4
      go_wp2_with fail
      generalize hWe : (w2.alloc (.cells #[] 45)).alloc (pbox kd l) = W at *
      clear hWe hc0 hc1
    · refine (ihy _ _ _ _ hg.2.2 ((unhide HPA).2.up hbW) a4 a5 a6).mono ?_
      intro r w3 hd
      have hal : y.turn.flat.length ≤ 1000 := by rw [Ex.flat_length, Ex.turn_sz]; omega
      obtain ⟨A1, c1, rfl, hSL, -, hb3⟩ := hd.sl (by omega)
      obtain ⟨N1, hN1⟩ : ∃ N1, y.turn.flat.length = N1 := ⟨_, rfl⟩
      have HN1 := Lib.hid hN1
      rw [hN1] at hSL hal ⊢
      have HSL := hide hSL
      have hbb3 := hbW.trans (hb3.mono hbW.size)
      have HO3 := hide (own_keep (unhide HO0) hb3)
      have HB3 := hide (box_below (unhide HB0) hb3)
      have hlt3 := box_lt (unhide HB3)
      have hz3 := hbb3.size
      clear hN1 hSL hd
      go_wp2_with (at_builtin; refine wpList_append_parts_at rfl (.tmp 26) (.tmp 28) rfl w.heap.size w3.heap.size (.slice (some ⟨w2.heap.size, 0, none⟩) 0 0) 0 [] rfl (unhide HO3) A1 N1 c1 y.turn.flat rfl (unhide HSL).2.2.2 (unhide HSL).1 ?_ ?_ ?_; go_must (omega); go_must (exact hz3); (intro v1 w4 hown1 hgrow1 hat1; have hne1 := ne_next (pb := w2.heap.size + 1) (by simp [Value.ownBlock]) hat1 hlt3; have HB4 := hide (box_keep (unhide HB3) hgrow1 (by simp [Value.ownBlock])); have hbb4 := hbb3.grown hgrow1 hz3 (own_block (unhide HO3)); have HO4 := hide hown1; clear hown1))
      refine (ihx _ _ _ _ hg.2.1 ((unhide HPA).1.up hbb4) a1 a2 hcm).mono ?_
      intro r w5 hd
      have hal2 : x.turn.flat.length ≤ 1000 := by rw [Ex.flat_length, Ex.turn_sz]; omega
      obtain ⟨A2, c2, rfl, hSL, -, hb5⟩ := hd.sl (by omega)
      obtain ⟨N2, hN2⟩ : ∃ N2, x.turn.flat.length = N2 := ⟨_, rfl⟩
      have HN2 := Lib.hid hN2
      rw [hN2] at hSL hal2 ⊢
      have HSL2 := hide hSL
      have hbb5 := hbb4.trans (hb5.mono hbb4.size)
      have HO5 := hide (own_keep (unhide HO4) hb5)
      have HB5 := hide (box_below (unhide HB4) hb5)
      have hlt5 := box_lt (unhide HB5)
      have hz5 := hbb5.size
      clear hN2 hSL hd
      go_wp2_with (first
        | (at_builtin; refine wpList_append_parts_at rfl (.tmp 29) (.tmp 31) rfl w.heap.size w5.heap.size v1 (0 + N1) ([] ++ y.turn.flat) rfl (unhide HO5) A2 N2 c2 x.turn.flat rfl (unhide HSL2).2.2.2 (unhide HSL2).1 ?_ ?_ ?_; go_must (omega); go_must (exact hz5); (intro v2 w6 hown2 hgrow2 hat2; have HB6 := hide (box_keep (unhide HB5) hgrow2 hne1); have hbb6 := hbb5.grown hgrow2 hz5 (own_block (unhide HO5)); have HO6 := hide hown2; obtain ⟨hp0, hp1⟩ := box_cells (unhide HB6); have hlt6 := box_lt (unhide HB6); clear hown2))
        | (at_builtin; refine wpList_append_parts_at rfl (.tmp 47) (.tmp 49) rfl w.heap.size (w6.heap.size + 1) v2 (0 + N1 + N2) ([] ++ y.turn.flat ++ x.turn.flat) rfl ((unhide HO6).alloc _) (some ⟨w6.heap.size, 0, none⟩) 1 1 [(kd, l)] rfl (fun h => nomatch h) (PS.one _ _ _ _ _ (Nat.lt_succ_self _)) ?_ ?_ ?_; go_must (omega); go_must (exact le_alloc hbb6.size); (intro v3 w7 hown3 hgrow3 hat3)))
      go_ret
      refine ⟨v3, rfl, ?_, (hbb6.alloc hbb6.size _).grown hgrow3 (by simp; have := hbb6.size; omega) (own_block (unhide HO6))⟩
      rw [HL0.out] at hown3
      have h1 := HN1.out
      have h2 := HN2.out
      have h4 := HK4.out; subst h4; have e : ((Ex.bin 4 x y).turn.flat).length = 0 + N1 + N2 + 1 := by simp [Ex.turn, Ex.flat, h1, h2] <;> omega
      rw [e]; simpa [Ex.turn, Ex.flat] using hown3
    · refine (ihx _ _ _ _ hg.2.1 ((unhide HPA).1.up hbW) a1 a2 hcm).mono ?_
      intro r w3 hd
      have hal : x.turn.flat.length ≤ 1000 := by rw [Ex.flat_length, Ex.turn_sz]; omega
      obtain ⟨A1, c1, rfl, hSL, -, hb3⟩ := hd.sl (by omega)
      obtain ⟨N1, hN1⟩ : ∃ N1, x.turn.flat.length = N1 := ⟨_, rfl⟩
      have HN1 := Lib.hid hN1
      rw [hN1] at hSL hal ⊢
      have HSL := hide hSL
      have hbb3 := hbW.trans (hb3.mono hbW.size)
      have HO3 := hide (own_keep (unhide HO0) hb3)
      have HB3 := hide (box_below (unhide HB0) hb3)
      have hlt3 := box_lt (unhide HB3)
      have hz3 := hbb3.size
      clear hN1 hSL hd
      go_wp2_with (at_builtin; refine wpList_append_parts_at rfl (.tmp 36) (.tmp 38) rfl w.heap.size w3.heap.size (.slice (some ⟨w2.heap.size, 0, none⟩) 0 0) 0 [] rfl (unhide HO3) A1 N1 c1 x.turn.flat rfl (unhide HSL).2.2.2 (unhide HSL).1 ?_ ?_ ?_; go_must (omega); go_must (exact hz3); (intro v1 w4 hown1 hgrow1 hat1; have hne1 := ne_next (pb := w2.heap.size + 1) (by simp [Value.ownBlock]) hat1 hlt3; have HB4 := hide (box_keep (unhide HB3) hgrow1 (by simp [Value.ownBlock])); have hbb4 := hbb3.grown hgrow1 hz3 (own_block (unhide HO3)); have HO4 := hide hown1; clear hown1))
      refine (ihy _ _ _ _ hg.2.2 ((unhide HPA).2.up hbb4) a4 a5 a6).mono ?_
      intro r w5 hd
      have hal2 : y.turn.flat.length ≤ 1000 := by rw [Ex.flat_length, Ex.turn_sz]; omega
      obtain ⟨A2, c2, rfl, hSL, -, hb5⟩ := hd.sl (by omega)
      obtain ⟨N2, hN2⟩ : ∃ N2, y.turn.flat.length = N2 := ⟨_, rfl⟩
      have HN2 := Lib.hid hN2
      rw [hN2] at hSL hal2 ⊢
      have HSL2 := hide hSL
      have hbb5 := hbb4.trans (hb5.mono hbb4.size)
      have HO5 := hide (own_keep (unhide HO4) hb5)
      have HB5 := hide (box_below (unhide HB4) hb5)
      have hlt5 := box_lt (unhide HB5)
      have hz5 := hbb5.size
      clear hN2 hSL hd
      go_wp2_with (first
        | (at_builtin; refine wpList_append_parts_at rfl (.tmp 43) (.tmp 45) rfl w.heap.size w5.heap.size v1 (0 + N1) ([] ++ x.turn.flat) rfl (unhide HO5) A2 N2 c2 y.turn.flat rfl (unhide HSL2).2.2.2 (unhide HSL2).1 ?_ ?_ ?_; go_must (omega); go_must (exact hz5); (intro v2 w6 hown2 hgrow2 hat2; have HB6 := hide (box_keep (unhide HB5) hgrow2 hne1); have hbb6 := hbb5.grown hgrow2 hz5 (own_block (unhide HO5)); have HO6 := hide hown2; obtain ⟨hp0, hp1⟩ := box_cells (unhide HB6); have hlt6 := box_lt (unhide HB6); clear hown2))
        | (at_builtin; refine wpList_append_parts_at rfl (.tmp 47) (.tmp 49) rfl w.heap.size (w6.heap.size + 1) v2 (0 + N1 + N2) ([] ++ x.turn.flat ++ y.turn.flat) rfl ((unhide HO6).alloc _) (some ⟨w6.heap.size, 0, none⟩) 1 1 [(kd, l)] rfl (fun h => nomatch h) (PS.one _ _ _ _ _ (Nat.lt_succ_self _)) ?_ ?_ ?_; go_must (omega); go_must (exact le_alloc hbb6.size); (intro v3 w7 hown3 hgrow3 hat3)))
      go_ret
      refine ⟨v3, rfl, ?_, (hbb6.alloc hbb6.size _).grown hgrow3 (by simp; have := hbb6.size; omega) (own_block (unhide HO6))⟩
      rw [HL0.out] at hown3
      have h1 := HN1.out
      have h2 := HN2.out
      have h4 := HK4.out; have e : ((Ex.bin kd x y).turn.flat).length = 0 + N1 + N2 + 1 := by simp [Ex.turn, Ex.flat, h1, h2, h4] <;> omega
      rw [e]; simpa [Ex.turn, Ex.flat, h4] using hown3
end Go.Proofs.Ytadibjjjdbglaaa
