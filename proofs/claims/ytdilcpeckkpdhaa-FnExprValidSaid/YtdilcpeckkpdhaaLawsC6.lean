/-
  The walk of the law on valid expressions.
-/
import Derived.Test.YtdilcpeckkpdhaaLawsC5
namespace Go.Proofs.Ytdilcpeckkpdhaa
open Go.RowKit
set_option linter.unusedVariables false
set_option maxRecDepth 100000

theorem PS.take {w : World} {B : Nat} {A : Option Addr} {n : Nat} {e : List Pt} (h : PS w B A n e) (k : Nat) (hk : k ≤ n) : PS w B A k (e.take k) := by
  have h1 : e = e.take k ++ e.drop k := (List.take_append_drop k e).symm
  rw [h1] at h
  have h2 := h.front
  have hl : (e.take k).length = k := by
    have := h.1
    rw [← h1] at this
    rw [List.length_take]; omega
  rw [hl] at h2
  exact h2
theorem valid_more {t : Ex} (hg : t.good) (hs : t.sz ≤ 60) : exprB ([] ++ t.flat ++ [((2 : Int), (0 : Int))]) = false := by
  have h1 := Ex.runD_flat t hg 0 (Int.le_refl _)
  have h2 : runD ([] ++ t.flat ++ [((2 : Int), (0 : Int))]) 0 = some 2 := by
    rw [List.nil_append, runD_append, h1]
    decide
  simp only [exprB, h2]
  simp
theorem flat_run {t : Ex} (hg : t.good) {k : Nat} : runD t.flat (k : Int) = some (k + 1) := Ex.runD_flat t hg k (Int.natCast_nonneg _)
theorem valid_less {t : Ex} {m : Nat} (hg : t.good) (hs : t.sz ≤ 60) (hm : t.sz = m + 1) : exprB (t.flat.take m) = ((t.ar : Int) == 1) := by
  cases t with
  | leaf k l =>
    simp only [Ex.sz] at hm
    obtain rfl : m = 0 := by omega
    simp [Ex.flat, Ex.ar, exprB, runD]
  | un k a =>
    simp only [Ex.sz] at hm hs
    have e1 : (Ex.un k a).flat.take m = a.flat := by
      have := Ex.flat_length a
      rw [Ex.flat, List.take_append_of_le_length (by omega), List.take_of_length_le (by omega)]
    rw [e1, exprB_flat hg.2 (by omega)]
    simp [Ex.ar]
  | bin k a b =>
    simp only [Ex.sz] at hm hs
    have e1 : (Ex.bin k a b).flat.take m = a.flat ++ b.flat := by
      have h1 := Ex.flat_length a
      have h2 := Ex.flat_length b
      rw [Ex.flat, List.take_append_of_le_length (by rw [List.length_append]; omega), List.take_of_length_le (by rw [List.length_append]; omega)]
    rw [e1]
    have h2 : runD (a.flat ++ b.flat) 0 = some 2 := by
      rw [runD_append, Ex.runD_flat a hg.2.1 0 (Int.le_refl _)]
      exact Ex.runD_flat b hg.2.2 1 (by omega)
    simp only [exprB, h2]
    simp [Ex.ar]

theorem own_n {w : World} {base n m : Nat} {t : TypeId} {size : Nat} {v : Value} {xs : List Value} (h : w.ownsRow base t size v n xs) (e : n = m) : w.ownsRow base t size v m xs := e ▸ h
set_option maxHeartbeats 8000000 in
theorem wFnExprValid (A : Option Addr) (n c : Nat) (w : World) (hw : BytesIn w A n c) : Calls Try.prog 7 #[.slice A n c] w (Yes w) := by
  obtain ⟨hnc, hcm, hcode⟩ := hw
  unfold maxLen at hcm
  have HC := hide hcode
  clear hcode
  by_cases hn : 1048576 < n
  · go_enter Try.func7, Try.ntmps7
    go_wp2
    go_ret
    exact ⟨rfl, Below.refl _ _⟩
  · go_enter Try.func7, Try.ntmps7
    go_wp2_with fail
    refine (dExprValid_any w n c A _ (unhide HC) (Nat.le_refl _) hnc (by omega)).mono ?_
    rintro r w1 ⟨e, A1, n1, c1, rfl, hl, hsl, hb1⟩
    have HLN := Lib.hid hsl.1.1
    have HS := hide hsl
    clear hsl
    go_wp2_with fail
    refine (implExprValid_any _ _ _ _ e (unhide HS).1).mono ?_
    rintro r w2 ⟨rfl, hb2⟩
    have hbb2 := hb1.trans (hb2.mono hb1.size)
    have HS2 := hide ((unhide HS).up hb2)
    go_wp2_with fail
    refine (specExprValid_any _ _ _ _ e (unhide HS2).1 (by omega)).mono ?_
    rintro r w7 ⟨rfl, hb3⟩
    have hbb7 := hbb2.trans (hb3.mono hbb2.size)
    have HS7 := hide ((unhide HS2).up hb3)
    rcases hv : exprB e
    · have hnil : exprB [] = false := by decide
      go_wp2_with fail
      refine (implExprValid_any _ none 0 0 [] PS.nil).mono ?_
      rintro r w4 ⟨rfl, hb4⟩
      rw [hnil]
      go_wp2_with fail
      refine (alive_any _).mono ?_
      rintro r w5 ⟨rfl, rfl⟩
      go_wp2
      go_ret
      exact ⟨rfl, hbb7.trans (hb4.mono hbb7.size)⟩
    obtain ⟨t, hg, hf, hs⟩ := exprB_iff.1 hv
    have HF := Lib.hid hf
    have hps := (unhide HS7).1
    rw [← HF.out] at hps
    obtain ⟨b, off, m, hA1, hbB, hnm, hm, hk, hlt⟩ := hps.last
    subst hA1
    have HNM := Lib.hid hnm
    have i0 : (0 : Int) ≤ (m : Int) := Int.natCast_nonneg _
    have i1 : (m : Int) < (n1 : Int) := by omega
    have n1' : 1 ≤ n1 := by omega
    have hwm : IntKind.i64.wrap (m : Int) = m := IntWalk.i64_in _ (by omega)
    have hwn : IntKind.i64.wrap ((n1 : Int) - 1) = m := by rw [hm]; exact hwm
    have hc1 : (m : Int) ≤ (c1 : Int) := by have := (unhide HS).2.1; omega
    have hsz : t.sz = m + 1 := by have := HLN.out; rw [← HF.out, Ex.flat_length] at this; omega
    have HV1 := Lib.hid (valid_more hg hs)
    have HV2 := Lib.hid (valid_less hg hs hsz)
    have HPN := Lib.hid (Ex.pn_ar hg)
    obtain ⟨K, hK⟩ : ∃ K, t.kind = K := ⟨_, rfl⟩
    obtain ⟨L, hL⟩ : ∃ L, t.lett = L := ⟨_, rfl⟩
    rw [hK] at hk HPN
    rw [hL] at hlt HPN
    have HT := Lib.hid (show exprB (e.take m) = (pnI K L == 1) by rw [← HF.out, HV2.out, HPN.out])
    have HM := Lib.hid (show exprB ([] ++ e ++ [((2 : Int), (0 : Int))]) = false by rw [← HF.out, HV1.out])
    have hS : ∀ W', Below w7.heap.size w7 W' → W'.cell? ⟨b, off + m * 2, none⟩ = some (.int .i64 K) ∧ W'.cell? ⟨b, off + m * 2 + 1, none⟩ = some (.int .i64 L) := fun W' h => ⟨(h.cell (p := ⟨b, off + m * 2, none⟩) hbB).trans hk, (h.cell (p := ⟨b, off + m * 2 + 1, none⟩) hbB).trans hlt⟩
    have SA : ∀ W', Below w7.heap.size w7 W' → PS W' W'.heap.size (some ⟨b, off, none⟩) n1 e := fun W' h => (unhide HS7).1.up h
    have hna : 0 + n1 ≤ 1000000000 := by omega
    have hnp : 0 + n1 + 1 ≤ 1000000000 := by omega
    obtain ⟨N, hN⟩ : ∃ N, 0 + n1 + 1 = N := ⟨_, rfl⟩
    have hnq : N ≤ maxLen := by unfold maxLen; omega
    have HNN := Lib.hid hN
    clear hN
    have hmn : m ≤ n1 := by omega
    clear hnm hK hL hps HC hv hf HV1 HV2 HPN hsz
    go_wp2_with fail
    have E1 : Below w7.heap.size w7 (w7.alloc (.cells #[] 36)).drew := ((Below.refl _ _).alloc (Nat.le_refl _) _).drew
    have E2 : Below w7.heap.size w7 ((w7.alloc (.cells #[] 36)).alloc (pbox 2 0)).drew := (((Below.refl _ _).alloc (Nat.le_refl _) _).alloc (le_alloc (Nat.le_refl _)) _).drew
    have E3 : Below w7.heap.size w7 ((w7.alloc (pbox 2 0)).alloc (.cells #[] 36)).drew := (((Below.refl _ _).alloc (Nat.le_refl _) _).alloc (le_alloc (Nat.le_refl _)) _).drew
    have OE1 : (w7.alloc (.cells #[] 36)).drew.ownsRow w7.heap.size 36 2 (.slice (some ⟨w7.heap.size, 0, none⟩) 0 0) 0 (flatV []) := (own_empty w7 _ _ (Nat.le_refl _)).drew
    have OE2 : ((w7.alloc (.cells #[] 36)).alloc (pbox 2 0)).drew.ownsRow w7.heap.size 36 2 (.slice (some ⟨w7.heap.size, 0, none⟩) 0 0) 0 (flatV []) := ((own_empty w7 _ _ (Nat.le_refl _)).alloc _).drew
    have OE3 : ((w7.alloc (pbox 2 0)).alloc (.cells #[] 36)).drew.ownsRow w7.heap.size 36 2 (.slice (some ⟨w7.heap.size + 1, 0, none⟩) 0 0) 0 (flatV []) := own_empty3 w7 _ _
    have PB2 := heap_two w7 (.cells #[] 36) (pbox 2 0)
    have PB3 := heap_first w7 (pbox 2 0) (.cells #[] 36)
    obtain ⟨hW0, hW1⟩ := hS w7 (Below.refl _ _)
    go_region_held3 (fun w' => w'.cell? ⟨b, off + m * 2, none⟩ = some (.int .i64 K) ∧ w'.cell? ⟨b, off + m * 2 + 1, none⟩ = some (.int .i64 L))
      (first
        | (refine hS _ ?_; exact (Below.refl _ _).drew)
        | (refine hS _ ?_; exact ((Below.refl _ _).alloc (Nat.le_refl _) _).drew)
        | (refine hS _ ?_; exact (((Below.refl _ _).alloc (Nat.le_refl _) _).alloc (le_alloc (Nat.le_refl _)) _).drew)
        | (refine hS _ ?_; exact hC1)
        | (refine hS _ ?_; exact hC1.alloc hC1.size _)
        | (refine hS _ ?_; exact hC2)
        | (refine hS _ ?_; exact hC3)
        | (refine hS _ ?_; exact hC4)
        | (refine hS _ ?_; exact hC5))
      (first
        | (refine step_append_parts_at rfl (.tmp 27) (.tmp 28) rfl w7.heap.size _ (.slice (some ⟨w7.heap.size, 0, none⟩) 0 0) 0 [] rfl OE1 (some ⟨b, off, none⟩) n1 c1 e rfl (fun h => nomatch h) (SA _ E1) hna E1.size ?_; intro v1 u1 hown1 hgrow1 hat1; have hC1 := E1.grown hgrow1 E1.size (own_block OE1); have hn1 := own_new hown1)
        | (refine step_append_parts_at rfl (.tmp 27) (.tmp 28) rfl w7.heap.size _ (.slice (some ⟨w7.heap.size, 0, none⟩) 0 0) 0 [] rfl OE2 (some ⟨b, off, none⟩) n1 c1 e rfl (fun h => nomatch h) (SA _ E2) hna E2.size ?_; intro v1 u1 hown1 hgrow1 hat1; have hC1 := E2.grown hgrow1 E2.size (own_block OE2); have hP1 := box_keep PB2 hgrow1 (ne_own1 _))
        | (refine step_append_parts_at rfl (.tmp 27) (.tmp 28) rfl w7.heap.size _ (.slice (some ⟨w7.heap.size + 1, 0, none⟩) 0 0) 0 [] rfl OE3 (some ⟨b, off, none⟩) n1 c1 e rfl (fun h => nomatch h) (SA _ E3) hna E3.size ?_; intro v1 u1 hown1 hgrow1 hat1; have hC1 := E3.grown hgrow1 E3.size (own_block OE3); have hP1 := box_keep PB3 hgrow1 (ne_own2 _))
        | (refine step_append_parts_at rfl (.tmp 29) (.tmp 31) rfl w7.heap.size (u1.heap.size + 1) v1 (0 + n1) ([] ++ e) rfl (hown1.alloc _) (some ⟨u1.heap.size, 0, none⟩) 1 1 [(2, 0)] rfl nomA (PS.one _ _ _ _ _ (Nat.lt_succ_self _)) hnp (le_alloc hC1.size) ?_; intro v2 u2 hown2 hgrow2 hat2; have hC2 := (hC1.alloc hC1.size _).grown hgrow2 (le_alloc hC1.size) (own_block hown1); obtain ⟨A9, c9, rfl, hs9⟩ := SL_own (own_n hown2 HNN.out) hnq; have hps9 := hs9.1)
        | (refine step_append_parts_at rfl (.tmp 29) (.tmp 31) rfl w7.heap.size u1.heap.size v1 (0 + n1) ([] ++ e) rfl hown1 (some ⟨w7.heap.size + 1, 0, none⟩) 1 1 [(2, 0)] rfl nomA (PS_box hP1) hnp hC1.size ?_; intro v2 u2 hown2 hgrow2 hat2; have hC2 := hC1.grown hgrow2 hC1.size (own_block hown1); obtain ⟨A9, c9, rfl, hs9⟩ := SL_own (own_n hown2 HNN.out) hnq; have hps9 := hs9.1)
        | (refine step_append_parts_at rfl (.tmp 29) (.tmp 31) rfl w7.heap.size u1.heap.size v1 (0 + n1) ([] ++ e) rfl hown1 (some ⟨w7.heap.size, 0, none⟩) 1 1 [(2, 0)] rfl nomA (PS_box hP1) hnp hC1.size ?_; intro v2 u2 hown2 hgrow2 hat2; have hC2 := hC1.grown hgrow2 hC1.size (own_block hown1); obtain ⟨A9, c9, rfl, hs9⟩ := SL_own (own_n hown2 HNN.out) hnq; have hps9 := hs9.1)
        | (go_at_call 27; (with_reducible refine (implExprValid_any _ A9 _ c9 ([] ++ e ++ [(2, 0)]) hps9).mono ?_); rintro r u3 ⟨rfl, hb33⟩; rw [HM.out]; have hC3 := hC2.trans (hb33.mono hC2.size))
        | (go_at_call 27; (with_reducible refine (implExprValid_any _ _ _ _ (e.take m) (PS.take (SA _ hC3) m hmn)).mono ?_); rintro r u4 ⟨rfl, hb44⟩; rw [HT.out]; have hC4 := hC3.trans (hb44.mono hC3.size))
        | (go_at_call 30; (with_reducible refine (implPartNeeds_any K L _).mono ?_); rintro r u5 ⟨rfl, hb55⟩; have hC5 := hC4.trans (hb55.mono hC4.size)))
    all_goals
      go_wp2
      go_ret
      exact ⟨ret_bool (by simp), hbb7.trans (hC5.mono hbb7.size)⟩
end Go.Proofs.Ytdilcpeckkpdhaa

