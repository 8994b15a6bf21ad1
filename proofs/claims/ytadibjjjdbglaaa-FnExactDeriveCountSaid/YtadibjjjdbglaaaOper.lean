/-
  The operands that the program hands out: fresh copies. The walks of both.
-/
import Derived.Test.YtadibjjjdbglaaaDepth
namespace Go.Proofs.Ytadibjjjdbglaaa
open Go.RowKit
set_option linter.unusedVariables false
set_option maxRecDepth 100000

/-- An operand of the last part. -/
def Ex.opd : Ex → Nat → List Pt
  | .leaf _ _, _ => []
  | .un _ a, k => if k = 0 then a.flat else []
  | .bin _ a b, k => if k = 0 then a.flat else b.flat
def OpR (k : Nat) (e x : List Pt) : Prop := (exprB e = false ∧ x = []) ∨ ∃ t : Ex, t.good ∧ t.flat = e ∧ t.sz ≤ 60 ∧ x = t.opd k
theorem OpR.uniq {k : Nat} {e a b : List Pt} (ha : OpR k e a) (hb : OpR k e b) : a = b := by
  rcases ha with ⟨h1, rfl⟩ | ⟨t, g1, f1, s1, rfl⟩
  · rcases hb with ⟨h2, rfl⟩ | ⟨t, g1, f1, s1, rfl⟩
    · rfl
    · rw [← f1, exprB_flat g1 s1] at h1; cases h1
  · rcases hb with ⟨h2, rfl⟩ | ⟨u, g2, f2, s2, rfl⟩
    · rw [← f1, exprB_flat g1 s1] at h2; cases h2
    · rw [Ex.flat_inj g1 g2 (f1.trans f2.symm)]
theorem OpR.len {k : Nat} {e a : List Pt} (h : OpR k e a) : a.length ≤ 60 := by
  rcases h with ⟨-, rfl⟩ | ⟨t, -, -, hs, rfl⟩
  · simp
  · cases t with
    | leaf k l => simp [Ex.opd]
    | un k a => simp only [Ex.opd, Ex.sz] at *; split <;> simp [Ex.flat_length]; omega
    | bin k a b => simp only [Ex.opd, Ex.sz] at *; split <;> simp [Ex.flat_length] <;> omega
/-- What leaves a row of parts of the call's own, of some list that stands in a relation. -/
def RelD (w : World) (R : List Pt → Prop) (r : Ending) (w' : World) : Prop := ∃ x, R x ∧ OwnD w x r w'
theorem RelD.nil {w w' : World} {R : List Pt → Prop} (h : R []) (hb : Below w.heap.size w w') : RelD w R (.returned (.slice none 0 0)) w' := ⟨[], h, _, rfl, own_nil _ _ _, hb⟩
/-- Behind what made memory before. -/
theorem RelD.behind {w w1 w2 : World} {R : List Pt → Prop} {e : Ending} {x : List Pt} (hx : R x) (hb : Below w.heap.size w w1) (h : OwnD w1 x e w2) : RelD w R e w2 := by
  obtain ⟨v, rfl, h1, h2⟩ := h
  refine ⟨x, hx, v, rfl, ?_, hb.trans (h2.mono hb.size)⟩
  obtain ⟨h3, h4⟩ := h1
  refine ⟨h3, ?_⟩
  rcases h4 with h4 | ⟨g, cap, cur, q1, q2, q3⟩
  · exact .inl h4
  · exact .inr ⟨g, cap, cur, q1, by have := hb.size; omega, q3⟩
set_option maxHeartbeats 4000000 in
theorem operand_any (w : World) (A : Option Addr) (n c : Nat) (e : List Pt) (k : Nat) (hk1 : k ≤ 1) (h : PS w w.heap.size A n e) (hc : n ≤ c) (hcm : c ≤ maxLen) :
    Calls Try.prog 76 #[.slice A n c, .int .i64 (k : Int)] w (RelD w (OpR k e)) := by
  rcases hv : exprB e
  · have HV := Lib.hid hv
    have HH := hide h
    clear h hv
    go_enter Try.func76, Try.ntmps76
    go_wp2_with fail
    refine (implExprValid_any _ _ _ _ e (unhide HH)).mono ?_
    rintro r w1 ⟨rfl, hb⟩
    rw [HV.out]
    go_wp2
    go_ret
    exact RelD.nil (.inl ⟨HV.out, rfl⟩) hb
  · obtain ⟨t, hg, rfl, hs⟩ := exprB_iff.1 hv
    have HV := Lib.hid hv
    obtain ⟨b, off, m, rfl, hbB, hnm, hm, hk, hl⟩ := h.last
    have hnd : needN t.kind = t.ar := Ex.need_ar hg
    have hR : OpR k t.flat (t.opd k) := .inr ⟨t, hg, rfl, hs, rfl⟩
    have HR := hide hR
    have HS := Lib.hid hs
    have HLEN := Lib.hid h.len
    have n1 : 1 ≤ n := by omega
    have n60 : n ≤ 60 := by rw [h.len]; exact hs
    have hops := fun W (hb : Below w.heap.size w W) => operands_any W _ n c t hg (h.up hb) n60 hc hcm
    have HOPS := hide hops
    have HH := hide h
    obtain ⟨K, hK⟩ : ∃ K, t.kind = K := ⟨_, rfl⟩
    obtain ⟨L, hL⟩ : ∃ L, t.lett = L := ⟨_, rfl⟩
    rw [hK] at hk hnd
    rw [hL] at hl
    have HNM := Lib.hid hnm
    clear h hv hnm hR hK hL hops
    cases t with
    | leaf k' l' =>
      have hn0 : needN K = 0 := hnd
      have HN0 := Lib.hid hn0
      clear hnd hn0
      go_enter Try.func76, Try.ntmps76
      go_wp2_with fail
      refine (implExprValid_any _ _ _ _ _ (unhide HH)).mono ?_
      rintro r w1 ⟨rfl, hb⟩
      rw [HV.out]
      have hc0 := (hb.cell (p := ⟨b, off + m * 2, none⟩) hbB).trans hk
      have hc1 := (hb.cell (p := ⟨b, off + m * 2 + 1, none⟩) hbB).trans hl
      clear hk hl
      go_wp2_with fail
      refine (needs_any _ _ _).mono ?_
      rintro r w2 ⟨rfl, rfl⟩
      rw [HN0.out]
      go_wp2
      go_ret
      exact RelD.nil (unhide HR) (hb.alloc hb.size _)
    | un k' a =>
      have hn0 : needN K = 1 := hnd
      have HN0 := Lib.hid hn0
      clear hnd hn0
      have HPA := hide (PS.un (unhide HH))
      have hla := HLEN.out
      simp only [Ex.sz] at hla
      have a1 : a.sz ≤ 60 := by omega
      have a2 : a.sz ≤ c := by omega
      have HLA := Lib.hid hla
      clear hla
      rcases (show k = 0 ∨ k = 1 by omega) with rfl | rfl
      · go_enter Try.func76, Try.ntmps76
        go_wp2_with fail
        refine (implExprValid_any _ _ _ _ _ (unhide HH)).mono ?_
        rintro r w1 ⟨rfl, hb⟩
        rw [HV.out]
        have hc0 := (hb.cell (p := ⟨b, off + m * 2, none⟩) hbB).trans hk
        have hc1 := (hb.cell (p := ⟨b, off + m * 2 + 1, none⟩) hbB).trans hl
        clear hk hl
        go_wp2_with fail
        refine (needs_any _ _ _).mono ?_
        rintro r w2 ⟨rfl, rfl⟩
        rw [HN0.out]
        have hb2 := hb.alloc hb.size (pbox K L)
        go_wp2_with fail
        refine ((unhide HOPS) _ hb2).mono ?_
        rintro r w3 ⟨g, rfl, hgw, hcell, hb3⟩
        have hbb := hb2.trans (hb3.mono hb2.size)
        have hcr : w3.cell? ⟨g, 0, none⟩ = some (.slice (some ⟨b, off, none⟩) a.sz c) := by rw [cell_of_row w3 _ 0 _ _ _ hcell]; rfl
        clear hcell
        go_wp2_with fail
        refine (clone_any _ _ _ _ a.flat (SL.tree ((unhide HPA).up hbb) a2 hcm) (by omega)).mono ?_
        intro r w4 h4
        obtain ⟨v, rfl, h5, h6⟩ := h4
        go_wp2
        go_ret
        exact RelD.behind (unhide HR) hbb ⟨v, rfl, h5, h6⟩
      · go_enter Try.func76, Try.ntmps76
        go_wp2_with fail
        refine (implExprValid_any _ _ _ _ _ (unhide HH)).mono ?_
        rintro r w1 ⟨rfl, hb⟩
        rw [HV.out]
        have hc0 := (hb.cell (p := ⟨b, off + m * 2, none⟩) hbB).trans hk
        have hc1 := (hb.cell (p := ⟨b, off + m * 2 + 1, none⟩) hbB).trans hl
        clear hk hl
        go_wp2_with fail
        refine (needs_any _ _ _).mono ?_
        rintro r w2 ⟨rfl, rfl⟩
        rw [HN0.out]
        go_wp2
        go_ret
        exact RelD.nil (unhide HR) (hb.alloc hb.size _)
    | bin k' x y =>
      have hn0 : needN K = 2 := hnd
      have HN0 := Lib.hid hn0
      clear hnd hn0
      have HPA := hide (PS.bin (unhide HH))
      have hla := HLEN.out
      simp only [Ex.sz] at hla
      have a1 : x.sz ≤ 60 := by omega
      have a2 : x.sz ≤ c := by omega
      have a3 : y.sz ≤ 60 := by omega
      have a4 : y.sz ≤ c - x.sz := by omega
      have a5 : c - x.sz ≤ maxLen := by omega
      have HLA := Lib.hid hla
      clear hla
      rcases (show k = 0 ∨ k = 1 by omega) with rfl | rfl
      all_goals
        go_enter Try.func76, Try.ntmps76
        go_wp2_with fail
        refine (implExprValid_any _ _ _ _ _ (unhide HH)).mono ?_
        rintro r w1 ⟨rfl, hb⟩
        rw [HV.out]
        have hc0 := (hb.cell (p := ⟨b, off + m * 2, none⟩) hbB).trans hk
        have hc1 := (hb.cell (p := ⟨b, off + m * 2 + 1, none⟩) hbB).trans hl
        clear hk hl
        go_wp2_with fail
        refine (needs_any _ _ _).mono ?_
        rintro r w2 ⟨rfl, rfl⟩
        rw [HN0.out]
        have hb2 := hb.alloc hb.size (pbox K L)
        go_wp2_with fail
        refine ((unhide HOPS) _ hb2).mono ?_
        rintro r w3 ⟨g, b', o', hA, rfl, hgw, hcell, hb3⟩
        injection hA with hA
        injection hA with hA1 hA2
        subst hA1; subst hA2
        have hbb := hb2.trans (hb3.mono hb2.size)
        have hcr : w3.cell? ⟨g, 0, none⟩ = some (.slice (some ⟨b, off, none⟩) x.sz c) := by rw [cell_of_row w3 _ 0 _ _ _ hcell]; rfl
        have hcr2 : w3.cell? ⟨g, 1, none⟩ = some (.slice (some ⟨b, off + x.sz * 2, none⟩) y.sz (c - x.sz)) := by rw [cell_of_row w3 _ 1 _ _ _ hcell]; rfl
        clear hcell
        go_wp2_with fail
        first
          | refine (clone_any _ _ _ _ x.flat (SL.tree ((unhide HPA).1.up hbb) a2 hcm) (by omega)).mono ?_
          | refine (clone_any _ _ _ _ y.flat (SL.tree ((unhide HPA).2.up hbb) a4 a5) (by omega)).mono ?_
        intro r w4 h4
        obtain ⟨v, rfl, h5, h6⟩ := h4
        go_wp2
        go_ret
        exact RelD.behind (unhide HR) hbb ⟨v, rfl, h5, h6⟩
theorem implFirst_all (w : World) (A : Option Addr) (n c : Nat) (e : List Pt) (h : PS w w.heap.size A n e) (hc : n ≤ c) (hcm : c ≤ maxLen) :
    Calls Try.prog 45 #[.slice A n c] w (RelD w (OpR 0 e)) := by
  have HH := hide h
  clear h
  go_enter Try.func45, Try.ntmps45
  go_wp2_with fail
  refine (operand_any _ _ _ _ e 0 (by omega) (unhide HH) hc hcm).mono ?_
  rintro r w1 ⟨x, hx, v, rfl, h1, h2⟩
  go_wp2
  go_ret
  exact ⟨x, hx, v, rfl, h1, h2⟩
theorem implSecond_all (w : World) (A : Option Addr) (n c : Nat) (e : List Pt) (h : PS w w.heap.size A n e) (hc : n ≤ c) (hcm : c ≤ maxLen) :
    Calls Try.prog 46 #[.slice A n c] w (RelD w (OpR 1 e)) := by
  have HH := hide h
  clear h
  go_enter Try.func46, Try.ntmps46
  go_wp2_with fail
  refine (operand_any _ _ _ _ e 1 (by omega) (unhide HH) hc hcm).mono ?_
  rintro r w1 ⟨x, hx, v, rfl, h1, h2⟩
  go_wp2
  go_ret
  exact ⟨x, hx, v, rfl, h1, h2⟩
end Go.Proofs.Ytadibjjjdbglaaa
