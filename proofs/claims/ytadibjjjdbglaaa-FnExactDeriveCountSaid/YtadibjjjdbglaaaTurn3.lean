/-
  Turned expressions, of any list of parts.
-/
import Derived.Test.YtadibjjjdbglaaaTurn2
namespace Go.Proofs.Ytadibjjjdbglaaa
open Go.RowKit
set_option linter.unusedVariables false
set_option maxRecDepth 100000

/-- What a function on trees makes of any list of parts. -/
def FlatR (f : Ex → Ex) (e x : List Pt) : Prop := (exprB e = false ∧ x = []) ∨ ∃ t : Ex, t.good ∧ t.flat = e ∧ t.sz ≤ 60 ∧ x = (f t).flat
theorem FlatR.uniq {f : Ex → Ex} {e a b : List Pt} (ha : FlatR f e a) (hb : FlatR f e b) : a = b := by
  rcases ha with ⟨h1, rfl⟩ | ⟨t, g1, f1, s1, rfl⟩
  · rcases hb with ⟨h2, rfl⟩ | ⟨t, g1, f1, s1, rfl⟩
    · rfl
    · rw [← f1, exprB_flat g1 s1] at h1; cases h1
  · rcases hb with ⟨h2, rfl⟩ | ⟨u, g2, f2, s2, rfl⟩
    · rw [← f1, exprB_flat g1 s1] at h2; cases h2
    · rw [Ex.flat_inj g1 g2 (f1.trans f2.symm)]
theorem FlatR.len {f : Ex → Ex} (hf : ∀ t, (f t).sz ≤ t.sz) {e a : List Pt} (h : FlatR f e a) : a.length ≤ 60 := by
  rcases h with ⟨-, rfl⟩ | ⟨t, -, -, hs, rfl⟩
  · simp
  · rw [Ex.flat_length]; exact Nat.le_trans (hf t) hs
theorem turn_len {e a : List Pt} (h : FlatR Ex.turn e a) : a.length ≤ 60 := h.len fun t => by rw [Ex.turn_sz]; exact Nat.le_refl _
theorem specTurn_all (w : World) (A : Option Addr) (n c : Nat) (e : List Pt) (h : PS w w.heap.size A n e) (hn : n ≤ 1000000000) (hc : n ≤ c) (hcm : c ≤ maxLen) :
    Calls Try.prog 40 #[.slice A n c] w (RelD w (FlatR Ex.turn e)) := by
  rcases hv : exprB e
  · have HH := hide h
    have HV := Lib.hid hv
    clear hv h
    go_enter Try.func40, Try.ntmps40
    go_wp2_with fail
    refine (specExprValid_any _ _ _ _ e (unhide HH) hn).mono ?_
    rintro r w1 ⟨rfl, hb⟩
    rw [HV.out]
    go_wp2
    go_ret
    exact ⟨[], .inl ⟨HV.out, rfl⟩, _, rfl, own_empty _ _ _ hb.size, hb.alloc hb.size _⟩
  · obtain ⟨t, hg, rfl, hs⟩ := exprB_iff.1 hv
    exact (specTurn_any t w A n c hg h (by rw [h.len]; exact hs) hc hcm).mono fun r w' h => ⟨_, .inr ⟨t, hg, rfl, hs, rfl⟩, h⟩
theorem implTurn_all (w : World) (A : Option Addr) (n c : Nat) (e : List Pt) (h : PS w w.heap.size A n e) (hn : n ≤ 1000000000) (hc : n ≤ c) (hcm : c ≤ maxLen) :
    Calls Try.prog 39 #[.slice A n c] w (RelD w (FlatR Ex.turn e)) := by
  have HH := hide h
  rcases hv : exprB e
  · have HV := Lib.hid hv
    clear hv h
    go_enter Try.func39, Try.ntmps39
    go_wp2_with fail
    refine (implExprValid_any _ _ _ _ e (unhide HH)).mono ?_
    rintro r w1 ⟨rfl, hb⟩
    rw [HV.out]
    go_wp2
    go_ret
    exact RelD.nil (.inl ⟨HV.out, rfl⟩) hb
  · obtain ⟨t, hg, rfl, hs⟩ := exprB_iff.1 hv
    have HV := Lib.hid hv
    clear hv h
    go_enter Try.func39, Try.ntmps39
    go_wp2_with fail
    refine (implExprValid_any _ _ _ _ _ (unhide HH)).mono ?_
    rintro r w1 ⟨rfl, hb⟩
    rw [HV.out]
    go_wp2_with fail
    refine (turnedExpr_any t _ _ _ _ hg ((unhide HH).up hb) (by rw [(unhide HH).len]; exact hs) hc hcm).mono ?_
    rintro r w2 ⟨v, rfl, h1, h2⟩
    go_wp2
    go_ret
    exact RelD.behind (.inr ⟨t, hg, rfl, hs, rfl⟩) hb ⟨v, rfl, h1, h2⟩
end Go.Proofs.Ytadibjjjdbglaaa
