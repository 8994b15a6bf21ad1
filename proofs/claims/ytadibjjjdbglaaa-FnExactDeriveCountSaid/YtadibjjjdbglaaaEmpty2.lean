/-
  Whether the empty word is in the language: the reference's walk, and both answers of any list.
-/
import Derived.Test.YtadibjjjdbglaaaEmpty
namespace Go.Proofs.Ytadibjjjdbglaaa
open Go.RowKit
set_option linter.unusedVariables false
set_option maxRecDepth 100000

set_option maxHeartbeats 2000000 in
theorem l2Empty_any (t : Ex) : ∀ (w : World) (A : Option Addr) (n c : Nat) (hg : t.good) (h : PS w w.heap.size A n t.flat) (hn : n ≤ 1000000) (hc : n ≤ c) (hcm : c ≤ maxLen),
    Calls Try.prog 99 #[.slice A n c] w fun r w' => r = .returned (.bool t.emp) ∧ Below w.heap.size w w' := by
  induction t with
  | leaf kd l =>
    intro w A n c hg h hn hc hcm
    obtain ⟨b, off, m, rfl, hbB, hnm, hm, hk, hl⟩ := h.last
    have HH := hide h
    have n1 : 1 ≤ n := by omega
    simp only [Ex.kind, Ex.lett] at hk hl
    have HNM := Lib.hid hnm
    clear h hnm hl
    have hg' := hg
    rcases hg' with ⟨rfl | rfl, rfl⟩ | ⟨rfl, h0, h2⟩
    all_goals
      go_enter Try.func99, Try.ntmps99
      go_wp2_with fail
      refine (l2Split_any _ _ _ _ _ hg (unhide HH) (by omega) hc hcm).mono ?_
      rintro r w1 ⟨g1, g2, rfl, hb⟩
      have hc0 := (hb.cell (p := ⟨b, off + m * 2, none⟩) hbB).trans hk
      clear hk
      go_wp2
      go_ret
      exact ⟨ret_bool (by simp [Ex.emp]), hb⟩
  | un kd a ih =>
    intro w A n c hg h hn hc hcm
    obtain ⟨b, off, m, rfl, hbB, hnm, hm, hk, hl⟩ := h.last
    have HH := hide h
    have HPA := hide (PS.un h)
    have HLA := Lib.hid h.len
    have n1 : 1 ≤ n := by omega
    simp only [Ex.kind, Ex.lett] at hk hl
    have HNM := Lib.hid hnm
    clear h hnm hl
    have hg' := hg
    rcases hg' with ⟨rfl | rfl, hga⟩
    · go_enter Try.func99, Try.ntmps99
      go_wp2_with fail
      refine (l2Split_any _ _ _ _ _ hg (unhide HH) (by omega) hc hcm).mono ?_
      rintro r w1 ⟨g2, rfl, hb⟩
      have hc0 := (hb.cell (p := ⟨b, off + m * 2, none⟩) hbB).trans hk
      clear hk
      go_wp2_with fail
      refine (ih _ _ _ _ hga ((unhide HPA).up hb) (by have := HLA.out; simp only [Ex.sz] at this; omega) (by have := HLA.out; simp only [Ex.sz] at this; omega) hcm).mono ?_
      rintro r w2 ⟨rfl, hb2⟩
      go_wp2
      go_ret
      exact ⟨ret_bool (by simp [Ex.emp]), hb.trans (hb2.mono hb.size)⟩
    · go_enter Try.func99, Try.ntmps99
      go_wp2_with fail
      refine (l2Split_any _ _ _ _ _ hg (unhide HH) (by omega) hc hcm).mono ?_
      rintro r w1 ⟨g2, rfl, hb⟩
      have hc0 := (hb.cell (p := ⟨b, off + m * 2, none⟩) hbB).trans hk
      clear hk
      go_wp2
      go_ret
      exact ⟨ret_bool (by simp [Ex.emp]), hb⟩
  | bin kd x y ihx ihy =>
    intro w A n c hg h hn hc hcm
    obtain ⟨b, off, m, rfl, hbB, hnm, hm, hk, hl⟩ := h.last
    have HH := hide h
    have HPA := hide (PS.bin h)
    have HLA := Lib.hid h.len
    have n1 : 1 ≤ n := by omega
    simp only [Ex.kind, Ex.lett] at hk hl
    have HNM := Lib.hid hnm
    clear h hnm hl
    have HG := hide hg
    obtain ⟨hkd, hgx, hgy⟩ := hg
    obtain ⟨X, hX⟩ : ∃ X, x.emp = X := ⟨_, rfl⟩
    have HX := Lib.hid hX
    have IHX : ∀ (w1 : World) (hb : Below w.heap.size w w1), Calls Try.prog 99 #[.slice (some ⟨b, off, none⟩) x.sz c] w1 fun r w' => r = .returned (.bool X) ∧ Below w1.heap.size w1 w' := fun w1 hb => by
      rw [← hX]
      exact ihx _ _ _ _ hgx ((unhide HPA).1.up hb) (by have := HLA.out; simp only [Ex.sz] at this; omega) (by have := HLA.out; simp only [Ex.sz] at this; omega) hcm
    have IHY : ∀ (w1 : World) (hb : Below w.heap.size w w1), Calls Try.prog 99 #[.slice (some ⟨b, off + x.sz * 2, none⟩) y.sz (c - x.sz)] w1 fun r w' => r = .returned (.bool y.emp) ∧ Below w1.heap.size w1 w' := fun w1 hb =>
      ihy _ _ _ _ hgy ((unhide HPA).2.up hb) (by have := HLA.out; simp only [Ex.sz] at this; omega) (by have := HLA.out; simp only [Ex.sz] at this; omega) (by omega)
    clear hX
    rcases hkd with rfl | rfl | rfl
    all_goals cases X
    all_goals
      go_enter Try.func99, Try.ntmps99
      go_wp2_with fail
      refine (l2Split_any _ _ _ _ _ (unhide HG) (unhide HH) (by omega) hc hcm).mono ?_
      rintro r w1 ⟨b', o', hA, rfl, hb⟩
      injection hA with hA
      injection hA with hA1 hA2
      subst hA1; subst hA2
      have hc0 := (hb.cell (p := ⟨b, off + m * 2, none⟩) hbB).trans hk
      clear hk
      go_wp2_with fail
      refine (IHX _ hb).mono ?_
      rintro r w2 ⟨rfl, hb2⟩
      have hbb := hb.trans (hb2.mono hb.size)
      first
        | (go_wp2_with fail
           refine (IHY _ hbb).mono ?_
           rintro r w3 ⟨rfl, hb3⟩
           go_wp2
           go_ret
           exact ⟨ret_bool (by simp [Ex.emp, HX.out]), hbb.trans (hb3.mono hbb.size)⟩)
        | (go_wp2
           go_ret
           exact ⟨ret_bool (by simp [Ex.emp, HX.out]), hbb⟩)
/-- Whether the empty word is in the language of a list of parts. -/
def EmpB (e : List Pt) (b : Bool) : Prop := (exprB e = false ∧ b = false) ∨ ∃ t : Ex, t.good ∧ t.flat = e ∧ t.sz ≤ 60 ∧ b = t.emp
theorem EmpB.uniq {e : List Pt} {a b : Bool} (ha : EmpB e a) (hb : EmpB e b) : a = b := by
  rcases ha with ⟨h1, rfl⟩ | ⟨t, g1, f1, s1, rfl⟩
  · rcases hb with ⟨h2, rfl⟩ | ⟨t, g1, f1, s1, rfl⟩
    · rfl
    · rw [← f1, exprB_flat g1 s1] at h1; cases h1
  · rcases hb with ⟨h2, rfl⟩ | ⟨u, g2, f2, s2, rfl⟩
    · rw [← f1, exprB_flat g1 s1] at h2; cases h2
    · rw [Ex.flat_inj g1 g2 (f1.trans f2.symm)]
def EmpD (w : World) (e : List Pt) (r : Ending) (w' : World) : Prop := ∃ b, r = .returned (.bool b) ∧ EmpB e b ∧ Below w.heap.size w w'
end Go.Proofs.Ytadibjjjdbglaaa
