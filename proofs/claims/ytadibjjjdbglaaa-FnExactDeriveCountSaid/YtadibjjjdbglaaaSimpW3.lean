/-
  Simplified expressions: the program's walks.
-/
import Derived.Test.YtadibjjjdbglaaaSimpW2
import Derived.Test.YtadibjjjdbglaaaTurn3
namespace Go.Proofs.Ytadibjjjdbglaaa
open Go.RowKit
set_option linter.unusedVariables false
set_option maxRecDepth 100000

theorem RetP.opn {w : World} {x : List Pt} {r : Ending} {w' : World} (h : RetP w x r w') : ∃ A n c, r = .returned (.slice A n c) ∧ SL w' w'.heap.size A n c x ∧ Below w.heap.size w w' := by
  obtain ⟨A, c, h1, h2, h3⟩ := h
  exact ⟨A, _, c, h1, h2, h3⟩
theorem RetP.shut {w w' : World} {A : Option Addr} {n c : Nat} {x : List Pt} (h : SL w' w'.heap.size A n c x) (hb : Below w.heap.size w w') : RetP w x (.returned (.slice A n c)) w' := by
  have := h.1.1
  subst this
  exact ⟨A, c, rfl, h, hb⟩
set_option maxHeartbeats 4000000 in
theorem simplified_any (t : Ex) : ∀ (w : World) (A : Option Addr) (n c : Nat) (hg : t.good) (h : SL w w.heap.size A n c t.flat) (hn : n ≤ 60),
    Calls Try.prog 52 #[.slice A n c] w (RetP w t.simp.flat) := by
  induction t with
  | leaf kd l =>
    intro w A n c hg h hn
    have hops := operands_any w A n c _ hg h.1 hn h.2.1 h.2.2.1
    obtain ⟨b, off, m, rfl, hbB, hnm, hm, hk, hl⟩ := h.1.last
    simp only [Ex.kind, Ex.lett] at hk hl
    have n1 : 1 ≤ n := by omega
    have HH := hide h
    have HNM := Lib.hid hnm
    clear h hnm hl
    go_enter Try.func52, Try.ntmps52
    go_wp2_with fail
    refine hops.mono ?_
    rintro r w1 ⟨rfl, hb⟩
    clear hk hops
    go_wp2
    go_ret
    exact RetP.of (unhide HH) hb
  | un kd a ih =>
    intro w A n c hg h hn
    have hops := operands_any w A n c _ hg h.1 hn h.2.1 h.2.2.1
    obtain ⟨b, off, m, rfl, hbB, hnm, hm, hk, hl⟩ := h.1.last
    simp only [Ex.kind] at hk
    have n1 : 1 ≤ n := by omega
    have hla := h.1.len
    simp only [Ex.sz] at hla
    have hcc := h.2.1
    have hcm := h.2.2.1
    have a1 : a.sz ≤ 60 := by omega
    have a2 : a.sz ≤ c := by omega
    have HA := hide (PS.un h.1)
    have HNM := Lib.hid hnm
    have hsl : a.simp.flat.length ≤ 60 := by rw [Ex.flat_length]; exact Nat.le_trans (Ex.simp_sz a) a1
    have HSLN := Lib.hid hsl
    obtain ⟨hkd, hga⟩ := hg
    have hgs := Ex.simp_good hga
    clear h hnm hl hla hsl
    rcases hkd with rfl | rfl
    · go_enter Try.func52, Try.ntmps52
      go_wp2_with fail
      refine hops.mono ?_
      rintro r w1 ⟨g, rfl, hgw, hcell, hb⟩
      have hcr : w1.cell? ⟨g, 0, none⟩ = some (.slice (some ⟨b, off, none⟩) a.sz c) := by rw [cell_of_row w1 _ 0 _ _ _ hcell]; rfl
      clear hcell hk hops
      go_wp2_with fail
      refine (ih _ _ _ _ hga (SL.tree ((unhide HA).up hb) a2 hcm) a1).mono ?_
      intro r w2 hd
      obtain ⟨A2, n2, c2, rfl, h2, hb2⟩ := hd.opn
      have hbb := hb.trans (hb2.mono hb.size)
      have hn2 : n2 ≤ 60 := by have := h2.1.1; have := HSLN.out; omega
      have H2 := hide h2
      clear h2 hd
      go_wp2_with fail
      refine (not_any _ hgs _ _ _ _ (unhide H2) (by omega)).mono ?_
      intro r w3 hd
      obtain ⟨A3, n3, c3, rfl, h3, hb3⟩ := hd.opn
      go_wp2
      go_ret
      exact RetP.shut h3 (hbb.trans (hb3.mono hbb.size))
    · go_enter Try.func52, Try.ntmps52
      go_wp2_with fail
      refine hops.mono ?_
      rintro r w1 ⟨g, rfl, hgw, hcell, hb⟩
      have hcr : w1.cell? ⟨g, 0, none⟩ = some (.slice (some ⟨b, off, none⟩) a.sz c) := by rw [cell_of_row w1 _ 0 _ _ _ hcell]; rfl
      clear hcell hk hops
      go_wp2_with fail
      refine (ih _ _ _ _ hga (SL.tree ((unhide HA).up hb) a2 hcm) a1).mono ?_
      intro r w2 hd
      obtain ⟨A2, n2, c2, rfl, h2, hb2⟩ := hd.opn
      have hbb := hb.trans (hb2.mono hb.size)
      have hn2 : n2 ≤ 60 := by have := h2.1.1; have := HSLN.out; omega
      have H2 := hide h2
      clear h2 hd
      go_wp2_with fail
      refine (star_any _ hgs _ _ _ _ (unhide H2) (by omega)).mono ?_
      intro r w3 hd
      obtain ⟨A3, n3, c3, rfl, h3, hb3⟩ := hd.opn
      go_wp2
      go_ret
      exact RetP.shut h3 (hbb.trans (hb3.mono hbb.size))
  | bin kd x y ihx ihy =>
    intro w A n c hg h hn
    have hops := operands_any w A n c _ hg h.1 hn h.2.1 h.2.2.1
    obtain ⟨b, off, m, rfl, hbB, hnm, hm, hk, hl⟩ := h.1.last
    simp only [Ex.kind] at hk
    have n1 : 1 ≤ n := by omega
    have hla := h.1.len
    simp only [Ex.sz] at hla
    have hcc := h.2.1
    have hcm := h.2.2.1
    have a1 : x.sz ≤ 60 := by omega
    have a2 : x.sz ≤ c := by omega
    have a3 : y.sz ≤ 60 := by omega
    have a4 : y.sz ≤ c - x.sz := by omega
    have a5 : c - x.sz ≤ maxLen := by omega
    have HA := hide (PS.bin h.1)
    have HNM := Lib.hid hnm
    have HX := Lib.hid (show x.simp.flat.length ≤ 60 by rw [Ex.flat_length]; exact Nat.le_trans (Ex.simp_sz x) a1)
    have HY := Lib.hid (show y.simp.flat.length ≤ 60 by rw [Ex.flat_length]; exact Nat.le_trans (Ex.simp_sz y) a3)
    obtain ⟨hkd, hgx, hgy⟩ := hg
    clear h hnm hl hla
    go_enter Try.func52, Try.ntmps52
    go_wp2_with fail
    refine hops.mono ?_
    rintro r w1 ⟨g, b', o', hA, rfl, hgw, hcell, hb⟩
    injection hA with hA
    injection hA with hA1 hA2
    subst hA1; subst hA2
    have hg1 : g < w1.heap.size := (Array.getElem?_eq_some_iff.1 hcell).1
    have hcr : w1.cell? ⟨g, 0, none⟩ = some (.slice (some ⟨b, off, none⟩) x.sz c) := by rw [cell_of_row w1 _ 0 _ _ _ hcell]; rfl
    have hcr2 : w1.cell? ⟨g, 1, none⟩ = some (.slice (some ⟨b, off + x.sz * 2, none⟩) y.sz (c - x.sz)) := by rw [cell_of_row w1 _ 1 _ _ _ hcell]; rfl
    have hS : ∀ W, Below w1.heap.size w1 W → W.cell? ⟨g, 0, none⟩ = some (.slice (some ⟨b, off, none⟩) x.sz c) ∧ W.cell? ⟨g, 1, none⟩ = some (.slice (some ⟨b, off + x.sz * 2, none⟩) y.sz (c - x.sz)) := fun W hW => ⟨(hW.cell (p := ⟨g, 0, none⟩) hg1).trans hcr, (hW.cell (p := ⟨g, 1, none⟩) hg1).trans hcr2⟩
    have SX : ∀ W, Below w1.heap.size w1 W → SL W W.heap.size (some ⟨b, off, none⟩) x.sz c x.flat := fun W hW => SL.tree (((unhide HA).1.up hb).up hW) a2 hcm
    have SY : ∀ W, Below w1.heap.size w1 W → SL W W.heap.size (some ⟨b, off + x.sz * 2, none⟩) y.sz (c - x.sz) y.flat := fun W hW => SL.tree (((unhide HA).2.up hb).up hW) a4 a5
    have BD : Below w1.heap.size w1 w1.drew := (Below.refl _ _).drew
    clear hcell hk hops
    have rest : ∀ (n : Nat) (x : Ex) (hx : x.simp.flat.length ≤ 60), x.simp.flat.length = n → n ≤ 100000 := fun n x hx h => by omega
    go_wp2
    go_region_held3 (fun w' => w'.cell? ⟨g, 0, none⟩ = some (.slice (some ⟨b, off, none⟩) x.sz c) ∧ w'.cell? ⟨g, 1, none⟩ = some (.slice (some ⟨b, off + x.sz * 2, none⟩) y.sz (c - x.sz)))
      (first
        | (refine hS _ ?_; exact BD)
        | (refine hS _ ?_; exact BD.trans (hbx.mono BD.size))
        | (refine hS _ ?_; exact BD.trans (hby.mono BD.size))
        | (refine hS _ ?_; exact (BD.trans (hbx.mono BD.size)).trans (hby.mono (Nat.le_trans BD.size hbx.size)))
        | (refine hS _ ?_; exact (BD.trans (hby.mono BD.size)).trans (hbx.mono (Nat.le_trans BD.size hby.size)))
        | (refine hS _ ?_; exact ((BD.trans (hbx.mono BD.size)).trans (hby.mono (Nat.le_trans BD.size hbx.size))).trans (hbm.mono (Nat.le_trans (Nat.le_trans BD.size hbx.size) hby.size)))
        | (refine hS _ ?_; exact ((BD.trans (hby.mono BD.size)).trans (hbx.mono (Nat.le_trans BD.size hby.size))).trans (hbm.mono (Nat.le_trans (Nat.le_trans BD.size hby.size) hbx.size))))
      (first
        | (go_at_call 52; (with_reducible refine (ihx _ _ _ _ hgx (SX _ BD) a1).mono ?_); intro r wx hd; obtain ⟨A1, N1, c1, rfl, h1, hbx⟩ := hd.opn; have hn1 := rest N1 x HX.out h1.1.1; clear hd)
        | (go_at_call 52; (with_reducible refine (ihy _ _ _ _ hgy (SY _ BD) a3).mono ?_); intro r wy hd; obtain ⟨A2, N2, c2, rfl, h2, hby⟩ := hd.opn; have hn2 := rest N2 y HY.out h2.1.1; clear hd)
        | (go_at_call 52; (with_reducible refine (ihy _ _ _ _ hgy (SY _ (BD.trans (hbx.mono BD.size))) a3).mono ?_); intro r wy hd; obtain ⟨A2, N2, c2, rfl, h2, hby⟩ := hd.opn; have hn2 := rest N2 y HY.out h2.1.1; clear hd)
        | (go_at_call 52; (with_reducible refine (ihx _ _ _ _ hgx (SX _ (BD.trans (hby.mono BD.size))) a1).mono ?_); intro r wx hd; obtain ⟨A1, N1, c1, rfl, h1, hbx⟩ := hd.opn; have hn1 := rest N1 x HX.out h1.1.1; clear hd)
        | (go_at_call 84; (with_reducible refine (made_any kd x.simp y.simp _ _ _ _ _ _ _ (h1.up hby) h2 hn1 hn2).mono ?_); intro r wm hd; obtain ⟨A3, N3, c3, rfl, h3, hbm⟩ := hd.opn; clear hd)
        | (go_at_call 84; (with_reducible refine (made_any kd x.simp y.simp _ _ _ _ _ _ _ h1 (h2.up hbx) hn1 hn2).mono ?_); intro r wm hd; obtain ⟨A3, N3, c3, rfl, h3, hbm⟩ := hd.opn; clear hd))
    go_wp2
    go_ret
    exact RetP.shut h3 (hb.trans ((((BD.trans (hbx.mono BD.size)).trans (hby.mono (Nat.le_trans BD.size hbx.size))).trans (hbm.mono (Nat.le_trans (Nat.le_trans BD.size hbx.size) hby.size))).mono hb.size))
theorem simp_len {e a : List Pt} (h : FlatR Ex.simp e a) : a.length ≤ 60 := h.len Ex.simp_sz
theorem implSimp_all (w : World) (A : Option Addr) (n c : Nat) (e : List Pt) (h : PS w w.heap.size A n e) (hn : n ≤ 1000000000) (hc : n ≤ c) (hcm : c ≤ maxLen) :
    Calls Try.prog 16 #[.slice A n c] w (RelD w (FlatR Ex.simp e)) := by
  have HH := hide h
  rcases hv : exprB e
  · have HV := Lib.hid hv
    clear hv h
    go_enter Try.func16, Try.ntmps16
    go_wp2_with fail
    refine (implExprValid_any _ _ _ _ e (unhide HH)).mono ?_
    rintro r w1 ⟨rfl, hb⟩
    rw [HV.out]
    go_wp2
    go_ret
    exact RelD.nil (.inl ⟨HV.out, rfl⟩) hb
  · obtain ⟨t, hg, rfl, hs⟩ := exprB_iff.1 hv
    have HV := Lib.hid hv
    have HR := hide (show FlatR Ex.simp t.flat t.simp.flat from .inr ⟨t, hg, rfl, hs, rfl⟩)
    clear hv h
    go_enter Try.func16, Try.ntmps16
    go_wp2_with fail
    refine (implExprValid_any _ _ _ _ _ (unhide HH)).mono ?_
    rintro r w1 ⟨rfl, hb⟩
    rw [HV.out]
    go_wp2_with fail
    refine (simplified_any t _ _ _ _ hg (SL.tree ((unhide HH).up hb) hc hcm) (by rw [(unhide HH).len]; exact hs)).mono ?_
    intro r w2 hd
    obtain ⟨A2, n2, c2, rfl, h2, hb2⟩ := hd.opn
    have hn2 : n2 ≤ 60 := by have h3 := h2.1.1; have h4 := simp_len (unhide HR); omega
    have hbb := hb.trans (hb2.mono hb.size)
    have H2 := hide h2
    clear h2 hd
    go_wp2_with fail
    refine (clone_any _ _ _ _ _ (unhide H2) (by omega)).mono ?_
    rintro r w3 ⟨v, rfl, h3, h4⟩
    go_wp2
    go_ret
    exact RelD.behind (unhide HR) hbb ⟨v, rfl, h3, h4⟩
/-- Whether a list of parts is simple. -/
def SimB (e : List Pt) (b : Bool) : Prop := (exprB e = false ∧ b = false) ∨ ∃ t : Ex, t.good ∧ t.flat = e ∧ t.sz ≤ 60 ∧ b = decide (t.simp.flat = t.flat)
theorem SimB.uniq {e : List Pt} {a b : Bool} (ha : SimB e a) (hb : SimB e b) : a = b := by
  rcases ha with ⟨h1, rfl⟩ | ⟨t, g1, f1, s1, rfl⟩
  · rcases hb with ⟨h2, rfl⟩ | ⟨t, g1, f1, s1, rfl⟩
    · rfl
    · rw [← f1, exprB_flat g1 s1] at h1; cases h1
  · rcases hb with ⟨h2, rfl⟩ | ⟨u, g2, f2, s2, rfl⟩
    · rw [← f1, exprB_flat g1 s1] at h2; cases h2
    · rw [Ex.flat_inj g1 g2 (f1.trans f2.symm)]
def SimD (w : World) (e : List Pt) (r : Ending) (w' : World) : Prop := ∃ b, r = .returned (.bool b) ∧ SimB e b ∧ Below w.heap.size w w'
theorem implIsSimple_all (w : World) (A : Option Addr) (n c : Nat) (e : List Pt) (h : PS w w.heap.size A n e) (hn : n ≤ 1000000000) (hc : n ≤ c) (hcm : c ≤ maxLen) :
    Calls Try.prog 25 #[.slice A n c] w (SimD w e) := by
  have HH := hide h
  rcases hv : exprB e
  · have HV := Lib.hid hv
    clear hv h
    go_enter Try.func25, Try.ntmps25
    go_wp2_with fail
    refine (implExprValid_any _ _ _ _ e (unhide HH)).mono ?_
    rintro r w1 ⟨rfl, hb⟩
    rw [HV.out]
    go_wp2
    go_ret
    exact ⟨_, rfl, .inl ⟨HV.out, rfl⟩, hb⟩
  · obtain ⟨t, hg, rfl, hs⟩ := exprB_iff.1 hv
    have HV := Lib.hid hv
    have HR := hide (show FlatR Ex.simp t.flat t.simp.flat from .inr ⟨t, hg, rfl, hs, rfl⟩)
    clear hv h
    go_enter Try.func25, Try.ntmps25
    go_wp2_with fail
    refine (implExprValid_any _ _ _ _ _ (unhide HH)).mono ?_
    rintro r w1 ⟨rfl, hb⟩
    rw [HV.out]
    go_wp2_with fail
    refine (simplified_any t _ _ _ _ hg (SL.tree ((unhide HH).up hb) hc hcm) (by rw [(unhide HH).len]; exact hs)).mono ?_
    intro r w2 hd
    obtain ⟨A2, n2, c2, rfl, h2, hb2⟩ := hd.opn
    have hn2 : n2 ≤ 60 := by have h3 := h2.1.1; have h4 := simp_len (unhide HR); omega
    have hbb := hb.trans (hb2.mono hb.size)
    have H2 := hide h2
    clear h2 hd
    go_wp2_with fail
    refine (equal_any _ _ _ _ _ _ _ _ _ (unhide H2).1 ((unhide HH).up hbb) (by omega) (by omega)).mono ?_
    rintro r w3 ⟨rfl, hb3⟩
    go_wp2
    go_ret
    exact ⟨_, rfl, .inr ⟨t, hg, rfl, hs, rfl⟩, hbb.trans (hb3.mono hbb.size)⟩
end Go.Proofs.Ytadibjjjdbglaaa
