/-
  How deep an expression is: the walks.
-/
import Derived.Test.YtdilcpeckkpdhaaSplit
import Derived.Test.YtdilcpeckkpdhaaLists
import Derived.Test.YtdilcpeckkpdhaaSimp
namespace Go.Proofs.Ytdilcpeckkpdhaa
open Go.RowKit
set_option linter.unusedVariables false
set_option maxRecDepth 100000

/-- How deep a tree is. -/
def Ex.dep : Ex → Nat
  | .leaf _ _ => 0
  | .un _ a => a.dep + 1
  | .bin _ a b => max a.dep b.dep + 1
theorem Ex.dep_lt (t : Ex) : t.dep < t.sz := by
  induction t with
  | leaf k l => simp [dep, sz]
  | un k a ih => simp [dep, sz, ih]
  | bin k a b iha ihb => simp only [dep, sz]; omega
set_option maxHeartbeats 2000000 in
theorem depth_any (t : Ex) : ∀ (w : World) (A : Option Addr) (n c : Nat) (hg : t.good) (h : PS w w.heap.size A n t.flat) (hn : n ≤ 60) (hc : n ≤ c) (hcm : c ≤ maxLen),
    Calls Try.prog 41 #[.slice A n c] w fun r w' => r = .returned (.int .i64 (t.dep : Int)) ∧ Below w.heap.size w w' := by
  induction t with
  | leaf k l =>
    intro w A n c hg h hn hc hcm
    have ho := operands_any w A n c _ hg h hn hc hcm
    go_enter Try.func41, Try.ntmps41
    go_wp2_with fail
    refine ho.mono ?_
    rintro r w1 ⟨rfl, hb⟩
    go_wp2
    go_loopw [3, 9] (fun d i wr => d = .int .i64 (-1) ∧ i = .int .i64 0 ∧ Below w.heap.size w wr) (fun _ _ _ => 0)
    case atStart => exact ⟨rfl, rfl, hb⟩
    case round =>
      obtain ⟨rfl, rfl, hb⟩ := hrel
      go_wp2
      go_ret
      exact ⟨ret_int rfl, hb⟩
  | un k a ih =>
    intro w A n c hg h hn hc hcm
    have ho := operands_any w A n c _ hg h hn hc hcm
    have hpa := PS.un h
    have hla := h.len
    simp only [Ex.sz] at hla
    have HLA := Lib.hid hla
    have HPA := hide hpa
    clear h hpa hla
    go_enter Try.func41, Try.ntmps41
    go_wp2_with fail
    refine ho.mono ?_
    rintro r w1 ⟨g, rfl, hgw, hcell, hb⟩
    have hg1 : g < w1.heap.size := (Array.getElem?_eq_some_iff.1 hcell).1
    have hz := hb.size
    go_wp2
    go_loopw [3, 9] (fun d i wr => ((i = .int .i64 0 ∧ d = .int .i64 (-1)) ∨ (i = .int .i64 1 ∧ d = .int .i64 (a.dep : Int))) ∧ Below w1.heap.size w1 wr) (fun _ i _ => 1 - (intOf i).toNat)
    case atStart => exact ⟨.inl ⟨rfl, rfl⟩, Below.refl _ _⟩
    case round =>
      obtain ⟨⟨rfl, rfl⟩ | ⟨rfl, rfl⟩, hbr⟩ := hrel
      · have hcr : wr.cell? ⟨g, 0, none⟩ = some (.slice A a.sz c) := (hbr.cell (p := ⟨g, 0, none⟩) hg1).trans (by rw [cell_of_row w1 _ 0 _ _ _ hcell]; rfl)
        have hbb := hb.trans (hbr.mono hz)
        have hda := Ex.dep_lt a
        go_wp2_with fail
        refine (ih wr A a.sz c hg.2 ((unhide HPA).keep hbb.size fun b o hlt => hbb.cell (p := ⟨b, o, none⟩) hlt) (by have := HLA.out; omega) (by have := HLA.out; omega) hcm).mono ?_
        rintro r w2 ⟨rfl, hb2⟩
        go_wp2
        go_roundw
        case rel => exact ⟨.inr ⟨rfl, by congr 1⟩, hbr.trans (hb2.mono hbr.size)⟩
        case measure => simp [intOf]
      · have hda := Ex.dep_lt a
        have hd1 : (a.dep : Int) ≤ 60 := by have := HLA.out; omega
        clear hda
        go_wp2
        go_ret
        exact ⟨ret_int (by simp only [Ex.dep]; first | omega | go_num), hb.trans (hbr.mono hz)⟩
  | bin k a b iha ihb =>
    intro w A n c hg h hn hc hcm
    have hp0 : 0 < n := by have := h.len; have := Ex.sz_pos (Ex.bin k a b); omega
    have ho := operands_any w A n c _ hg h hn hc hcm
    obtain ⟨bA, off, rfl, hbA⟩ := h.addr hp0
    have hpa := PS.bin h
    have hla := h.len
    simp only [Ex.sz] at hla
    have HLA := Lib.hid hla
    have HPA := hide hpa
    clear h hpa hla hp0
    go_enter Try.func41, Try.ntmps41
    go_wp2_with fail
    refine ho.mono ?_
    rintro r w1 ⟨g, b', o', hA, rfl, hgw, hcell, hb⟩
    injection hA with hA
    injection hA with hA1 hA2
    subst hA1; subst hA2
    have hg1 : g < w1.heap.size := (Array.getElem?_eq_some_iff.1 hcell).1
    have hz := hb.size
    have hd1 : (a.dep : Int) ≤ 60 := by have := HLA.out; have := Ex.dep_lt a; omega
    have hd2 : (b.dep : Int) ≤ 60 := by have := HLA.out; have := Ex.dep_lt b; omega
    go_wp2
    go_loopw [3, 9] (fun d i wr => ((i = .int .i64 0 ∧ d = .int .i64 (-1)) ∨ (i = .int .i64 1 ∧ d = .int .i64 (a.dep : Int)) ∨ (i = .int .i64 2 ∧ d = .int .i64 ((max a.dep b.dep : Nat) : Int))) ∧ Below w1.heap.size w1 wr) (fun _ i _ => 2 - (intOf i).toNat)
    case atStart => exact ⟨.inl ⟨rfl, rfl⟩, Below.refl _ _⟩
    case round =>
      obtain ⟨⟨rfl, rfl⟩ | ⟨rfl, rfl⟩ | ⟨rfl, rfl⟩, hbr⟩ := hrel
      · have hcr : wr.cell? ⟨g, 0, none⟩ = some (.slice (some ⟨bA, off, none⟩) a.sz c) := (hbr.cell (p := ⟨g, 0, none⟩) hg1).trans (by rw [cell_of_row w1 _ 0 _ _ _ hcell]; rfl)
        have hbb := hb.trans (hbr.mono hz)
        go_wp2_with fail
        refine (iha wr _ a.sz c hg.2.1 ((unhide HPA).1.keep hbb.size fun b o hlt => hbb.cell (p := ⟨b, o, none⟩) hlt) (by have := HLA.out; omega) (by have := HLA.out; omega) hcm).mono ?_
        rintro r w2 ⟨rfl, hb2⟩
        go_wp2
        go_roundw
        case rel => exact ⟨.inr (.inl ⟨rfl, by congr 1⟩), hbr.trans (hb2.mono hbr.size)⟩
        case measure => simp [intOf]
      · have hcr : wr.cell? ⟨g, 1, none⟩ = some (.slice (some ⟨bA, off + a.sz * 2, none⟩) b.sz (c - a.sz)) := (hbr.cell (p := ⟨g, 1, none⟩) hg1).trans (by rw [cell_of_row w1 _ 1 _ _ _ hcell]; rfl)
        have hbb := hb.trans (hbr.mono hz)
        go_wp2_with fail
        refine (ihb wr _ b.sz (c - a.sz) hg.2.2 ((unhide HPA).2.keep hbb.size fun b o hlt => hbb.cell (p := ⟨b, o, none⟩) hlt) (by have := HLA.out; omega) (by have := HLA.out; omega) (by omega)).mono ?_
        rintro r w2 ⟨rfl, hb2⟩
        go_wp2
        go_roundw
        case rel => exact ⟨.inr (.inr ⟨rfl, by congr 1; omega⟩), hbr.trans (hb2.mono hbr.size)⟩
        case measure => simp [intOf]
      · have hd3 : ((max a.dep b.dep : Nat) : Int) ≤ 60 := by omega
        clear hd1 hd2
        generalize hM : max a.dep b.dep = M at *
        go_wp2
        go_ret
        exact ⟨ret_int (by simp only [Ex.dep, hM]; first | omega | go_num), hb.trans (hbr.mono hz)⟩
theorem exprB_flat {t : Ex} (hg : t.good) (hs : t.sz ≤ 60) : exprB t.flat = true := exprB_iff.2 ⟨t, hg, rfl, hs⟩
/-- The depth of a list of parts. -/
def DepI (e : List Pt) (d : Int) : Prop := (exprB e = false ∧ d = -1) ∨ ∃ t : Ex, t.good ∧ t.flat = e ∧ t.sz ≤ 60 ∧ d = (t.dep : Int)
theorem specDepth_bad (w : World) (A : Option Addr) (n c : Nat) (e : List Pt) (h : PS w w.heap.size A n e) (hn : n ≤ 1000000000) (hv : exprB e = false) :
    Calls Try.prog 14 #[.slice A n c] w fun r w' => r = .returned (.int .i64 (-1)) ∧ Below w.heap.size w w' := by
  have HV := Lib.hid hv
  clear hv
  have HH := hide h
  clear h
  go_enter Try.func14, Try.ntmps14
  go_wp2_with fail
  refine (specExprValid_any _ _ _ _ e (unhide HH) hn).mono ?_
  rintro r w1 ⟨rfl, hb⟩
  rw [HV.out]
  go_wp2
  go_ret
  exact ⟨rfl, hb⟩
set_option maxHeartbeats 1000000 in
theorem specDepth_any (t : Ex) : ∀ (w : World) (A : Option Addr) (n c : Nat) (hg : t.good) (h : PS w w.heap.size A n t.flat) (hn : n ≤ 60) (hc : n ≤ c) (hcm : c ≤ maxLen),
    Calls Try.prog 14 #[.slice A n c] w fun r w' => r = .returned (.int .i64 (t.dep : Int)) ∧ Below w.heap.size w w' := by
  induction t with
  | leaf k l =>
    intro w A n c hg h hn hc hcm
    have HV := Lib.hid (exprB_flat hg (by rw [← h.len]; exact hn))
    have HH := hide h
    clear h
    go_enter Try.func14, Try.ntmps14
    go_wp2_with fail
    refine (specExprValid_any _ _ _ _ _ (unhide HH) (by omega)).mono ?_
    rintro r w1 ⟨rfl, hb⟩
    rw [HV.out]
    go_wp2_with fail
    refine (l2Split_any _ _ _ _ _ hg ((unhide HH).up hb) (by omega) hc hcm).mono ?_
    rintro r w2 ⟨g1, g2, rfl, hb2⟩
    have hbb := hb.trans (hb2.mono hb.size)
    go_wp2_with fail
    refine (specDepth_bad _ _ _ _ [] PS.nil (by omega) (by decide)).mono ?_
    rintro r w3 ⟨rfl, hb3⟩
    have hbb3 := hbb.trans (hb3.mono hbb.size)
    go_wp2_with fail
    refine (specDepth_bad _ _ _ _ [] PS.nil (by omega) (by decide)).mono ?_
    rintro r w4 ⟨rfl, hb4⟩
    go_wp2
    go_ret
    exact ⟨rfl, hbb3.trans (hb4.mono hbb3.size)⟩
  | un k a ih =>
    intro w A n c hg h hn hc hcm
    have HV := Lib.hid (exprB_flat hg (by rw [← h.len]; exact hn))
    have hla := h.len
    simp only [Ex.sz] at hla
    have HLA := Lib.hid hla
    have HPA := hide (PS.un h)
    have HH := hide h
    clear h hla
    go_enter Try.func14, Try.ntmps14
    go_wp2_with fail
    refine (specExprValid_any _ _ _ _ _ (unhide HH) (by omega)).mono ?_
    rintro r w1 ⟨rfl, hb⟩
    rw [HV.out]
    go_wp2_with fail
    refine (l2Split_any _ _ _ _ _ hg ((unhide HH).up hb) (by omega) hc hcm).mono ?_
    rintro r w2 ⟨g2, rfl, hb2⟩
    have hbb := hb.trans (hb2.mono hb.size)
    go_wp2_with fail
    refine (ih _ _ _ _ hg.2 ((unhide HPA).up hbb) (by have := HLA.out; omega) (by have := HLA.out; omega) hcm).mono ?_
    rintro r w3 ⟨rfl, hb3⟩
    have hbb3 := hbb.trans (hb3.mono hbb.size)
    go_wp2_with fail
    refine (specDepth_bad _ _ _ _ [] PS.nil (by omega) (by decide)).mono ?_
    rintro r w4 ⟨rfl, hb4⟩
    have hda : (a.dep : Int) ≤ 60 := by have := HLA.out; have := Ex.dep_lt a; omega
    go_wp2
    go_ret
    exact ⟨ret_int (by simp only [Ex.dep]; first | omega | go_num), hbb3.trans (hb4.mono hbb3.size)⟩
  | bin k a b iha ihb =>
    intro w A n c hg h hn hc hcm
    have HV := Lib.hid (exprB_flat hg (by rw [← h.len]; exact hn))
    have hla := h.len
    have hp0 : 0 < n := by have := Ex.sz_pos (Ex.bin k a b); omega
    obtain ⟨bA, off, rfl, hbA⟩ := h.addr hp0
    simp only [Ex.sz] at hla
    have HLA := Lib.hid hla
    have HPA := hide (PS.bin h)
    have HH := hide h
    clear h hla hp0
    go_enter Try.func14, Try.ntmps14
    go_wp2_with fail
    refine (specExprValid_any _ _ _ _ _ (unhide HH) (by omega)).mono ?_
    rintro r w1 ⟨rfl, hb⟩
    rw [HV.out]
    go_wp2_with fail
    refine (l2Split_any _ _ _ _ _ hg ((unhide HH).up hb) (by omega) hc hcm).mono ?_
    rintro r w2 ⟨b', o', hA, rfl, hb2⟩
    injection hA with hA
    injection hA with hA1 hA2
    subst hA1; subst hA2
    have hbb := hb.trans (hb2.mono hb.size)
    go_wp2_with fail
    refine (iha _ _ _ _ hg.2.1 ((unhide HPA).1.up hbb) (by have := HLA.out; omega) (by have := HLA.out; omega) hcm).mono ?_
    rintro r w3 ⟨rfl, hb3⟩
    have hbb3 := hbb.trans (hb3.mono hbb.size)
    go_wp2_with fail
    refine (ihb _ _ _ _ hg.2.2 ((unhide HPA).2.up hbb3) (by have := HLA.out; omega) (by have := HLA.out; omega) (by omega)).mono ?_
    rintro r w4 ⟨rfl, hb4⟩
    have hda : (a.dep : Int) ≤ 60 := by have := HLA.out; have := Ex.dep_lt a; omega
    have hdb : (b.dep : Int) ≤ 60 := by have := HLA.out; have := Ex.dep_lt b; omega
    go_wp2
    all_goals
      go_ret
      exact ⟨ret_int (by simp only [Ex.dep]; first | omega | go_num), hbb3.trans (hb4.mono hbb3.size)⟩
/-- Of any list. -/
def DepD (w : World) (e : List Pt) (r : Ending) (w' : World) : Prop := ∃ d, r = .returned (.int .i64 d) ∧ DepI e d ∧ Below w.heap.size w w'
theorem DepI.uniq {e : List Pt} {a b : Int} (ha : DepI e a) (hb : DepI e b) : a = b := by
  rcases ha with ⟨h1, rfl⟩ | ⟨t, g1, f1, s1, rfl⟩
  · rcases hb with ⟨h2, rfl⟩ | ⟨t, g1, f1, s1, rfl⟩
    · rfl
    · rw [← f1, exprB_flat g1 s1] at h1; cases h1
  · rcases hb with ⟨h2, rfl⟩ | ⟨u, g2, f2, s2, rfl⟩
    · rw [← f1, exprB_flat g1 s1] at h2; cases h2
    · rw [Ex.flat_inj g1 g2 (f1.trans f2.symm)]
theorem specDepth_all (w : World) (A : Option Addr) (n c : Nat) (e : List Pt) (h : PS w w.heap.size A n e) (hn : n ≤ 1000000000) (hc : n ≤ c) (hcm : c ≤ maxLen) : Calls Try.prog 14 #[.slice A n c] w (DepD w e) := by
  rcases hv : exprB e
  · exact (specDepth_bad w A n c e h hn hv).mono fun r w' ⟨h1, h2⟩ => ⟨_, h1, .inl ⟨hv, rfl⟩, h2⟩
  · obtain ⟨t, hg, rfl, hs⟩ := exprB_iff.1 hv
    exact (specDepth_any t w A n c hg h (by rw [h.len]; exact hs) hc hcm).mono fun r w' ⟨h1, h2⟩ => ⟨_, h1, .inr ⟨t, hg, rfl, hs, rfl⟩, h2⟩
theorem implDepth_all (w : World) (A : Option Addr) (n c : Nat) (e : List Pt) (h : PS w w.heap.size A n e) (hn : n ≤ 1000000000) (hc : n ≤ c) (hcm : c ≤ maxLen) : Calls Try.prog 16 #[.slice A n c] w (DepD w e) := by
  have HH := hide h
  clear h
  rcases hv : exprB e
  · have HV := Lib.hid hv
    clear hv
    go_enter Try.func16, Try.ntmps16
    go_wp2_with fail
    refine (implExprValid_any _ _ _ _ e (unhide HH)).mono ?_
    rintro r w1 ⟨rfl, hb⟩
    rw [HV.out]
    go_wp2
    go_ret
    exact ⟨_, rfl, .inl ⟨HV.out, rfl⟩, hb⟩
  · obtain ⟨t, hg, rfl, hs⟩ := exprB_iff.1 hv
    have HV := Lib.hid hv
    clear hv
    go_enter Try.func16, Try.ntmps16
    go_wp2_with fail
    refine (implExprValid_any _ _ _ _ t.flat (unhide HH)).mono ?_
    rintro r w1 ⟨rfl, hb⟩
    rw [HV.out]
    go_wp2_with fail
    refine (depth_any t _ _ _ _ hg ((unhide HH).up hb) (by rw [(unhide HH).len]; exact hs) hc hcm).mono ?_
    rintro r w2 ⟨rfl, hb2⟩
    go_wp2
    go_ret
    exact ⟨_, rfl, .inr ⟨t, hg, rfl, hs, rfl⟩, hb.trans (hb2.mono hb.size)⟩
end Go.Proofs.Ytdilcpeckkpdhaa
