/-
  Texts of expressions: the walk of the program's printer, with its small map of signs.
-/
import Derived.Test.YtadibjjjdbglaaaTxt
import Derived.Test.YtadibjjjdbglaaaOpnd
import Derived.Test.YtadibjjjdbglaaaTurn2
import Derived.Test.YtadibjjjdbglaaaWords
import Derived.Test.YtadibjjjdbglaaaLists
import Derived.Test.YtadibjjjdbglaaaPrint
import Derived.MapKept
import Derived.Carry
namespace Go.Proofs.Ytadibjjjdbglaaa
open Go.RowKit
set_option linter.unusedVariables false
set_option maxRecDepth 100000

/-- An entry of the map of signs; the map with its three entries. -/
abbrev ent (k : Int) (s : ByteArray) (c : Nat) : MapEntry := { key := .int .i64 k, val := .string s, born := c }
theorem run_put0 (w : World) (r : Nat) (es : Array MapEntry) (cl : Nat) (k : Int) (s : ByteArray) (hb : w.heap[r]? = some (.map es cl)) (hf : Instr.findNow (.int .i64) (.int .i64 k) es.toList 0 = some none) :
    (Instr.mapUpdate 91 (.map (some r)) (.int .i64 k) (.string s)).run Try.prog w = .ok () { w with heap := w.heap.setIfInBounds r (.map (es.push (ent k s cl)) (cl + 1)) } := by
  have hc : (Instr.checkKey false 10000 3 (.int .i64 k)).run Try.prog w = .ok () w := MapKept.run_checkKey (k := .int .i64 k) Try.underlying3 (by simp [MapKept.IsKey]) false 9999
  simp [Instr.mapUpdate, run_underlying Try.underlying91, MapKept.run_getObj_map hb, hc, MapKept.run_findKey Try.underlying3 hf, MapKept.run_setObj_map _ hb, Result.andThen]
theorem alloc_over (W : World) (o o' : Obj) : { W.alloc o with heap := (W.alloc o).heap.setIfInBounds W.heap.size o' } = W.alloc o' := by
  simp only [World.alloc]
  congr 1
  apply Array.ext'
  rw [Array.toList_setIfInBounds, Array.toList_push, Array.toList_push, List.set_append_right _ _ (by simp)]
  simp
theorem run_put (W : World) (es : Array MapEntry) (cl : Nat) (k : Int) (s : ByteArray) (hf : Instr.findNow (.int .i64) (.int .i64 k) es.toList 0 = some none) :
    (Instr.mapUpdate 91 (.map (some W.heap.size)) (.int .i64 k) (.string s)).run Try.prog (W.alloc (.map es cl)) = .ok () (W.alloc (.map (es.push (ent k s cl)) (cl + 1))) := by
  rw [run_put0 _ _ es cl k s (heap_alloc_new W _) hf, alloc_over]
theorem run_sign (W : World) (k : Int) (es : Array MapEntry) (cl : Nat) (s : ByteArray) (i : Nat) (hne : es.isEmpty = false) (hf : Instr.findNow (.int .i64) (.int .i64 k) es.toList 0 = some (some (i, .string s))) :
    (Instr.lookup 91 (.map (some W.heap.size)) (.int .i64 k) false).run Try.prog (W.alloc (.map es cl)) = .ok (.string s) (W.alloc (.map es cl)) := by
  have hb : (W.alloc (.map es cl)).heap[W.heap.size]? = some (.map es cl) := heap_alloc_new W _
  have hc : (Instr.checkKey false 10000 3 (.int .i64 k)).run Try.prog (W.alloc (.map es cl)) = .ok () (W.alloc (.map es cl)) := MapKept.run_checkKey (k := .int .i64 k) Try.underlying3 (by simp [MapKept.IsKey]) false 9999
  simp [Instr.lookup, run_underlying Try.underlying91, MapKept.run_getObj_map hb, hne, hc, MapKept.run_findKey Try.underlying3 hf, Result.andThen]
/-- The map of signs, whole. -/
abbrev signM : Obj := .map #[ent 4 ⟨#[]⟩ 0, ent 5 ⟨#[124]⟩ 1, ent 6 ⟨#[38]⟩ 2] 3
theorem sign_puts (W : World) :
    (Instr.mapUpdate 91 (.map (some W.heap.size)) (.int .i64 4) (.string ⟨#[]⟩)).run Try.prog (W.alloc (.map #[] 0)) = .ok () (W.alloc (.map #[ent 4 ⟨#[]⟩ 0] 1)) ∧
    (Instr.mapUpdate 91 (.map (some W.heap.size)) (.int .i64 5) (.string ⟨#[124]⟩)).run Try.prog (W.alloc (.map #[ent 4 ⟨#[]⟩ 0] 1)) = .ok () (W.alloc (.map #[ent 4 ⟨#[]⟩ 0, ent 5 ⟨#[124]⟩ 1] 2)) ∧
    (Instr.mapUpdate 91 (.map (some W.heap.size)) (.int .i64 6) (.string ⟨#[38]⟩)).run Try.prog (W.alloc (.map #[ent 4 ⟨#[]⟩ 0, ent 5 ⟨#[124]⟩ 1] 2)) = .ok () (W.alloc signM) :=
  ⟨run_put W #[] 0 4 ⟨#[]⟩ rfl, run_put W #[ent 4 ⟨#[]⟩ 0] 1 5 ⟨#[124]⟩ rfl, run_put W #[ent 4 ⟨#[]⟩ 0, ent 5 ⟨#[124]⟩ 1] 2 6 ⟨#[38]⟩ rfl⟩
theorem sign_look (W : World) {k : Int} (h : k = 4 ∨ k = 5 ∨ k = 6) :
    (Instr.lookup 91 (.map (some W.heap.size)) (.int .i64 k) false).run Try.prog (W.alloc signM) = .ok (.string ⟨(signT k).toArray⟩) (W.alloc signM) := by
  rcases h with rfl | rfl | rfl
  · exact run_sign W 4 _ 3 ⟨#[]⟩ 0 rfl rfl
  · exact run_sign W 5 _ 3 ⟨#[124]⟩ 1 rfl rfl
  · exact run_sign W 6 _ 3 ⟨#[38]⟩ 2 rfl rfl
def TxtC (t : Ex) : Prop := ∀ (w : World) (A : Option Addr) (n c : Nat) (h : SL w w.heap.size A n c t.flat) (hn : n ≤ 60),
    Calls Try.prog 68 #[.slice A n c] w (PrintD w t.txt)
theorem bracketed_any {t : Ex} (hx : TxtC t) (w : World) (A : Option Addr) (n c : Nat) (li : Int) (l : Nat) (hl : li = (l : Int) + 1) (h : SL w w.heap.size A n c t.flat) (hn : n ≤ 60) :
    Calls Try.prog 94 #[.slice A n c, .int .i64 li] w (PrintD w (t.br l)) := by
  have H0 := hx w A n c h hn
  have HS := Lib.hid (show t.sz ≤ 60 by have := h.1.len; omega)
  obtain ⟨b, off, m, rfl, hbB, hnm, hm, hk, hlt⟩ := h.1.last
  have n1 : 1 ≤ n := by omega
  have HNM := Lib.hid hnm
  have hbind := binding_any t.kind w
  have HK := Lib.hid (show ((levK t.kind : Int) + 1 < li) ↔ levK t.kind < l by omega)
  clear hnm h hl
  generalize (levK t.kind : Int) + 1 = lv at hbind HK
  by_cases hcmp : lv < li
  · have HB := Lib.hid (Ex.br_high (HK.out.1 hcmp))
    go_enter Try.func94, Try.ntmps94
    go_wp2_with fail
    refine hbind.mono ?_
    rintro r w1 ⟨rfl, rfl⟩
    go_wp2_with fail
    refine H0.mono ?_
    rintro r w1 ⟨X, rfl, HX, hX, hb⟩
    go_wp2
    go_ret
    exact PrintD.shut (by rw [HX.out, HB.out]; exact str_brk _) (Nat.le_trans (Ex.br_small HS.out _) (by omega)) hb
  · have HB := Lib.hid (Ex.br_low (t := t) (l := l) (by rcases Nat.lt_or_ge (levK t.kind) l with h | h; exact absurd (HK.out.2 h) hcmp; exact h))
    go_enter Try.func94, Try.ntmps94
    go_wp2_with fail
    refine hbind.mono ?_
    rintro r w1 ⟨rfl, rfl⟩
    go_wp2_with fail
    refine H0.mono ?_
    rintro r w1 ⟨X, rfl, HX, hX, hb⟩
    go_wp2
    go_ret
    exact PrintD.shut (by rw [HX.out, HB.out]) (Nat.le_trans (Ex.br_small HS.out _) (by omega)) hb
theorem leaf_chr {l : Int} (h0 : 0 ≤ l) (h2 : l ≤ 2) : [chr l] = (Ex.leaf 3 l).txt := by
  rcases (show l = 0 ∨ l = 1 ∨ l = 2 by omega) with rfl | rfl | rfl <;> rfl
set_option maxHeartbeats 4000000 in
theorem exprText_any (t : Ex) (hg : t.good) : TxtC t := by
  induction t with
  | leaf kd l =>
    intro w A n c h hn
    obtain ⟨b, off, m, rfl, hbB, hnm, hm, hk, hl⟩ := h.1.last
    simp only [Ex.kind, Ex.lett] at hk hl
    have hb0 : Below w.heap.size w (w.alloc (pbox kd l)) := (Below.refl _ _).alloc (Nat.le_refl _) _
    have n1 : 1 ≤ n := by omega
    have HNM := Lib.hid hnm
    have HS := Lib.hid (show (Ex.leaf kd l).sz ≤ 60 by have := h.1.len; omega)
    have hbind := binding_any kd (w.alloc (pbox kd l))
    generalize (levK kd : Int) + 1 = lv at hbind
    clear h hnm
    rcases hg with ⟨rfl | rfl, rfl⟩ | ⟨rfl, h0, h2⟩
    · go_enter Try.func68, Try.ntmps68
      go_wp2_with fail
      refine hbind.mono ?_
      rintro r w1 ⟨rfl, rfl⟩
      go_wp2
      go_ret
      exact PrintD.shut rfl (Nat.le_trans (Ex.txt_small HS.out) (by omega)) hb0
    · go_enter Try.func68, Try.ntmps68
      go_wp2_with fail
      refine hbind.mono ?_
      rintro r w1 ⟨rfl, rfl⟩
      go_wp2
      go_ret
      exact PrintD.shut rfl (Nat.le_trans (Ex.txt_small HS.out) (by omega)) hb0
    · go_enter Try.func68, Try.ntmps68
      go_wp2_with fail
      refine hbind.mono ?_
      rintro r w1 ⟨rfl, rfl⟩
      go_wp2_with fail
      refine (letterText_any l _ h0 h2).mono ?_
      rintro r w1 ⟨rfl, rfl⟩
      go_wp2
      go_ret
      exact PrintD.shut (by rw [leaf_chr h0 h2]) (Nat.le_trans (Ex.txt_small HS.out) (by omega)) hb0
  | un kd a ih =>
    intro w A n c h hn
    obtain ⟨b, off, m, rfl, hbB, hnm, hm, hk, hl⟩ := h.1.last
    obtain ⟨l, hl0⟩ : ∃ l, (Ex.un kd a).lett = l := ⟨_, rfl⟩
    rw [hl0] at hl
    simp only [Ex.kind] at hk
    have hb0 : Below w.heap.size w (w.alloc (pbox kd l)) := (Below.refl _ _).alloc (Nat.le_refl _) _
    have hops := operands_any _ _ n c _ hg (h.up hb0).1 hn h.2.1 h.2.2.1
    have hbx := heap_alloc_new w (pbox kd l)
    have n1 : 1 ≤ n := by omega
    have HNM := Lib.hid hnm
    have HS := Lib.hid (show (Ex.un kd a).sz ≤ 60 by have := h.1.len; omega)
    have hla := h.1.len
    have hcc := h.2.1
    have hcm := h.2.2.1
    simp only [Ex.sz] at hla
    have a1 : a.sz ≤ 60 := by omega
    have a2 : a.sz ≤ c := by omega
    have HA := hide (SL.tree (PS.un h.1) a2 hcm)
    have hbind := binding_any kd (w.alloc (pbox kd l))
    have BR := fun W A n c li l hl => bracketed_any (ih hg.2) W A n c li l hl
    clear h hnm hl0 hla
    have run : ∀ (w1 : World) (hb1 : Below (w.alloc (pbox kd l)).heap.size (w.alloc (pbox kd l)) w1), w1.cell? ⟨w.heap.size, 0, none⟩ = some (.int .i64 kd) ∧ w1.cell? ⟨w.heap.size, 1, none⟩ = some (.int .i64 l) ∧ Below w.heap.size w w1 := fun w1 hb1 => by
      obtain ⟨q1, q2⟩ := box_cells (box_below hbx hb1)
      exact ⟨q1, q2, hb0.trans (hb1.mono hb0.size)⟩
    have RUN := hide run
    clear run hbx hb0
    obtain ⟨hkd, hga⟩ := hg
    have HLV := Lib.hid (show (levK kd : Int) + 1 = (levK kd : Int) + 1 from rfl)
    obtain ⟨lv, hlv⟩ : ∃ lv : Int, (levK kd : Int) + 1 = lv := ⟨_, rfl⟩
    rw [hlv] at hbind
    have HLV2 := Lib.hid hlv.symm
    clear hlv HLV
    rcases hkd with rfl | rfl
    all_goals
      go_enter Try.func68, Try.ntmps68
      go_wp2_with fail
      refine hbind.mono ?_
      rintro r w1 ⟨rfl, rfl⟩
      go_wp2_with fail
      refine hops.mono ?_
      rintro r w1 ⟨g, rfl, hgw, hcell, hb⟩
      obtain ⟨c0, c1, hbb⟩ := (unhide RUN) w1 hb
      have hcr : w1.cell? ⟨g, 0, none⟩ = some (.slice (some ⟨b, off, none⟩) a.sz c) := by rw [cell_of_row w1 _ 0 _ _ _ hcell]; rfl
      clear hk hl hops
      go_wp2_with fail
      refine (BR _ _ a.sz c _ _ HLV2.out ((unhide HA).up hbb) a1).mono ?_
      rintro r w2 ⟨X, rfl, HX, hX, hb2⟩
      obtain ⟨e0, e1, hbb2⟩ := (unhide RUN) w2 (hb.trans (hb2.mono hb.size))
      go_wp2
      go_ret
    · exact PrintD.shut (by rw [HX.out]; rw [Ex.txt_un7]; exact str_pre _ _) (Nat.le_trans (Ex.txt_small HS.out) (by omega)) hbb2
    · exact PrintD.shut (by rw [HX.out]; rw [Ex.txt_un8]; exact str_post _ _) (Nat.le_trans (Ex.txt_small HS.out) (by omega)) hbb2
  | bin kd a d iha ihd =>
    intro w A n c h hn
    obtain ⟨b, off, m, rfl, hbB, hnm, hm, hk, hl⟩ := h.1.last
    obtain ⟨l, hl0⟩ : ∃ l, (Ex.bin kd a d).lett = l := ⟨_, rfl⟩
    rw [hl0] at hl
    simp only [Ex.kind] at hk
    have hb0 : Below w.heap.size w (w.alloc (pbox kd l)) := (Below.refl _ _).alloc (Nat.le_refl _) _
    have hops := operands_any _ _ n c _ hg (h.up hb0).1 hn h.2.1 h.2.2.1
    have hbx := heap_alloc_new w (pbox kd l)
    have n1 : 1 ≤ n := by omega
    have HNM := Lib.hid hnm
    have HS := Lib.hid (show (Ex.bin kd a d).sz ≤ 60 by have := h.1.len; omega)
    have hla := h.1.len
    have hcc := h.2.1
    have hcm := h.2.2.1
    simp only [Ex.sz] at hla
    have a1 : a.sz ≤ 60 := by omega
    have a2 : a.sz ≤ c := by omega
    have d1 : d.sz ≤ 60 := by omega
    have d2 : d.sz ≤ c - a.sz := by omega
    have d3 : c - a.sz ≤ maxLen := by omega
    have HA := hide (SL.tree (PS.bin h.1).1 a2 hcm)
    have HD := hide (SL.tree (PS.bin h.1).2 d2 d3)
    have hbind := binding_any kd (w.alloc (pbox kd l))
    have BA := fun W A n c li l hl => bracketed_any (iha hg.2.1) W A n c li l hl
    have BD := fun W A n c li l hl => bracketed_any (ihd hg.2.2) W A n c li l hl
    clear h hnm hl0 hla
    have run : ∀ (w1 : World) (hb1 : Below (w.alloc (pbox kd l)).heap.size (w.alloc (pbox kd l)) w1), w1.cell? ⟨w.heap.size, 0, none⟩ = some (.int .i64 kd) ∧ w1.cell? ⟨w.heap.size, 1, none⟩ = some (.int .i64 l) ∧ Below w.heap.size w w1 := fun w1 hb1 => by
      obtain ⟨q1, q2⟩ := box_cells (box_below hbx hb1)
      exact ⟨q1, q2, hb0.trans (hb1.mono hb0.size)⟩
    have RUN := hide run
    clear run hbx hb0
    obtain ⟨hkd, hga, hgd⟩ := hg
    obtain ⟨lv, hlv⟩ : ∃ lv : Int, (levK kd : Int) + 1 = lv := ⟨_, rfl⟩
    rw [hlv] at hbind
    have hlv0 : 0 ≤ lv ∧ lv ≤ 6 := by have := levK_bd kd; omega
    have HLV2 := Lib.hid hlv.symm
    have HLV3 := Lib.hid (show lv + 1 = ((levK kd + 1 : Nat) : Int) + 1 by omega)
    obtain ⟨l0, l6⟩ := hlv0
    clear hlv
    have HKD := Lib.hid hkd
    have hk7 : (kd == 7) = false := by simp; omega
    have hk8 : (kd == 8) = false := by simp; omega
    have hk1 : (kd == 1) = false := by simp; omega
    have hk2 : (kd == 2) = false := by simp; omega
    have hk3 : (kd == 3) = false := by simp; omega
    obtain ⟨S, hS⟩ : ∃ S : ByteArray, (⟨(signT kd).toArray⟩ : ByteArray) = S := ⟨_, rfl⟩
    have hSz : S.size ≤ 1 := by rw [← hS]; exact Ex.sign_len kd
    have HSG := Lib.hid hS
    clear hkd hS
    go_enter Try.func68, Try.ntmps68
    go_wp2_with fail
    refine hbind.mono ?_
    rintro r w1 ⟨rfl, rfl⟩
    go_wp2_with fail
    refine hops.mono ?_
    rintro r w1 ⟨g, b', o', hA, rfl, hgw, hcell, hb⟩
    injection hA with hA
    injection hA with hA1 hA2
    subst hA1; subst hA2
    obtain ⟨c0, c1, hbb⟩ := (unhide RUN) w1 hb
    have hg1 : g < w1.heap.size := (Array.getElem?_eq_some_iff.1 hcell).1
    have hcr : w1.cell? ⟨g, 0, none⟩ = some (.slice (some ⟨b, off, none⟩) a.sz c) := by rw [cell_of_row w1 _ 0 _ _ _ hcell]; rfl
    have hcq : w1.cell? ⟨g, 1, none⟩ = some (.slice (some ⟨b, off + a.sz * 2, none⟩) d.sz (c - a.sz)) := by rw [cell_of_row w1 _ 1 _ _ _ hcell]; rfl
    clear hk hl hops hcell
    go_wp2_with fail
    refine (BA _ _ a.sz c _ _ HLV2.out ((unhide HA).up hbb) a1).mono ?_
    rintro r w2 ⟨X, rfl, HX, hX, hb2⟩
    obtain ⟨e0, e1, hbb2⟩ := (unhide RUN) w2 (hb.trans (hb2.mono hb.size))
    have hcq2 := (hb2.cell (p := ⟨g, 1, none⟩) hg1).trans hcq
    have hg2 : g < w2.heap.size := by have := hb2.size; omega
    have hmm := @run_makeMap Try.prog
    obtain ⟨p1, p2, p3⟩ := sign_puts w2
    have pl := sign_look w2 HKD.out
    rw [HSG.out] at pl
    have hbm := hb2.alloc hb2.size signM
    obtain ⟨f0, f1, hbb3⟩ := (unhide RUN) (w2.alloc signM) (hb.trans (hbm.mono hb.size))
    go_wp2_with fail
    refine (BD _ _ d.sz (c - a.sz) _ _ HLV3.out ((unhide HD).up hbb3) d1).mono ?_
    rintro r w3 ⟨Y, rfl, HY, hY, hb3⟩
    go_wp2
    go_ret
    exact PrintD.shut (by rw [HX.out, HY.out, ← HSG.out, app_str, app_str]; rfl) (Nat.le_trans (Ex.txt_small HS.out) (by omega)) (hbb3.trans (hb3.mono hbb3.size))
end Go.Proofs.Ytadibjjjdbglaaa
