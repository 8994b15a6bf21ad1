/-
  Derived expressions: the reference's walk.
-/
import Derived.Test.YtadibjjjdbglaaaDerW
import Derived.Deep.RegionLawGrows
namespace Go.Proofs.Ytadibjjjdbglaaa
open Go.RowKit
set_option linter.unusedVariables false
set_option maxRecDepth 100000

/-- 'append' onto an empty slice without room, as a step of a region: a new row. -/
theorem step_append_fresh {w : World} {ops : Array Oper} {o : Oper} {a : Act} {K : Act → World → Prop} {Q : Exit → Act → World → Prop} {E : Prop} (hgd : o.guard = none) (s x : Operand)
    (ho : o.op = .call { callee := .builtin .append, args := #[s, x], argTypes := #[23, 23] })
    (g : Nat) (hs : a.eval s = .slice (some ⟨g, 0, none⟩) 0 0) (A : Option Addr) (m c : Nat) (e : List Pt) (hx : a.eval x = .slice A m c) (w1 : World) (h0 : 0 < e.length) (hm : e.length ≤ 1000000000)
    (hp : SL w w.heap.size A m c e) (hB : Below w1.heap.size w1 w)
    (hK : ∀ v' w', w'.ownsRow w1.heap.size 45 2 v' e.length (flatV e) → Below w1.heap.size w1 w' → K (a.put o.dst v') w') :
    if Region.wanted o (yielded ops a.tmps) = true then Oper.wp Try.prog o a w K Q else E := by
  obtain ⟨i0, hi0, hz0, hz1, hz2⟩ := info_parts part_info
  have hl := hp.1.1
  subst hl
  obtain ⟨b, off, eA, -⟩ := hp.1.addr h0
  subst eA
  refine step_append_grows hgd s x 23 ho 45 i0 (part 0 0) 2 16 Try.underlying23 hi0 hz0 hz1 hz2 rfl (by decide) _ 0 0 [] hs (fun h => nomatch h) rfl (fun _ _ _ _ h => nomatch h) ⟨b, off, none⟩ e.length c (flatV e) hx (by rw [flatV_length]) hp.1.news (flatV_one e) (by omega) (by unfold maxLen; omega) (by omega) ?_
  intro v' w' h1 h2
  rw [Nat.zero_add, List.nil_append] at h1
  exact hK v' w' (own_base h1 hB.size) (hB.grown h2 hB.size (fun k h => nomatch h))
theorem SL.al {w : World} {A : Option Addr} {n c : Nat} {e : List Pt} (h : SL w w.heap.size A n c e) (o : Obj) : SL (w.alloc o) (w.alloc o).heap.size A n c e := h.up ((Below.refl _ _).alloc (Nat.le_refl _) _)
theorem le1 (N : Nat) (h : N ≤ 8000) : N ≤ 100000 := by omega
theorem le9 (N : Nat) (h : N ≤ 8000) : N ≤ 1000000000 := by omega
theorem der_len' (lt : Int) (t : Ex) (h : t.sz ≤ 60) : (Ex.der lt t).flat.length ≤ 8000 := Nat.le_trans (der_len lt t h) (by omega)
theorem simp_len2 (t : Ex) (h : t.sz ≤ 60) : t.simp.flat.length ≤ 8000 := Nat.le_trans (simp_len' t h) (by omega)
theorem flat_pos (t : Ex) : 0 < t.flat.length := by rw [Ex.flat_length]; exact Ex.sz_pos t
theorem mk_len' {x y : Ex} (k : Int) (hx : x.flat.length ≤ 3800) (hy : y.flat.length ≤ 3800) : (Ex.mk k x y).flat.length ≤ 8000 := by
  have := Ex.mk_sz k x y; rw [Ex.flat_length] at *; omega
theorem mk1_len' {x : Ex} (k : Int) (hx : x.flat.length ≤ 3800) : (Ex.mk1 k x).flat.length ≤ 8000 := by
  have := Ex.mk1_sz k x; rw [Ex.flat_length] at *; omega
theorem own_litB (w : World) (k l : Int) : (w.alloc (.cells #[.int .i64 k, .int .i64 l] 45)).ownsRow w.heap.size 45 2 (.slice (some ⟨w.heap.size, 0, none⟩) 1 1) 1 (flatV [(k, l)]) :=
  World.ownsRow_lit (base := w.heap.size) (e := 45) (size := 2) w #[.int .i64 k, .int .i64 l] 1 (Nat.le_refl _) (by simp [maxLen]) rfl
theorem PS_al {w : World} {A : Option Addr} {n : Nat} {e : List Pt} {o : Obj} (h : PS w w.heap.size A n e) : PS (w.alloc o) (w.heap.size + 1) A n e := h.keep (Nat.le_succ _) fun b o' hlt => World.cell?_alloc_lt w o ⟨b, o', none⟩ hlt
theorem retOwn {w w1 w' : World} {x : List Pt} {v : Value} (hb : Below w.heap.size w w1) (h : w'.ownsRow w1.heap.size 45 2 v x.length (flatV x)) (hB : Below w1.heap.size w1 w') : OwnD w x (.returned v) w' :=
  OwnD.behind hb ⟨v, rfl, h, hB⟩
set_option maxHeartbeats 8000000 in
theorem l6Derive_any (lt : Int) (t : Ex) : ∀ (w : World) (A : Option Addr) (n c : Nat) (hg : t.good) (h : PS w w.heap.size A n t.flat) (hn : n ≤ 60) (hc : n ≤ c) (hcm : c ≤ maxLen),
    Calls Try.prog 73 #[.slice A n c, .int .i64 lt] w (OwnD w (Ex.der lt t).flat) := by
  induction t with
  | leaf kd l =>
    intro w A n c hg h hn hc hcm
    obtain ⟨b, off, m, rfl, hbB, hnm, hm, hk, hl⟩ := h.last
    simp only [Ex.kind, Ex.lett] at hk hl
    have n1 : 1 ≤ n := by omega
    have HH := hide h
    have HNM := Lib.hid hnm
    have hb0 : Below w.heap.size w (w.alloc (pbox 1 0)) := (Below.refl _ _).alloc (Nat.le_refl _) _
    have hsp := l2Split_any _ _ n c _ hg (h.up hb0) (by omega) hc hcm
    have HG := hide hg
    have run : ∀ (w2 : World), Below (w.alloc (pbox 1 0)).heap.size (w.alloc (pbox 1 0)) w2 → w2.cell? ⟨b, off + m * 2, none⟩ = some (.int .i64 kd) ∧ w2.cell? ⟨b, off + m * 2 + 1, none⟩ = some (.int .i64 l) ∧ b < w2.heap.size ∧ Below w.heap.size w (w2.alloc (pbox kd l)) ∧ (w2.alloc (pbox kd l)).heap[w2.heap.size]? = some (pbox kd l) ∧ (w2.alloc (pbox kd l)).heap[w.heap.size]? = some (pbox 1 0) := fun w2 h2 => by
      have hb := hb0.trans (h2.mono hb0.size)
      refine ⟨(hb.cell (p := ⟨b, off + m * 2, none⟩) hbB).trans hk, (hb.cell (p := ⟨b, off + m * 2 + 1, none⟩) hbB).trans hl, by have := hb.size; omega, hb.alloc hb.size _, heap_alloc_new _ _, ?_⟩
      exact (Below.heap_alloc _ _ _ (box_lt (box_below (heap_alloc_new w _) h2))).trans (box_below (heap_alloc_new w _) h2)
    have RUN := hide run
    clear run h hnm hb0
    have NONE : ∀ w2, Below (w.alloc (pbox 1 0)).heap.size (w.alloc (pbox 1 0)) w2 → (w2.alloc (pbox kd l)).ownsRow w.heap.size 45 2 (.slice (some ⟨w.heap.size, 0, none⟩) 1 1) 1 (flatV [(1, 0)]) := fun w2 h2 =>
      (own_keep (World.ownsRow_lit (base := w.heap.size) (e := 45) (size := 2) w #[.int .i64 1, .int .i64 0] 1 (Nat.le_refl _) (by simp [maxLen]) rfl) h2).alloc _
    have HNONE := hide NONE
    clear NONE hk hl
    rcases hg with ⟨rfl | rfl, rfl⟩ | ⟨rfl, h0, h2⟩
    all_goals try
      (go_enter Try.func73, Try.ntmps73
       go_wp2_with fail
       refine hsp.mono ?_
       rintro r w2 ⟨g1, g2, rfl, hb⟩
       obtain ⟨c0, c1, hbw, hbb, hbx, hbn⟩ := (unhide RUN) w2 hb
       go_wp2
       go_ret
       rw [Ex.der_leaf1 (by omega)]
       exact ⟨_, rfl, (unhide HNONE) w2 hb, hbb⟩)
    rcases hll : (l == lt)
    · have HLL := Lib.hid (show ¬ l = lt by simpa using hll)
      go_enter Try.func73, Try.ntmps73
      go_wp2_with fail
      refine hsp.mono ?_
      rintro r w2 ⟨g1, g2, rfl, hb⟩
      obtain ⟨c0, c1, hbw, hbb, hbx, hbn⟩ := (unhide RUN) w2 hb
      go_wp2
      go_ret
      rw [Ex.der_leaf3n HLL.out]
      exact ⟨_, rfl, (unhide HNONE) w2 hb, hbb⟩
    · have hle : l = lt := by simpa using hll
      subst hle
      clear hll
      go_enter Try.func73, Try.ntmps73
      go_wp2_with fail
      refine hsp.mono ?_
      rintro r w2 ⟨g1, g2, rfl, hb⟩
      obtain ⟨c0, c1, hbw, hbb, hbx, hbn⟩ := (unhide RUN) w2 hb
      go_wp2
      go_ret
      rw [Ex.der_leaf3]
      have hLit := own_litB (w2.alloc (pbox 3 l)) 2 0
      have ez : (w2.alloc (pbox 3 l)).heap.size = w2.heap.size + 1 := World.size_alloc _ _
      refine OwnD.behind hbb ⟨.slice (some ⟨w2.heap.size + 1, 0, none⟩) 1 1, rfl, ?_, (Below.refl _ _).alloc (Nat.le_refl _) _⟩
      rw [ez] at hLit ⊢
      exact hLit
  | un kd a ih =>
    intro w A n c hg h hn hc hcm
    obtain ⟨b, off, m, rfl, hbB, hnm, hm, hk, hl⟩ := h.last
    obtain ⟨l, hl0⟩ : ∃ l, (Ex.un kd a).lett = l := ⟨_, rfl⟩
    rw [hl0] at hl
    have hl1 : l = 0 := hl0.symm
    subst hl1
    obtain ⟨l, hl00⟩ : ∃ l : Int, l = 0 := ⟨0, rfl⟩
    rw [← hl00] at hl
    simp only [Ex.kind] at hk
    have n1 : 1 ≤ n := by omega
    have HH := hide h
    have HNM := Lib.hid hnm
    have hb0 : Below w.heap.size w (w.alloc (pbox 1 0)) := (Below.refl _ _).alloc (Nat.le_refl _) _
    have hsp := l2Split_any _ _ n c _ hg (h.up hb0) (by omega) hc hcm
    have hla := h.len
    have HSZ := Lib.hid (show (Ex.un kd a).sz ≤ 60 by omega)
    simp only [Ex.sz] at hla
    have a1 : a.sz ≤ 60 := by omega
    have a2 : a.sz ≤ c := by omega
    have HA := hide (PS.un h)
    have LX := Lib.hid (der_len' lt a a1)
    have LX0 := Lib.hid (der_len lt a a1)
    have HG := hide hg
    have hgd := Ex.der_good (c := lt) hg.2
    have HD := hide hgd
    clear hl0 hgd hla
    have run : ∀ (w2 : World), Below (w.alloc (pbox 1 0)).heap.size (w.alloc (pbox 1 0)) w2 → w2.cell? ⟨b, off + m * 2, none⟩ = some (.int .i64 kd) ∧ w2.cell? ⟨b, off + m * 2 + 1, none⟩ = some (.int .i64 l) ∧ b < w2.heap.size ∧ Below w.heap.size w (w2.alloc (pbox kd l)) ∧ (w2.alloc (pbox kd l)).heap[w2.heap.size]? = some (pbox kd l) ∧ (w2.alloc (pbox kd l)).heap[w.heap.size]? = some (pbox 1 0) := fun w2 h2 => by
      have hb := hb0.trans (h2.mono hb0.size)
      refine ⟨(hb.cell (p := ⟨b, off + m * 2, none⟩) hbB).trans hk, (hb.cell (p := ⟨b, off + m * 2 + 1, none⟩) hbB).trans hl, by have := hb.size; omega, hb.alloc hb.size _, heap_alloc_new _ _, ?_⟩
      exact (Below.heap_alloc _ _ _ (box_lt (box_below (heap_alloc_new w _) h2))).trans (box_below (heap_alloc_new w _) h2)
    have RUN := hide run
    clear run h hnm hb0
    subst hl00
    obtain ⟨hkd, hga⟩ := hg
    rcases hkd with rfl | rfl
    · go_enter Try.func73, Try.ntmps73
      go_wp2_with fail
      refine hsp.mono ?_
      rintro r w2 ⟨g2, rfl, hb⟩
      obtain ⟨c0, c1, hbw, hbb, hbx, hbn⟩ := (unhide RUN) w2 hb
      clear hk hl hsp
      go_wp2
      have hpl : w2.heap.size < (w2.alloc (pbox 7 0)).heap.size := by simp
      generalize hWe : w2.alloc (pbox 7 0) = w1 at *
      clear hWe c0 c1
      obtain ⟨c0, c1⟩ := box_cells hbx
      have hS : ∀ W, Below w1.heap.size w1 W → Below w1.heap.size w1 W ∧ W.cell? ⟨w2.heap.size, 0, none⟩ = some (.int .i64 7) ∧ W.cell? ⟨w2.heap.size, 1, none⟩ = some (.int .i64 0) := fun W hW => ⟨hW, (hW.cell (p := ⟨w2.heap.size, 0, none⟩) hpl).trans c0, (hW.cell (p := ⟨w2.heap.size, 1, none⟩) hpl).trans c1⟩
      have SX : ∀ W, Below w1.heap.size w1 W → PS W W.heap.size (some ⟨b, off, none⟩) a.sz a.flat := fun W hW => ((unhide HA).up hbb).up hW
      have BD : Below w1.heap.size w1 w1.drew := (Below.refl _ _).drew
      have LM := mk1_len' 7 LX0.out
      have LP : 0 < (Ex.sNot (Ex.der lt a)).flat.length := flat_pos _
      go_region_held3 (fun w' => Below w1.heap.size w1 w' ∧ w'.cell? ⟨w2.heap.size, 0, none⟩ = some (.int .i64 7) ∧ w'.cell? ⟨w2.heap.size, 1, none⟩ = some (.int .i64 0))
        (first | (refine hS _ ?_; first | (first | (apply And.left; assumption) | exact Below.refl _ _ | (refine Below.trans ?_ (Below.mono hbx ?_); (apply And.left; assumption); (refine Below.size (B := w1.heap.size) (w := w1) ?_; (apply And.left; assumption))) | (refine Below.trans ?_ (Below.mono hby ?_); (apply And.left; assumption); (refine Below.size (B := w1.heap.size) (w := w1) ?_; (apply And.left; assumption))) | (refine Below.trans ?_ (Below.mono hbm ?_); (apply And.left; assumption); (refine Below.size (B := w1.heap.size) (w := w1) ?_; (apply And.left; assumption))) | exact hbf) | (refine Below.drew ?_; (first | (apply And.left; assumption) | exact Below.refl _ _ | (refine Below.trans ?_ (Below.mono hbx ?_); (apply And.left; assumption); (refine Below.size (B := w1.heap.size) (w := w1) ?_; (apply And.left; assumption))) | (refine Below.trans ?_ (Below.mono hby ?_); (apply And.left; assumption); (refine Below.size (B := w1.heap.size) (w := w1) ?_; (apply And.left; assumption))) | (refine Below.trans ?_ (Below.mono hbm ?_); (apply And.left; assumption); (refine Below.size (B := w1.heap.size) (w := w1) ?_; (apply And.left; assumption))) | exact hbf)) | (refine Below.drew ?_; (refine Below.alloc ?_ ?_ _; (first | (apply And.left; assumption) | exact Below.refl _ _ | (refine Below.trans ?_ (Below.mono hbx ?_); (apply And.left; assumption); (refine Below.size (B := w1.heap.size) (w := w1) ?_; (apply And.left; assumption))) | (refine Below.trans ?_ (Below.mono hby ?_); (apply And.left; assumption); (refine Below.size (B := w1.heap.size) (w := w1) ?_; (apply And.left; assumption))) | (refine Below.trans ?_ (Below.mono hbm ?_); (apply And.left; assumption); (refine Below.size (B := w1.heap.size) (w := w1) ?_; (apply And.left; assumption))) | exact hbf); (refine Below.size (B := w1.heap.size) (w := w1) ?_; (first | (apply And.left; assumption) | exact Below.refl _ _ | (refine Below.trans ?_ (Below.mono hbx ?_); (apply And.left; assumption); (refine Below.size (B := w1.heap.size) (w := w1) ?_; (apply And.left; assumption))) | (refine Below.trans ?_ (Below.mono hby ?_); (apply And.left; assumption); (refine Below.size (B := w1.heap.size) (w := w1) ?_; (apply And.left; assumption))) | (refine Below.trans ?_ (Below.mono hbm ?_); (apply And.left; assumption); (refine Below.size (B := w1.heap.size) (w := w1) ?_; (apply And.left; assumption))) | exact hbf)))) | (refine Below.alloc ?_ ?_ _; (first | (apply And.left; assumption) | exact Below.refl _ _ | (refine Below.trans ?_ (Below.mono hbx ?_); (apply And.left; assumption); (refine Below.size (B := w1.heap.size) (w := w1) ?_; (apply And.left; assumption))) | (refine Below.trans ?_ (Below.mono hby ?_); (apply And.left; assumption); (refine Below.size (B := w1.heap.size) (w := w1) ?_; (apply And.left; assumption))) | (refine Below.trans ?_ (Below.mono hbm ?_); (apply And.left; assumption); (refine Below.size (B := w1.heap.size) (w := w1) ?_; (apply And.left; assumption))) | exact hbf); (refine Below.size (B := w1.heap.size) (w := w1) ?_; (first | (apply And.left; assumption) | exact Below.refl _ _ | (refine Below.trans ?_ (Below.mono hbx ?_); (apply And.left; assumption); (refine Below.size (B := w1.heap.size) (w := w1) ?_; (apply And.left; assumption))) | (refine Below.trans ?_ (Below.mono hby ?_); (apply And.left; assumption); (refine Below.size (B := w1.heap.size) (w := w1) ?_; (apply And.left; assumption))) | (refine Below.trans ?_ (Below.mono hbm ?_); (apply And.left; assumption); (refine Below.size (B := w1.heap.size) (w := w1) ?_; (apply And.left; assumption))) | exact hbf))) | (refine Below.drew ?_; (refine Below.alloc ?_ ?_ _; (refine Below.alloc ?_ ?_ _; (first | (apply And.left; assumption) | exact Below.refl _ _ | (refine Below.trans ?_ (Below.mono hbx ?_); (apply And.left; assumption); (refine Below.size (B := w1.heap.size) (w := w1) ?_; (apply And.left; assumption))) | (refine Below.trans ?_ (Below.mono hby ?_); (apply And.left; assumption); (refine Below.size (B := w1.heap.size) (w := w1) ?_; (apply And.left; assumption))) | (refine Below.trans ?_ (Below.mono hbm ?_); (apply And.left; assumption); (refine Below.size (B := w1.heap.size) (w := w1) ?_; (apply And.left; assumption))) | exact hbf); (refine Below.size (B := w1.heap.size) (w := w1) ?_; (first | (apply And.left; assumption) | exact Below.refl _ _ | (refine Below.trans ?_ (Below.mono hbx ?_); (apply And.left; assumption); (refine Below.size (B := w1.heap.size) (w := w1) ?_; (apply And.left; assumption))) | (refine Below.trans ?_ (Below.mono hby ?_); (apply And.left; assumption); (refine Below.size (B := w1.heap.size) (w := w1) ?_; (apply And.left; assumption))) | (refine Below.trans ?_ (Below.mono hbm ?_); (apply And.left; assumption); (refine Below.size (B := w1.heap.size) (w := w1) ?_; (apply And.left; assumption))) | exact hbf))); (refine Below.size (B := w1.heap.size) (w := w1) ?_; (refine Below.alloc ?_ ?_ _; (first | (apply And.left; assumption) | exact Below.refl _ _ | (refine Below.trans ?_ (Below.mono hbx ?_); (apply And.left; assumption); (refine Below.size (B := w1.heap.size) (w := w1) ?_; (apply And.left; assumption))) | (refine Below.trans ?_ (Below.mono hby ?_); (apply And.left; assumption); (refine Below.size (B := w1.heap.size) (w := w1) ?_; (apply And.left; assumption))) | (refine Below.trans ?_ (Below.mono hbm ?_); (apply And.left; assumption); (refine Below.size (B := w1.heap.size) (w := w1) ?_; (apply And.left; assumption))) | exact hbf); (refine Below.size (B := w1.heap.size) (w := w1) ?_; (first | (apply And.left; assumption) | exact Below.refl _ _ | (refine Below.trans ?_ (Below.mono hbx ?_); (apply And.left; assumption); (refine Below.size (B := w1.heap.size) (w := w1) ?_; (apply And.left; assumption))) | (refine Below.trans ?_ (Below.mono hby ?_); (apply And.left; assumption); (refine Below.size (B := w1.heap.size) (w := w1) ?_; (apply And.left; assumption))) | (refine Below.trans ?_ (Below.mono hbm ?_); (apply And.left; assumption); (refine Below.size (B := w1.heap.size) (w := w1) ?_; (apply And.left; assumption))) | exact hbf)))))) | (refine Below.alloc ?_ ?_ _; (refine Below.alloc ?_ ?_ _; (first | (apply And.left; assumption) | exact Below.refl _ _ | (refine Below.trans ?_ (Below.mono hbx ?_); (apply And.left; assumption); (refine Below.size (B := w1.heap.size) (w := w1) ?_; (apply And.left; assumption))) | (refine Below.trans ?_ (Below.mono hby ?_); (apply And.left; assumption); (refine Below.size (B := w1.heap.size) (w := w1) ?_; (apply And.left; assumption))) | (refine Below.trans ?_ (Below.mono hbm ?_); (apply And.left; assumption); (refine Below.size (B := w1.heap.size) (w := w1) ?_; (apply And.left; assumption))) | exact hbf); (refine Below.size (B := w1.heap.size) (w := w1) ?_; (first | (apply And.left; assumption) | exact Below.refl _ _ | (refine Below.trans ?_ (Below.mono hbx ?_); (apply And.left; assumption); (refine Below.size (B := w1.heap.size) (w := w1) ?_; (apply And.left; assumption))) | (refine Below.trans ?_ (Below.mono hby ?_); (apply And.left; assumption); (refine Below.size (B := w1.heap.size) (w := w1) ?_; (apply And.left; assumption))) | (refine Below.trans ?_ (Below.mono hbm ?_); (apply And.left; assumption); (refine Below.size (B := w1.heap.size) (w := w1) ?_; (apply And.left; assumption))) | exact hbf))); (refine Below.size (B := w1.heap.size) (w := w1) ?_; (refine Below.alloc ?_ ?_ _; (first | (apply And.left; assumption) | exact Below.refl _ _ | (refine Below.trans ?_ (Below.mono hbx ?_); (apply And.left; assumption); (refine Below.size (B := w1.heap.size) (w := w1) ?_; (apply And.left; assumption))) | (refine Below.trans ?_ (Below.mono hby ?_); (apply And.left; assumption); (refine Below.size (B := w1.heap.size) (w := w1) ?_; (apply And.left; assumption))) | (refine Below.trans ?_ (Below.mono hbm ?_); (apply And.left; assumption); (refine Below.size (B := w1.heap.size) (w := w1) ?_; (apply And.left; assumption))) | exact hbf); (refine Below.size (B := w1.heap.size) (w := w1) ?_; (first | (apply And.left; assumption) | exact Below.refl _ _ | (refine Below.trans ?_ (Below.mono hbx ?_); (apply And.left; assumption); (refine Below.size (B := w1.heap.size) (w := w1) ?_; (apply And.left; assumption))) | (refine Below.trans ?_ (Below.mono hby ?_); (apply And.left; assumption); (refine Below.size (B := w1.heap.size) (w := w1) ?_; (apply And.left; assumption))) | (refine Below.trans ?_ (Below.mono hbm ?_); (apply And.left; assumption); (refine Below.size (B := w1.heap.size) (w := w1) ?_; (apply And.left; assumption))) | exact hbf)))))))
        (first
          | (go_at_call 73; (with_reducible refine (ih _ _ _ _ hga (SX _ ?_) a1 a2 hcm).mono ?_); (apply And.left; assumption); intro r wx hd; obtain ⟨A1, N1, c1x, rfl, h1, hbx⟩ := (OwnD.ret hd (le9 _ LX.out)).opn; have hnh1 := le1 _ (h1.le LX.out); clear hd)
          | (go_at_call 85; (with_reducible refine (l5Make_7 (Ex.der lt a) (unhide HD) _ _ _ _ _ _ ?_ SL.empty hnh1).mono ?_); (first | exact h1 | exact h1.al _ | exact (h1.al _).al _); intro r wm hd; obtain ⟨A3, N3, c3, rfl, h3, hbm⟩ := hd.opn; clear hd)
          | (refine step_append_fresh rfl (.tmp 68) (.tmp 74) rfl _ rfl A3 N3 c3 (Ex.sNot (Ex.der lt a)).flat rfl w1 LP (le9 _ LM) ?_ ?_ ?_; (first | exact h3 | exact h3.al _); (apply And.left; assumption); intro v9 w9 hown9 hbf))
      all_goals
        go_wp2
        go_ret
        rw [Ex.der_un7]
        exact retOwn hbb hown9 hbf
    · go_enter Try.func73, Try.ntmps73
      go_wp2_with fail
      refine hsp.mono ?_
      rintro r w2 ⟨g2, rfl, hb⟩
      obtain ⟨c0, c1, hbw, hbb, hbx, hbn⟩ := (unhide RUN) w2 hb
      clear hk hl hsp
      go_wp2_with fail
      have HO0 := hide (own_empty (w2.alloc (pbox 8 0)) w.heap.size 45 hbb.size)
      have hbE := hbb.alloc hbb.size (.cells #[] 45)
      refine (ih _ _ _ _ hga ((unhide HA).up hbE) a1 a2 hcm).mono ?_
      intro r w3 hd
      obtain ⟨A3, N3, c3, rfl, h3, hb3⟩ := (OwnD.ret hd (le9 _ LX.out)).opn
      have hn3 := le1 _ (h3.le LX.out)
      have hbb3 := hbE.trans (hb3.mono hbE.size)
      have H3 := hide h3
      have HO3 := hide (own_keep (unhide HO0) hb3)
      clear h3 hd
      go_wp2_with fail
      refine (l5Simple_any _ _ _ _ _ (unhide HG) ((unhide HH).up hbb3) hn hc hcm).mono ?_
      intro r w4 hd
      have ls := simp_len2 _ HSZ.out
      obtain ⟨A4, N4, c4, rfl, h4, hb4⟩ := (OwnD.ret hd (le9 _ ls)).opn
      have hn4 := le1 _ (h4.le ls)
      have hbb4 := hbb3.trans (hb4.mono hbb3.size)
      have H4 := hide h4
      have H34 := hide ((unhide H3).up hb4)
      have HO4 := hide (own_keep (unhide HO3) hb4)
      clear h4 hd ls
      go_wp2_with fail
      refine (l5Make_4 _ _ _ _ _ _ _ _ _ (unhide H34) (unhide H4) hn3 hn4).mono ?_
      intro r w5 hd
      have lj := Lib.hid (show (Ex.sJoin (Ex.der lt a) (Ex.simp (.un 8 a))).flat.length ≤ 8000 from mk_len' 4 LX0.out (Nat.le_trans (simp_len' _ HSZ.out) (by omega)))
      obtain ⟨A5, N5, c5, rfl, h5, hb5⟩ := hd.opn
      have hn5 : N5 ≤ 8000 := h5.le lj.out
      have hbb5 := hbb4.trans (hb5.mono hbb4.size)
      have H5 := hide h5
      have HN5 := Lib.hid h5.1.1
      have HO5 := hide (own_keep (unhide HO4) hb5)
      have ez : (w2.alloc (pbox 8 0)).heap.size = w2.heap.size + 1 := World.size_alloc _ _
      clear h5 hd
      rw [ez] at HO5
      clear ez
      go_wp2_with (at_builtin; go_must (refine wpList_append_parts rfl (.tmp 78) (.tmp 85) rfl w.heap.size w5.heap.size (.slice (some ⟨w2.heap.size + 1, 0, none⟩) 0 0) 0 [] rfl (unhide HO5) A5 N5 c5 (Ex.sJoin (Ex.der lt a) (Ex.simp (.un 8 a))).flat rfl (unhide H5).2.2.2 (unhide H5).1 ?_ ?_ ?_); go_must (omega); go_must (exact hbb5.size); go_must (intro v9 w9 hown9 hgrow9))
      go_ret
      rw [Ex.der_un8]
      refine ⟨v9, rfl, ?_, hbb5.grown hgrow9 hbb5.size (own_block (unhide HO5))⟩
      rw [HN5.out]
      rw [List.nil_append, Nat.zero_add] at hown9
      exact hown9
  | bin kd x y ihx ihy =>
    intro w A n c hg h hn hc hcm
    obtain ⟨b, off, m, rfl, hbB, hnm, hm, hk, hl⟩ := h.last
    obtain ⟨l, hl0⟩ : ∃ l, (Ex.bin kd x y).lett = l := ⟨_, rfl⟩
    rw [hl0] at hl
    have hl1 : l = 0 := hl0.symm
    subst hl1
    obtain ⟨l, hl00⟩ : ∃ l : Int, l = 0 := ⟨0, rfl⟩
    rw [← hl00] at hl
    simp only [Ex.kind] at hk
    have n1 : 1 ≤ n := by omega
    have HH := hide h
    have HNM := Lib.hid hnm
    have hb0 : Below w.heap.size w (w.alloc (pbox 1 0)) := (Below.refl _ _).alloc (Nat.le_refl _) _
    have hsp := l2Split_any _ _ n c _ hg (h.up hb0) (by omega) hc hcm
    have hla := h.len
    simp only [Ex.sz] at hla
    have a1 : x.sz ≤ 60 := by omega
    have a2 : x.sz ≤ c := by omega
    have a3 : y.sz ≤ 60 := by omega
    have a4 : y.sz ≤ c - x.sz := by omega
    have a5 : c - x.sz ≤ maxLen := by omega
    have HA := hide (PS.bin h)
    have LX := Lib.hid (der_len' lt x a1)
    have LX0 := Lib.hid (der_len lt x a1)
    have LY := Lib.hid (der_len' lt y a3)
    have LY0 := Lib.hid (der_len lt y a3)
    have LS := Lib.hid (simp_len2 y a3)
    have LS0 := Lib.hid (simp_len' y a3)
    have HG := hide hg
    clear hl0 hla
    have run : ∀ (w2 : World), Below (w.alloc (pbox 1 0)).heap.size (w.alloc (pbox 1 0)) w2 → w2.cell? ⟨b, off + m * 2, none⟩ = some (.int .i64 kd) ∧ w2.cell? ⟨b, off + m * 2 + 1, none⟩ = some (.int .i64 l) ∧ b < w2.heap.size ∧ Below w.heap.size w (w2.alloc (pbox kd l)) ∧ (w2.alloc (pbox kd l)).heap[w2.heap.size]? = some (pbox kd l) ∧ (w2.alloc (pbox kd l)).heap[w.heap.size]? = some (pbox 1 0) := fun w2 h2 => by
      have hb := hb0.trans (h2.mono hb0.size)
      refine ⟨(hb.cell (p := ⟨b, off + m * 2, none⟩) hbB).trans hk, (hb.cell (p := ⟨b, off + m * 2 + 1, none⟩) hbB).trans hl, by have := hb.size; omega, hb.alloc hb.size _, heap_alloc_new _ _, ?_⟩
      exact (Below.heap_alloc _ _ _ (box_lt (box_below (heap_alloc_new w _) h2))).trans (box_below (heap_alloc_new w _) h2)
    have RUN := hide run
    clear run h hnm hb0
    subst hl00
    obtain ⟨hkd, hgx, hgy⟩ := hg
    rcases hkd with rfl | rfl | rfl
    · obtain ⟨E, hE⟩ : ∃ E, x.emp = E := ⟨_, rfl⟩
      have HE := Lib.hid hE
      clear hE
      go_enter Try.func73, Try.ntmps73
      go_wp2_with fail
      refine hsp.mono ?_
      rintro r w2 ⟨b', o', hA, rfl, hb⟩
      injection hA with hA
      injection hA with hA1 hA2
      subst hA1; subst hA2
      obtain ⟨c0, c1, hbw, hbb, hbx, hbn⟩ := (unhide RUN) w2 hb
      clear hk hl hsp
      go_wp2
      have hpl : w2.heap.size < (w2.alloc (pbox 4 0)).heap.size := by simp
      generalize hWe : w2.alloc (pbox 4 0) = w1 at *
      clear hWe c0 c1
      obtain ⟨c0, c1⟩ := box_cells hbx
      have hS : ∀ W, Below w1.heap.size w1 W → Below w1.heap.size w1 W ∧ W.cell? ⟨w2.heap.size, 0, none⟩ = some (.int .i64 4) ∧ W.cell? ⟨w2.heap.size, 1, none⟩ = some (.int .i64 0) := fun W hW => ⟨hW, (hW.cell (p := ⟨w2.heap.size, 0, none⟩) hpl).trans c0, (hW.cell (p := ⟨w2.heap.size, 1, none⟩) hpl).trans c1⟩
      have SX : ∀ W, Below w1.heap.size w1 W → PS W W.heap.size (some ⟨b, off, none⟩) x.sz x.flat := fun W hW => ((unhide HA).1.up hbb).up hW
      have SY : ∀ W, Below w1.heap.size w1 W → PS W W.heap.size (some ⟨b, off + x.sz * 2, none⟩) y.sz y.flat := fun W hW => ((unhide HA).2.up hbb).up hW
      have BD : Below w1.heap.size w1 w1.drew := (Below.refl _ _).drew
      go_region_held3 (fun w' => Below w1.heap.size w1 w' ∧ w'.cell? ⟨w2.heap.size, 0, none⟩ = some (.int .i64 4) ∧ w'.cell? ⟨w2.heap.size, 1, none⟩ = some (.int .i64 0))
        (first | (refine hS _ ?_; first | (first | (apply And.left; assumption) | exact Below.refl _ _ | (refine Below.trans ?_ (Below.mono hbx ?_); (apply And.left; assumption); (refine Below.size (B := w1.heap.size) (w := w1) ?_; (apply And.left; assumption))) | (refine Below.trans ?_ (Below.mono hby ?_); (apply And.left; assumption); (refine Below.size (B := w1.heap.size) (w := w1) ?_; (apply And.left; assumption))) | (refine Below.trans ?_ (Below.mono hbm ?_); (apply And.left; assumption); (refine Below.size (B := w1.heap.size) (w := w1) ?_; (apply And.left; assumption))) | exact hbf) | (refine Below.drew ?_; (first | (apply And.left; assumption) | exact Below.refl _ _ | (refine Below.trans ?_ (Below.mono hbx ?_); (apply And.left; assumption); (refine Below.size (B := w1.heap.size) (w := w1) ?_; (apply And.left; assumption))) | (refine Below.trans ?_ (Below.mono hby ?_); (apply And.left; assumption); (refine Below.size (B := w1.heap.size) (w := w1) ?_; (apply And.left; assumption))) | (refine Below.trans ?_ (Below.mono hbm ?_); (apply And.left; assumption); (refine Below.size (B := w1.heap.size) (w := w1) ?_; (apply And.left; assumption))) | exact hbf)) | (refine Below.drew ?_; (refine Below.alloc ?_ ?_ _; (first | (apply And.left; assumption) | exact Below.refl _ _ | (refine Below.trans ?_ (Below.mono hbx ?_); (apply And.left; assumption); (refine Below.size (B := w1.heap.size) (w := w1) ?_; (apply And.left; assumption))) | (refine Below.trans ?_ (Below.mono hby ?_); (apply And.left; assumption); (refine Below.size (B := w1.heap.size) (w := w1) ?_; (apply And.left; assumption))) | (refine Below.trans ?_ (Below.mono hbm ?_); (apply And.left; assumption); (refine Below.size (B := w1.heap.size) (w := w1) ?_; (apply And.left; assumption))) | exact hbf); (refine Below.size (B := w1.heap.size) (w := w1) ?_; (first | (apply And.left; assumption) | exact Below.refl _ _ | (refine Below.trans ?_ (Below.mono hbx ?_); (apply And.left; assumption); (refine Below.size (B := w1.heap.size) (w := w1) ?_; (apply And.left; assumption))) | (refine Below.trans ?_ (Below.mono hby ?_); (apply And.left; assumption); (refine Below.size (B := w1.heap.size) (w := w1) ?_; (apply And.left; assumption))) | (refine Below.trans ?_ (Below.mono hbm ?_); (apply And.left; assumption); (refine Below.size (B := w1.heap.size) (w := w1) ?_; (apply And.left; assumption))) | exact hbf)))) | (refine Below.alloc ?_ ?_ _; (first | (apply And.left; assumption) | exact Below.refl _ _ | (refine Below.trans ?_ (Below.mono hbx ?_); (apply And.left; assumption); (refine Below.size (B := w1.heap.size) (w := w1) ?_; (apply And.left; assumption))) | (refine Below.trans ?_ (Below.mono hby ?_); (apply And.left; assumption); (refine Below.size (B := w1.heap.size) (w := w1) ?_; (apply And.left; assumption))) | (refine Below.trans ?_ (Below.mono hbm ?_); (apply And.left; assumption); (refine Below.size (B := w1.heap.size) (w := w1) ?_; (apply And.left; assumption))) | exact hbf); (refine Below.size (B := w1.heap.size) (w := w1) ?_; (first | (apply And.left; assumption) | exact Below.refl _ _ | (refine Below.trans ?_ (Below.mono hbx ?_); (apply And.left; assumption); (refine Below.size (B := w1.heap.size) (w := w1) ?_; (apply And.left; assumption))) | (refine Below.trans ?_ (Below.mono hby ?_); (apply And.left; assumption); (refine Below.size (B := w1.heap.size) (w := w1) ?_; (apply And.left; assumption))) | (refine Below.trans ?_ (Below.mono hbm ?_); (apply And.left; assumption); (refine Below.size (B := w1.heap.size) (w := w1) ?_; (apply And.left; assumption))) | exact hbf))) | (refine Below.drew ?_; (refine Below.alloc ?_ ?_ _; (refine Below.alloc ?_ ?_ _; (first | (apply And.left; assumption) | exact Below.refl _ _ | (refine Below.trans ?_ (Below.mono hbx ?_); (apply And.left; assumption); (refine Below.size (B := w1.heap.size) (w := w1) ?_; (apply And.left; assumption))) | (refine Below.trans ?_ (Below.mono hby ?_); (apply And.left; assumption); (refine Below.size (B := w1.heap.size) (w := w1) ?_; (apply And.left; assumption))) | (refine Below.trans ?_ (Below.mono hbm ?_); (apply And.left; assumption); (refine Below.size (B := w1.heap.size) (w := w1) ?_; (apply And.left; assumption))) | exact hbf); (refine Below.size (B := w1.heap.size) (w := w1) ?_; (first | (apply And.left; assumption) | exact Below.refl _ _ | (refine Below.trans ?_ (Below.mono hbx ?_); (apply And.left; assumption); (refine Below.size (B := w1.heap.size) (w := w1) ?_; (apply And.left; assumption))) | (refine Below.trans ?_ (Below.mono hby ?_); (apply And.left; assumption); (refine Below.size (B := w1.heap.size) (w := w1) ?_; (apply And.left; assumption))) | (refine Below.trans ?_ (Below.mono hbm ?_); (apply And.left; assumption); (refine Below.size (B := w1.heap.size) (w := w1) ?_; (apply And.left; assumption))) | exact hbf))); (refine Below.size (B := w1.heap.size) (w := w1) ?_; (refine Below.alloc ?_ ?_ _; (first | (apply And.left; assumption) | exact Below.refl _ _ | (refine Below.trans ?_ (Below.mono hbx ?_); (apply And.left; assumption); (refine Below.size (B := w1.heap.size) (w := w1) ?_; (apply And.left; assumption))) | (refine Below.trans ?_ (Below.mono hby ?_); (apply And.left; assumption); (refine Below.size (B := w1.heap.size) (w := w1) ?_; (apply And.left; assumption))) | (refine Below.trans ?_ (Below.mono hbm ?_); (apply And.left; assumption); (refine Below.size (B := w1.heap.size) (w := w1) ?_; (apply And.left; assumption))) | exact hbf); (refine Below.size (B := w1.heap.size) (w := w1) ?_; (first | (apply And.left; assumption) | exact Below.refl _ _ | (refine Below.trans ?_ (Below.mono hbx ?_); (apply And.left; assumption); (refine Below.size (B := w1.heap.size) (w := w1) ?_; (apply And.left; assumption))) | (refine Below.trans ?_ (Below.mono hby ?_); (apply And.left; assumption); (refine Below.size (B := w1.heap.size) (w := w1) ?_; (apply And.left; assumption))) | (refine Below.trans ?_ (Below.mono hbm ?_); (apply And.left; assumption); (refine Below.size (B := w1.heap.size) (w := w1) ?_; (apply And.left; assumption))) | exact hbf)))))) | (refine Below.alloc ?_ ?_ _; (refine Below.alloc ?_ ?_ _; (first | (apply And.left; assumption) | exact Below.refl _ _ | (refine Below.trans ?_ (Below.mono hbx ?_); (apply And.left; assumption); (refine Below.size (B := w1.heap.size) (w := w1) ?_; (apply And.left; assumption))) | (refine Below.trans ?_ (Below.mono hby ?_); (apply And.left; assumption); (refine Below.size (B := w1.heap.size) (w := w1) ?_; (apply And.left; assumption))) | (refine Below.trans ?_ (Below.mono hbm ?_); (apply And.left; assumption); (refine Below.size (B := w1.heap.size) (w := w1) ?_; (apply And.left; assumption))) | exact hbf); (refine Below.size (B := w1.heap.size) (w := w1) ?_; (first | (apply And.left; assumption) | exact Below.refl _ _ | (refine Below.trans ?_ (Below.mono hbx ?_); (apply And.left; assumption); (refine Below.size (B := w1.heap.size) (w := w1) ?_; (apply And.left; assumption))) | (refine Below.trans ?_ (Below.mono hby ?_); (apply And.left; assumption); (refine Below.size (B := w1.heap.size) (w := w1) ?_; (apply And.left; assumption))) | (refine Below.trans ?_ (Below.mono hbm ?_); (apply And.left; assumption); (refine Below.size (B := w1.heap.size) (w := w1) ?_; (apply And.left; assumption))) | exact hbf))); (refine Below.size (B := w1.heap.size) (w := w1) ?_; (refine Below.alloc ?_ ?_ _; (first | (apply And.left; assumption) | exact Below.refl _ _ | (refine Below.trans ?_ (Below.mono hbx ?_); (apply And.left; assumption); (refine Below.size (B := w1.heap.size) (w := w1) ?_; (apply And.left; assumption))) | (refine Below.trans ?_ (Below.mono hby ?_); (apply And.left; assumption); (refine Below.size (B := w1.heap.size) (w := w1) ?_; (apply And.left; assumption))) | (refine Below.trans ?_ (Below.mono hbm ?_); (apply And.left; assumption); (refine Below.size (B := w1.heap.size) (w := w1) ?_; (apply And.left; assumption))) | exact hbf); (refine Below.size (B := w1.heap.size) (w := w1) ?_; (first | (apply And.left; assumption) | exact Below.refl _ _ | (refine Below.trans ?_ (Below.mono hbx ?_); (apply And.left; assumption); (refine Below.size (B := w1.heap.size) (w := w1) ?_; (apply And.left; assumption))) | (refine Below.trans ?_ (Below.mono hby ?_); (apply And.left; assumption); (refine Below.size (B := w1.heap.size) (w := w1) ?_; (apply And.left; assumption))) | (refine Below.trans ?_ (Below.mono hbm ?_); (apply And.left; assumption); (refine Below.size (B := w1.heap.size) (w := w1) ?_; (apply And.left; assumption))) | exact hbf)))))))
        (first
          | (go_at_call 73; (with_reducible refine (ihx _ _ _ _ hgx (SX _ ?_) a1 a2 hcm).mono ?_); (apply And.left; assumption); intro r wx hd; obtain ⟨A1, N1, c1x, rfl, h1, hbx⟩ := (OwnD.ret hd (le9 _ LX.out)).opn; have hnh1 := le1 _ (h1.le LX.out); clear hd)
          | (go_at_call 53; (with_reducible refine (l5Simple_any y _ _ _ _ hgy (SY _ ?_) a3 a4 a5).mono ?_); (apply And.left; assumption); intro r wy hd; obtain ⟨A2, N2, c2, rfl, h2, hby⟩ := (OwnD.ret hd (le9 _ LS.out)).opn; have hnh2 := le1 _ (h2.le LS.out); clear hd)
          | (go_at_call 85; (with_reducible refine (l5Make_4 (Ex.der lt x) y.simp _ _ _ _ _ _ _ (SL.up h1 hby) h2 hnh1 hnh2).mono ?_); intro r wm hd; obtain ⟨A3, N3, c3, rfl, h3, hbm⟩ := hd.opn; clear hd))
      have LJ := Lib.hid (show (Ex.sJoin (Ex.der lt x) y.simp).flat.length ≤ 8000 from mk_len' 4 LX0.out (Nat.le_trans LS0.out (by omega)))
      have hn3 := h3.le LJ.out
      have bm : Below w1.heap.size w1 wm := by apply And.left; assumption
      have hbbm := hbb.trans (bm.mono hbb.size)
      have H3 := hide h3
      clear h1 h2 h3 hbx hby hbm
      go_wp2_with fail
      refine (l2Empty_any x _ _ _ _ hgx (SX _ bm) (by omega) a2 hcm).mono ?_
      rintro r w5 ⟨rfl, hb5⟩
      have bm5 := bm.trans (hb5.mono bm.size)
      have hbb5 := hbb.trans (bm5.mono hbb.size)
      have H35 := hide ((unhide H3).up hb5)
      rw [HE.out]
      cases E
      · have HN3 := Lib.hid (unhide H35).1.1
        go_wp2_with (at_builtin; go_must (refine wpList_append_parts rfl (.tmp 50) (.tmp 51) rfl w.heap.size (w5.heap.size + 1) (.slice (some ⟨w5.heap.size, 0, none⟩) 0 0) 0 [] rfl (own_empty w5 _ _ hbb5.size) A3 N3 c3 (Ex.sJoin (Ex.der lt x) y.simp).flat rfl (unhide H35).2.2.2 (PS_al (unhide H35).1) ?_ ?_ ?_); go_must (omega); go_must (exact le_alloc hbb5.size); go_must (intro v9 w9 hown9 hgrow9))
        go_ret
        rw [Ex.der_bin4f HE.out]
        refine ⟨v9, rfl, ?_, (hbb5.alloc hbb5.size _).grown hgrow9 (le_alloc hbb5.size) (own_block (own_empty w5 w.heap.size 45 hbb5.size))⟩
        rw [HN3.out]
        rw [List.nil_append, Nat.zero_add] at hown9
        exact hown9
      · go_wp2_with fail
        refine (ihy _ _ _ _ hgy (SY _ bm5) a3 a4 a5).mono ?_
        intro r w6 hd
        obtain ⟨A6, N6, c6, rfl, h6, hb6⟩ := (OwnD.ret hd (le9 _ LY.out)).opn
        have hn6 := le1 _ (h6.le LY.out)
        have hbb6 := hbb5.trans (hb6.mono hbb5.size)
        have H6 := hide h6
        have H36 := hide ((unhide H35).up hb6)
        clear h6 hd
        go_wp2_with fail
        refine (l5Make_5 _ _ _ _ _ _ _ _ _ (unhide H36) (unhide H6) (le1 _ hn3) hn6).mono ?_
        intro r w7 hd
        obtain ⟨A7, N7, c7, rfl, h7, hb7⟩ := hd.opn
        have hn7 : N7 ≤ 20000 := by
          have e1 := h7.1.1
          have e2 := Ex.sEither_sz (Ex.sJoin (Ex.der lt x) y.simp) (Ex.der lt y)
          have e3 := LJ.out
          have e4 := LY.out
          rw [Ex.flat_length] at e1 e3 e4
          omega
        have hbb7 := hbb6.trans (hb7.mono hbb6.size)
        have H7 := hide h7
        have HN7 := Lib.hid h7.1.1
        clear h7 hd
        go_wp2_with (at_builtin; go_must (refine wpList_append_parts rfl (.tmp 50) (.tmp 51) rfl w.heap.size (w7.heap.size + 1) (.slice (some ⟨w7.heap.size, 0, none⟩) 0 0) 0 [] rfl (own_empty w7 _ _ hbb7.size) A7 N7 c7 (Ex.sEither (Ex.sJoin (Ex.der lt x) y.simp) (Ex.der lt y)).flat rfl (unhide H7).2.2.2 (PS_al (unhide H7).1) ?_ ?_ ?_); go_must (omega); go_must (exact le_alloc hbb7.size); go_must (intro v9 w9 hown9 hgrow9))
        go_ret
        rw [Ex.der_bin4t HE.out]
        refine ⟨v9, rfl, ?_, (hbb7.alloc hbb7.size _).grown hgrow9 (le_alloc hbb7.size) (own_block (own_empty w7 w.heap.size 45 hbb7.size))⟩
        rw [HN7.out]
        rw [List.nil_append, Nat.zero_add] at hown9
        exact hown9
    · go_enter Try.func73, Try.ntmps73
      go_wp2_with fail
      refine hsp.mono ?_
      rintro r w2 ⟨b', o', hA, rfl, hb⟩
      injection hA with hA
      injection hA with hA1 hA2
      subst hA1; subst hA2
      obtain ⟨c0, c1, hbw, hbb, hbx, hbn⟩ := (unhide RUN) w2 hb
      clear hk hl hsp
      go_wp2
      have hpl : w2.heap.size < (w2.alloc (pbox 5 0)).heap.size := by simp
      generalize hWe : w2.alloc (pbox 5 0) = w1 at *
      clear hWe c0 c1
      obtain ⟨c0, c1⟩ := box_cells hbx
      have hS : ∀ W, Below w1.heap.size w1 W → Below w1.heap.size w1 W ∧ W.cell? ⟨w2.heap.size, 0, none⟩ = some (.int .i64 5) ∧ W.cell? ⟨w2.heap.size, 1, none⟩ = some (.int .i64 0) := fun W hW => ⟨hW, (hW.cell (p := ⟨w2.heap.size, 0, none⟩) hpl).trans c0, (hW.cell (p := ⟨w2.heap.size, 1, none⟩) hpl).trans c1⟩
      have SX : ∀ W, Below w1.heap.size w1 W → PS W W.heap.size (some ⟨b, off, none⟩) x.sz x.flat := fun W hW => ((unhide HA).1.up hbb).up hW
      have SY : ∀ W, Below w1.heap.size w1 W → PS W W.heap.size (some ⟨b, off + x.sz * 2, none⟩) y.sz y.flat := fun W hW => ((unhide HA).2.up hbb).up hW
      have BD : Below w1.heap.size w1 w1.drew := (Below.refl _ _).drew
      have LM := mk_len' 5 LX0.out LY0.out
      have LP : 0 < (Ex.sEither (Ex.der lt x) (Ex.der lt y)).flat.length := flat_pos _
      go_region_held3 (fun w' => Below w1.heap.size w1 w' ∧ w'.cell? ⟨w2.heap.size, 0, none⟩ = some (.int .i64 5) ∧ w'.cell? ⟨w2.heap.size, 1, none⟩ = some (.int .i64 0))
        (first | (refine hS _ ?_; first | (first | (apply And.left; assumption) | exact Below.refl _ _ | (refine Below.trans ?_ (Below.mono hbx ?_); (apply And.left; assumption); (refine Below.size (B := w1.heap.size) (w := w1) ?_; (apply And.left; assumption))) | (refine Below.trans ?_ (Below.mono hby ?_); (apply And.left; assumption); (refine Below.size (B := w1.heap.size) (w := w1) ?_; (apply And.left; assumption))) | (refine Below.trans ?_ (Below.mono hbm ?_); (apply And.left; assumption); (refine Below.size (B := w1.heap.size) (w := w1) ?_; (apply And.left; assumption))) | exact hbf) | (refine Below.drew ?_; (first | (apply And.left; assumption) | exact Below.refl _ _ | (refine Below.trans ?_ (Below.mono hbx ?_); (apply And.left; assumption); (refine Below.size (B := w1.heap.size) (w := w1) ?_; (apply And.left; assumption))) | (refine Below.trans ?_ (Below.mono hby ?_); (apply And.left; assumption); (refine Below.size (B := w1.heap.size) (w := w1) ?_; (apply And.left; assumption))) | (refine Below.trans ?_ (Below.mono hbm ?_); (apply And.left; assumption); (refine Below.size (B := w1.heap.size) (w := w1) ?_; (apply And.left; assumption))) | exact hbf)) | (refine Below.drew ?_; (refine Below.alloc ?_ ?_ _; (first | (apply And.left; assumption) | exact Below.refl _ _ | (refine Below.trans ?_ (Below.mono hbx ?_); (apply And.left; assumption); (refine Below.size (B := w1.heap.size) (w := w1) ?_; (apply And.left; assumption))) | (refine Below.trans ?_ (Below.mono hby ?_); (apply And.left; assumption); (refine Below.size (B := w1.heap.size) (w := w1) ?_; (apply And.left; assumption))) | (refine Below.trans ?_ (Below.mono hbm ?_); (apply And.left; assumption); (refine Below.size (B := w1.heap.size) (w := w1) ?_; (apply And.left; assumption))) | exact hbf); (refine Below.size (B := w1.heap.size) (w := w1) ?_; (first | (apply And.left; assumption) | exact Below.refl _ _ | (refine Below.trans ?_ (Below.mono hbx ?_); (apply And.left; assumption); (refine Below.size (B := w1.heap.size) (w := w1) ?_; (apply And.left; assumption))) | (refine Below.trans ?_ (Below.mono hby ?_); (apply And.left; assumption); (refine Below.size (B := w1.heap.size) (w := w1) ?_; (apply And.left; assumption))) | (refine Below.trans ?_ (Below.mono hbm ?_); (apply And.left; assumption); (refine Below.size (B := w1.heap.size) (w := w1) ?_; (apply And.left; assumption))) | exact hbf)))) | (refine Below.alloc ?_ ?_ _; (first | (apply And.left; assumption) | exact Below.refl _ _ | (refine Below.trans ?_ (Below.mono hbx ?_); (apply And.left; assumption); (refine Below.size (B := w1.heap.size) (w := w1) ?_; (apply And.left; assumption))) | (refine Below.trans ?_ (Below.mono hby ?_); (apply And.left; assumption); (refine Below.size (B := w1.heap.size) (w := w1) ?_; (apply And.left; assumption))) | (refine Below.trans ?_ (Below.mono hbm ?_); (apply And.left; assumption); (refine Below.size (B := w1.heap.size) (w := w1) ?_; (apply And.left; assumption))) | exact hbf); (refine Below.size (B := w1.heap.size) (w := w1) ?_; (first | (apply And.left; assumption) | exact Below.refl _ _ | (refine Below.trans ?_ (Below.mono hbx ?_); (apply And.left; assumption); (refine Below.size (B := w1.heap.size) (w := w1) ?_; (apply And.left; assumption))) | (refine Below.trans ?_ (Below.mono hby ?_); (apply And.left; assumption); (refine Below.size (B := w1.heap.size) (w := w1) ?_; (apply And.left; assumption))) | (refine Below.trans ?_ (Below.mono hbm ?_); (apply And.left; assumption); (refine Below.size (B := w1.heap.size) (w := w1) ?_; (apply And.left; assumption))) | exact hbf))) | (refine Below.drew ?_; (refine Below.alloc ?_ ?_ _; (refine Below.alloc ?_ ?_ _; (first | (apply And.left; assumption) | exact Below.refl _ _ | (refine Below.trans ?_ (Below.mono hbx ?_); (apply And.left; assumption); (refine Below.size (B := w1.heap.size) (w := w1) ?_; (apply And.left; assumption))) | (refine Below.trans ?_ (Below.mono hby ?_); (apply And.left; assumption); (refine Below.size (B := w1.heap.size) (w := w1) ?_; (apply And.left; assumption))) | (refine Below.trans ?_ (Below.mono hbm ?_); (apply And.left; assumption); (refine Below.size (B := w1.heap.size) (w := w1) ?_; (apply And.left; assumption))) | exact hbf); (refine Below.size (B := w1.heap.size) (w := w1) ?_; (first | (apply And.left; assumption) | exact Below.refl _ _ | (refine Below.trans ?_ (Below.mono hbx ?_); (apply And.left; assumption); (refine Below.size (B := w1.heap.size) (w := w1) ?_; (apply And.left; assumption))) | (refine Below.trans ?_ (Below.mono hby ?_); (apply And.left; assumption); (refine Below.size (B := w1.heap.size) (w := w1) ?_; (apply And.left; assumption))) | (refine Below.trans ?_ (Below.mono hbm ?_); (apply And.left; assumption); (refine Below.size (B := w1.heap.size) (w := w1) ?_; (apply And.left; assumption))) | exact hbf))); (refine Below.size (B := w1.heap.size) (w := w1) ?_; (refine Below.alloc ?_ ?_ _; (first | (apply And.left; assumption) | exact Below.refl _ _ | (refine Below.trans ?_ (Below.mono hbx ?_); (apply And.left; assumption); (refine Below.size (B := w1.heap.size) (w := w1) ?_; (apply And.left; assumption))) | (refine Below.trans ?_ (Below.mono hby ?_); (apply And.left; assumption); (refine Below.size (B := w1.heap.size) (w := w1) ?_; (apply And.left; assumption))) | (refine Below.trans ?_ (Below.mono hbm ?_); (apply And.left; assumption); (refine Below.size (B := w1.heap.size) (w := w1) ?_; (apply And.left; assumption))) | exact hbf); (refine Below.size (B := w1.heap.size) (w := w1) ?_; (first | (apply And.left; assumption) | exact Below.refl _ _ | (refine Below.trans ?_ (Below.mono hbx ?_); (apply And.left; assumption); (refine Below.size (B := w1.heap.size) (w := w1) ?_; (apply And.left; assumption))) | (refine Below.trans ?_ (Below.mono hby ?_); (apply And.left; assumption); (refine Below.size (B := w1.heap.size) (w := w1) ?_; (apply And.left; assumption))) | (refine Below.trans ?_ (Below.mono hbm ?_); (apply And.left; assumption); (refine Below.size (B := w1.heap.size) (w := w1) ?_; (apply And.left; assumption))) | exact hbf)))))) | (refine Below.alloc ?_ ?_ _; (refine Below.alloc ?_ ?_ _; (first | (apply And.left; assumption) | exact Below.refl _ _ | (refine Below.trans ?_ (Below.mono hbx ?_); (apply And.left; assumption); (refine Below.size (B := w1.heap.size) (w := w1) ?_; (apply And.left; assumption))) | (refine Below.trans ?_ (Below.mono hby ?_); (apply And.left; assumption); (refine Below.size (B := w1.heap.size) (w := w1) ?_; (apply And.left; assumption))) | (refine Below.trans ?_ (Below.mono hbm ?_); (apply And.left; assumption); (refine Below.size (B := w1.heap.size) (w := w1) ?_; (apply And.left; assumption))) | exact hbf); (refine Below.size (B := w1.heap.size) (w := w1) ?_; (first | (apply And.left; assumption) | exact Below.refl _ _ | (refine Below.trans ?_ (Below.mono hbx ?_); (apply And.left; assumption); (refine Below.size (B := w1.heap.size) (w := w1) ?_; (apply And.left; assumption))) | (refine Below.trans ?_ (Below.mono hby ?_); (apply And.left; assumption); (refine Below.size (B := w1.heap.size) (w := w1) ?_; (apply And.left; assumption))) | (refine Below.trans ?_ (Below.mono hbm ?_); (apply And.left; assumption); (refine Below.size (B := w1.heap.size) (w := w1) ?_; (apply And.left; assumption))) | exact hbf))); (refine Below.size (B := w1.heap.size) (w := w1) ?_; (refine Below.alloc ?_ ?_ _; (first | (apply And.left; assumption) | exact Below.refl _ _ | (refine Below.trans ?_ (Below.mono hbx ?_); (apply And.left; assumption); (refine Below.size (B := w1.heap.size) (w := w1) ?_; (apply And.left; assumption))) | (refine Below.trans ?_ (Below.mono hby ?_); (apply And.left; assumption); (refine Below.size (B := w1.heap.size) (w := w1) ?_; (apply And.left; assumption))) | (refine Below.trans ?_ (Below.mono hbm ?_); (apply And.left; assumption); (refine Below.size (B := w1.heap.size) (w := w1) ?_; (apply And.left; assumption))) | exact hbf); (refine Below.size (B := w1.heap.size) (w := w1) ?_; (first | (apply And.left; assumption) | exact Below.refl _ _ | (refine Below.trans ?_ (Below.mono hbx ?_); (apply And.left; assumption); (refine Below.size (B := w1.heap.size) (w := w1) ?_; (apply And.left; assumption))) | (refine Below.trans ?_ (Below.mono hby ?_); (apply And.left; assumption); (refine Below.size (B := w1.heap.size) (w := w1) ?_; (apply And.left; assumption))) | (refine Below.trans ?_ (Below.mono hbm ?_); (apply And.left; assumption); (refine Below.size (B := w1.heap.size) (w := w1) ?_; (apply And.left; assumption))) | exact hbf)))))))
        (first
          | (go_at_call 73; (with_reducible refine (ihx _ _ _ _ hgx (SX _ ?_) a1 a2 hcm).mono ?_); (apply And.left; assumption); intro r wx hd; obtain ⟨A1, N1, c1x, rfl, h1, hbx⟩ := (OwnD.ret hd (le9 _ LX.out)).opn; have hnh1 := le1 _ (h1.le LX.out); clear hd)
          | (go_at_call 73; (with_reducible refine (ihy _ _ _ _ hgy (SY _ ?_) a3 a4 a5).mono ?_); (apply And.left; assumption); intro r wy hd; obtain ⟨A2, N2, c2x, rfl, h2, hby⟩ := (OwnD.ret hd (le9 _ LY.out)).opn; have hnh2 := le1 _ (h2.le LY.out); clear hd)
          | (go_at_call 85; (with_reducible refine (l5Make_5 (Ex.der lt x) (Ex.der lt y) _ _ _ _ _ _ _ ?_ ?_ hnh1 hnh2).mono ?_); (first | exact SL.up h1 hby | exact SL.up (SL.al h1 _) hby | exact SL.al (SL.up h1 hby) _); (first | exact h2 | exact h2.al _); intro r wm hd; obtain ⟨A3, N3, c3, rfl, h3, hbm⟩ := hd.opn; clear hd)
          | (refine step_append_fresh rfl (.tmp 56) (.tmp 64) rfl _ rfl A3 N3 c3 (Ex.sEither (Ex.der lt x) (Ex.der lt y)).flat rfl w1 LP (le9 _ LM) ?_ ?_ ?_; (first | exact h3 | exact h3.al _); (apply And.left; assumption); intro v9 w9 hown9 hbf))
      all_goals
        go_wp2
        go_ret
        rw [Ex.der_bin (by omega)]
        exact retOwn hbb hown9 hbf
    · go_enter Try.func73, Try.ntmps73
      go_wp2_with fail
      refine hsp.mono ?_
      rintro r w2 ⟨b', o', hA, rfl, hb⟩
      injection hA with hA
      injection hA with hA1 hA2
      subst hA1; subst hA2
      obtain ⟨c0, c1, hbw, hbb, hbx, hbn⟩ := (unhide RUN) w2 hb
      clear hk hl hsp
      go_wp2
      have hpl : w2.heap.size < (w2.alloc (pbox 6 0)).heap.size := by simp
      generalize hWe : w2.alloc (pbox 6 0) = w1 at *
      clear hWe c0 c1
      obtain ⟨c0, c1⟩ := box_cells hbx
      have hS : ∀ W, Below w1.heap.size w1 W → Below w1.heap.size w1 W ∧ W.cell? ⟨w2.heap.size, 0, none⟩ = some (.int .i64 6) ∧ W.cell? ⟨w2.heap.size, 1, none⟩ = some (.int .i64 0) := fun W hW => ⟨hW, (hW.cell (p := ⟨w2.heap.size, 0, none⟩) hpl).trans c0, (hW.cell (p := ⟨w2.heap.size, 1, none⟩) hpl).trans c1⟩
      have SX : ∀ W, Below w1.heap.size w1 W → PS W W.heap.size (some ⟨b, off, none⟩) x.sz x.flat := fun W hW => ((unhide HA).1.up hbb).up hW
      have SY : ∀ W, Below w1.heap.size w1 W → PS W W.heap.size (some ⟨b, off + x.sz * 2, none⟩) y.sz y.flat := fun W hW => ((unhide HA).2.up hbb).up hW
      have BD : Below w1.heap.size w1 w1.drew := (Below.refl _ _).drew
      have LM := mk_len' 6 LX0.out LY0.out
      have LP : 0 < (Ex.sBoth (Ex.der lt x) (Ex.der lt y)).flat.length := flat_pos _
      go_region_held3 (fun w' => Below w1.heap.size w1 w' ∧ w'.cell? ⟨w2.heap.size, 0, none⟩ = some (.int .i64 6) ∧ w'.cell? ⟨w2.heap.size, 1, none⟩ = some (.int .i64 0))
        (first | (refine hS _ ?_; first | (first | (apply And.left; assumption) | exact Below.refl _ _ | (refine Below.trans ?_ (Below.mono hbx ?_); (apply And.left; assumption); (refine Below.size (B := w1.heap.size) (w := w1) ?_; (apply And.left; assumption))) | (refine Below.trans ?_ (Below.mono hby ?_); (apply And.left; assumption); (refine Below.size (B := w1.heap.size) (w := w1) ?_; (apply And.left; assumption))) | (refine Below.trans ?_ (Below.mono hbm ?_); (apply And.left; assumption); (refine Below.size (B := w1.heap.size) (w := w1) ?_; (apply And.left; assumption))) | exact hbf) | (refine Below.drew ?_; (first | (apply And.left; assumption) | exact Below.refl _ _ | (refine Below.trans ?_ (Below.mono hbx ?_); (apply And.left; assumption); (refine Below.size (B := w1.heap.size) (w := w1) ?_; (apply And.left; assumption))) | (refine Below.trans ?_ (Below.mono hby ?_); (apply And.left; assumption); (refine Below.size (B := w1.heap.size) (w := w1) ?_; (apply And.left; assumption))) | (refine Below.trans ?_ (Below.mono hbm ?_); (apply And.left; assumption); (refine Below.size (B := w1.heap.size) (w := w1) ?_; (apply And.left; assumption))) | exact hbf)) | (refine Below.drew ?_; (refine Below.alloc ?_ ?_ _; (first | (apply And.left; assumption) | exact Below.refl _ _ | (refine Below.trans ?_ (Below.mono hbx ?_); (apply And.left; assumption); (refine Below.size (B := w1.heap.size) (w := w1) ?_; (apply And.left; assumption))) | (refine Below.trans ?_ (Below.mono hby ?_); (apply And.left; assumption); (refine Below.size (B := w1.heap.size) (w := w1) ?_; (apply And.left; assumption))) | (refine Below.trans ?_ (Below.mono hbm ?_); (apply And.left; assumption); (refine Below.size (B := w1.heap.size) (w := w1) ?_; (apply And.left; assumption))) | exact hbf); (refine Below.size (B := w1.heap.size) (w := w1) ?_; (first | (apply And.left; assumption) | exact Below.refl _ _ | (refine Below.trans ?_ (Below.mono hbx ?_); (apply And.left; assumption); (refine Below.size (B := w1.heap.size) (w := w1) ?_; (apply And.left; assumption))) | (refine Below.trans ?_ (Below.mono hby ?_); (apply And.left; assumption); (refine Below.size (B := w1.heap.size) (w := w1) ?_; (apply And.left; assumption))) | (refine Below.trans ?_ (Below.mono hbm ?_); (apply And.left; assumption); (refine Below.size (B := w1.heap.size) (w := w1) ?_; (apply And.left; assumption))) | exact hbf)))) | (refine Below.alloc ?_ ?_ _; (first | (apply And.left; assumption) | exact Below.refl _ _ | (refine Below.trans ?_ (Below.mono hbx ?_); (apply And.left; assumption); (refine Below.size (B := w1.heap.size) (w := w1) ?_; (apply And.left; assumption))) | (refine Below.trans ?_ (Below.mono hby ?_); (apply And.left; assumption); (refine Below.size (B := w1.heap.size) (w := w1) ?_; (apply And.left; assumption))) | (refine Below.trans ?_ (Below.mono hbm ?_); (apply And.left; assumption); (refine Below.size (B := w1.heap.size) (w := w1) ?_; (apply And.left; assumption))) | exact hbf); (refine Below.size (B := w1.heap.size) (w := w1) ?_; (first | (apply And.left; assumption) | exact Below.refl _ _ | (refine Below.trans ?_ (Below.mono hbx ?_); (apply And.left; assumption); (refine Below.size (B := w1.heap.size) (w := w1) ?_; (apply And.left; assumption))) | (refine Below.trans ?_ (Below.mono hby ?_); (apply And.left; assumption); (refine Below.size (B := w1.heap.size) (w := w1) ?_; (apply And.left; assumption))) | (refine Below.trans ?_ (Below.mono hbm ?_); (apply And.left; assumption); (refine Below.size (B := w1.heap.size) (w := w1) ?_; (apply And.left; assumption))) | exact hbf))) | (refine Below.drew ?_; (refine Below.alloc ?_ ?_ _; (refine Below.alloc ?_ ?_ _; (first | (apply And.left; assumption) | exact Below.refl _ _ | (refine Below.trans ?_ (Below.mono hbx ?_); (apply And.left; assumption); (refine Below.size (B := w1.heap.size) (w := w1) ?_; (apply And.left; assumption))) | (refine Below.trans ?_ (Below.mono hby ?_); (apply And.left; assumption); (refine Below.size (B := w1.heap.size) (w := w1) ?_; (apply And.left; assumption))) | (refine Below.trans ?_ (Below.mono hbm ?_); (apply And.left; assumption); (refine Below.size (B := w1.heap.size) (w := w1) ?_; (apply And.left; assumption))) | exact hbf); (refine Below.size (B := w1.heap.size) (w := w1) ?_; (first | (apply And.left; assumption) | exact Below.refl _ _ | (refine Below.trans ?_ (Below.mono hbx ?_); (apply And.left; assumption); (refine Below.size (B := w1.heap.size) (w := w1) ?_; (apply And.left; assumption))) | (refine Below.trans ?_ (Below.mono hby ?_); (apply And.left; assumption); (refine Below.size (B := w1.heap.size) (w := w1) ?_; (apply And.left; assumption))) | (refine Below.trans ?_ (Below.mono hbm ?_); (apply And.left; assumption); (refine Below.size (B := w1.heap.size) (w := w1) ?_; (apply And.left; assumption))) | exact hbf))); (refine Below.size (B := w1.heap.size) (w := w1) ?_; (refine Below.alloc ?_ ?_ _; (first | (apply And.left; assumption) | exact Below.refl _ _ | (refine Below.trans ?_ (Below.mono hbx ?_); (apply And.left; assumption); (refine Below.size (B := w1.heap.size) (w := w1) ?_; (apply And.left; assumption))) | (refine Below.trans ?_ (Below.mono hby ?_); (apply And.left; assumption); (refine Below.size (B := w1.heap.size) (w := w1) ?_; (apply And.left; assumption))) | (refine Below.trans ?_ (Below.mono hbm ?_); (apply And.left; assumption); (refine Below.size (B := w1.heap.size) (w := w1) ?_; (apply And.left; assumption))) | exact hbf); (refine Below.size (B := w1.heap.size) (w := w1) ?_; (first | (apply And.left; assumption) | exact Below.refl _ _ | (refine Below.trans ?_ (Below.mono hbx ?_); (apply And.left; assumption); (refine Below.size (B := w1.heap.size) (w := w1) ?_; (apply And.left; assumption))) | (refine Below.trans ?_ (Below.mono hby ?_); (apply And.left; assumption); (refine Below.size (B := w1.heap.size) (w := w1) ?_; (apply And.left; assumption))) | (refine Below.trans ?_ (Below.mono hbm ?_); (apply And.left; assumption); (refine Below.size (B := w1.heap.size) (w := w1) ?_; (apply And.left; assumption))) | exact hbf)))))) | (refine Below.alloc ?_ ?_ _; (refine Below.alloc ?_ ?_ _; (first | (apply And.left; assumption) | exact Below.refl _ _ | (refine Below.trans ?_ (Below.mono hbx ?_); (apply And.left; assumption); (refine Below.size (B := w1.heap.size) (w := w1) ?_; (apply And.left; assumption))) | (refine Below.trans ?_ (Below.mono hby ?_); (apply And.left; assumption); (refine Below.size (B := w1.heap.size) (w := w1) ?_; (apply And.left; assumption))) | (refine Below.trans ?_ (Below.mono hbm ?_); (apply And.left; assumption); (refine Below.size (B := w1.heap.size) (w := w1) ?_; (apply And.left; assumption))) | exact hbf); (refine Below.size (B := w1.heap.size) (w := w1) ?_; (first | (apply And.left; assumption) | exact Below.refl _ _ | (refine Below.trans ?_ (Below.mono hbx ?_); (apply And.left; assumption); (refine Below.size (B := w1.heap.size) (w := w1) ?_; (apply And.left; assumption))) | (refine Below.trans ?_ (Below.mono hby ?_); (apply And.left; assumption); (refine Below.size (B := w1.heap.size) (w := w1) ?_; (apply And.left; assumption))) | (refine Below.trans ?_ (Below.mono hbm ?_); (apply And.left; assumption); (refine Below.size (B := w1.heap.size) (w := w1) ?_; (apply And.left; assumption))) | exact hbf))); (refine Below.size (B := w1.heap.size) (w := w1) ?_; (refine Below.alloc ?_ ?_ _; (first | (apply And.left; assumption) | exact Below.refl _ _ | (refine Below.trans ?_ (Below.mono hbx ?_); (apply And.left; assumption); (refine Below.size (B := w1.heap.size) (w := w1) ?_; (apply And.left; assumption))) | (refine Below.trans ?_ (Below.mono hby ?_); (apply And.left; assumption); (refine Below.size (B := w1.heap.size) (w := w1) ?_; (apply And.left; assumption))) | (refine Below.trans ?_ (Below.mono hbm ?_); (apply And.left; assumption); (refine Below.size (B := w1.heap.size) (w := w1) ?_; (apply And.left; assumption))) | exact hbf); (refine Below.size (B := w1.heap.size) (w := w1) ?_; (first | (apply And.left; assumption) | exact Below.refl _ _ | (refine Below.trans ?_ (Below.mono hbx ?_); (apply And.left; assumption); (refine Below.size (B := w1.heap.size) (w := w1) ?_; (apply And.left; assumption))) | (refine Below.trans ?_ (Below.mono hby ?_); (apply And.left; assumption); (refine Below.size (B := w1.heap.size) (w := w1) ?_; (apply And.left; assumption))) | (refine Below.trans ?_ (Below.mono hbm ?_); (apply And.left; assumption); (refine Below.size (B := w1.heap.size) (w := w1) ?_; (apply And.left; assumption))) | exact hbf)))))))
        (first
          | (go_at_call 73; (with_reducible refine (ihx _ _ _ _ hgx (SX _ ?_) a1 a2 hcm).mono ?_); (apply And.left; assumption); intro r wx hd; obtain ⟨A1, N1, c1x, rfl, h1, hbx⟩ := (OwnD.ret hd (le9 _ LX.out)).opn; have hnh1 := le1 _ (h1.le LX.out); clear hd)
          | (go_at_call 73; (with_reducible refine (ihy _ _ _ _ hgy (SY _ ?_) a3 a4 a5).mono ?_); (apply And.left; assumption); intro r wy hd; obtain ⟨A2, N2, c2x, rfl, h2, hby⟩ := (OwnD.ret hd (le9 _ LY.out)).opn; have hnh2 := le1 _ (h2.le LY.out); clear hd)
          | (go_at_call 85; (with_reducible refine (l5Make_6 (Ex.der lt x) (Ex.der lt y) _ _ _ _ _ _ _ ?_ ?_ hnh1 hnh2).mono ?_); (first | exact SL.up h1 hby | exact SL.up (SL.al h1 _) hby | exact SL.al (SL.up h1 hby) _); (first | exact h2 | exact h2.al _); intro r wm hd; obtain ⟨A3, N3, c3, rfl, h3, hbm⟩ := hd.opn; clear hd)
          | (refine step_append_fresh rfl (.tmp 56) (.tmp 64) rfl _ rfl A3 N3 c3 (Ex.sBoth (Ex.der lt x) (Ex.der lt y)).flat rfl w1 LP (le9 _ LM) ?_ ?_ ?_; (first | exact h3 | exact h3.al _); (apply And.left; assumption); intro v9 w9 hown9 hbf))
      all_goals
        go_wp2
        go_ret
        rw [Ex.der_bin (by omega)]
        exact retOwn hbb hown9 hbf
end Go.Proofs.Ytadibjjjdbglaaa

