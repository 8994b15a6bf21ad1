/-
  Automata without the states that cannot be reached: the program's answer.
-/
import Derived.Test.YtcphbncgkemdoaaTrimE
namespace Go.Proofs.Ytcphbncgkemdoaa
open Go.RowKit
set_option linter.unusedVariables false
set_option maxRecDepth 100000

/-- What the program leaves. -/
def ImplTr (w : World) (rows : List (List Int)) (m : Nat) (bs : List Bool) (r : Ending) (w' : World) : Prop :=
  Below w.heap.size w w' ∧ ∃ (f : Nat → Nat) (A : Option Addr) (n c : Nat) (A2 : Option Addr) (c2 : Nat) (rs : List RowV), r = .returned (dfaV A n c A2 n c2) ∧ n ≤ 40 ∧ nums rs = outR rows m ∧ OwnA f w' w.heap.size A n c rs A2 n c2 (outE rows m bs)
theorem OwnA.keep {f f' : Nat → Nat} {w w' : World} {base : Nat} {A : Option Addr} {n c : Nat} {rs : List RowV} {A2 : Option Addr} {n2 c2 : Nat} {es : List Bool} {row : Option Nat} (h : OwnA f w base A n c rs A2 n2 c2 es) (hg : w.grownBy w' row) (hr : ∀ b, row = some b → f b < 5) (hf : ∀ b, b < w.heap.size → f' b = f b) : OwnA f' w' base A n c rs A2 n2 c2 es :=
  ⟨h.1.keep hg (fun b e => by have := hr b e; omega) hf, fun j r hj => ⟨(h.2.1 j r hj).1.keep hg (fun b e => by have := hr b e; omega) hf, (h.2.1 j r hj).2⟩, h.2.2.keep hg (fun b e => by have := hr b e; omega) hf⟩
theorem RowO.base {f : Nat → Nat} {i : Nat} {w : World} {B b : Nat} {t : TypeId} {v : Value} {n : Nat} {xs : List Value} (h : RowO f i w B t v n xs) (hb : b ≤ B) : RowO f i w b t v n xs := ⟨own_base h.1 hb, h.2⟩
theorem OwnA.base {f : Nat → Nat} {w : World} {B b : Nat} {A : Option Addr} {n c : Nat} {rs : List RowV} {A2 : Option Addr} {n2 c2 : Nat} {es : List Bool} (h : OwnA f w B A n c rs A2 n2 c2 es) (hb : b ≤ B) : OwnA f w b A n c rs A2 n2 c2 es :=
  ⟨h.1.base hb, fun j r hj => ⟨(h.2.1 j r hj).1.base hb, (h.2.1 j r hj).2⟩, h.2.2.base hb⟩
/-- A role of small blocks is free. -/
theorem OwnA.low {f : Nat → Nat} {w : World} {B : Nat} {A : Option Addr} {n c : Nat} {rs : List RowV} {A2 : Option Addr} {n2 c2 : Nat} {es : List Bool} (h : OwnA f w B A n c rs A2 n2 c2 es) : OwnA (fun x => if x < B then 0 else f x) w B A n c rs A2 n2 c2 es := by
  have key : ∀ {i t v n xs}, RowO f i w B t v n xs → RowO (fun x => if x < B then 0 else f x) i w B t v n xs := fun {i t v n xs} hr =>
    ⟨hr.1, fun b e => by
      have h1 := (hr.1.lt b e).1
      have h2 := hr.2 b e
      show (if b < B then 0 else f b) = i
      rw [if_neg (by omega)]; exact h2⟩
  exact ⟨key h.1, fun j r hj => ⟨key (h.2.1 j r hj).1, (h.2.1 j r hj).2⟩, key h.2.2⟩
theorem OwnA.nil (f : Nat → Nat) (w : World) (base : Nat) : OwnA f w base none 0 0 [] none 0 0 [] :=
  ⟨RowO.nil _ _ _ _ _, fun j r hj => by simp at hj, RowO.nil _ _ _ _ _⟩
/-- It reads as an automaton. -/
theorem OwnA.dfa {f : Nat → Nat} {w : World} {base : Nat} {A : Option Addr} {n c : Nat} {rs : List RowV} {A2 : Option Addr} {n2 c2 : Nat} {es : List Bool} (h : OwnA f w base A n c rs A2 n2 c2 es) : DfaS w A n A2 n2 rs es := by
  obtain ⟨h1, h2, h3⟩ := h
  obtain ⟨A', c', e1, -, -, hv, -⟩ := own_vs h1.1
  injection e1 with q1 _ _
  subst q1
  obtain ⟨A'', c'', e2, -, -, hv2, -⟩ := own_vs h3.1
  injection e2 with q2 _ _
  subst q2
  refine ⟨⟨hv, fun r hr => ?_⟩, hv2⟩
  obtain ⟨j, hj, he⟩ := List.mem_iff_getElem.1 hr
  obtain ⟨g1, g2⟩ := h2 j r (by rw [List.getElem?_eq_getElem hj, he])
  obtain ⟨A3, c3, e3, hc3, hm3, hv3, -⟩ := own_vs g1.1
  injection e3 with q1 q2 q3
  rw [q1, q3]
  exact ⟨hv3, hc3, hm3⟩
set_option maxHeartbeats 4000000 in
theorem implTrim_any (w : World) (A : Option Addr) (n c : Nat) (A2 : Option Addr) (c2 : Nat) (rs : List RowV) (bs : List Bool) (h : DfaS w A n A2 n rs bs) (hv : RowsB (nums rs)) (h0 : 0 < n) (h40 : n ≤ 40) :
    Calls Try.prog 80 #[dfaV A n c A2 n c2] w fun r w' => Below w.heap.size w w' ∧ ∃ (f : Nat → Nat) (A' : Option Addr) (n' c' : Nat) (A2' : Option Addr) (c2' : Nat) (rs' : List RowV), r = .returned (dfaV A' n' c' A2' n' c2') ∧ n' ≤ 40 ∧ nums rs' = trimR (nums rs) ∧ OwnA f w' w.heap.size A' n' c' rs' A2' n' c2' (trimE (nums rs) bs) := by
  have hb0 : Below w.heap.size w ((w.alloc (.cells #[.slice A n c, .slice A2 n c2] 50)).alloc (.cells #[.slice none 0 0, .slice none 0 0] 50)) := ((Below.refl _ _).alloc (Nat.le_refl _) _).alloc (by simp) _
  obtain ⟨W, hW⟩ : ∃ W, ((w.alloc (.cells #[.slice A n c, .slice A2 n c2] 50)).alloc (.cells #[.slice none 0 0, .slice none 0 0] 50)) = W := ⟨_, rfl⟩
  have b0 : W.heap[w.heap.size]? = some (.cells #[.slice A n c, .slice A2 n c2] 50) := by
    rw [← hW, Below.heap_alloc _ _ _ (by simp)]; exact heap_alloc_new _ _
  have b1 : W.heap[w.heap.size + 1]? = some (.cells #[.slice none 0 0, .slice none 0 0] 50) := by
    rw [← hW]
    have := heap_alloc_new (w.alloc (.cells #[.slice A n c, .slice A2 n c2] 50)) (.cells #[.slice none 0 0, .slice none 0 0] 50)
    rwa [World.size_alloc] at this
  have hs0 : W.heap.size = w.heap.size + 1 + 1 := by rw [← hW]; simp
  rw [hW] at hb0
  have hE := explored_any W w.heap.size A n c A2 c2 rs bs b0 (h.up hb0) hv h0 h40
  have HB0 := Lib.hid hb0
  have B1 := Lib.hid b1
  have HS0 := Lib.hid hs0
  have HW := Lib.hid hW
  clear h hb0 b0 b1 hs0 hW
  go_enter Try.func80, Try.ntmps80
  go_wp2_with fail
  rw [HW.out]
  refine hE.mono ?_
  rintro r w1 ⟨hb1, f, A', n', c', A2', c2', rs', met, rfl, hn', hnums, hown⟩
  have hbb1 := HB0.out.trans (hb1.mono HB0.out.size)
  have e1 : w1.heap[w.heap.size + 1]? = some (.cells #[.slice none 0 0, .slice none 0 0] 50) := (hb1.block _ (by have := HS0.out; omega)).trans B1.out
  have hlt1 := blk_lt e1
  have e1A : (w1.alloc (.cells #[.slice A' n' c', .slice A2' n' c2'] 50)).heap[w.heap.size + 1]? = some (.cells #[.slice none 0 0, .slice none 0 0] 50) := (Below.heap_alloc _ _ _ hlt1).trans e1
  have x10 : (w1.alloc (.cells #[.slice A' n' c', .slice A2' n' c2'] 50)).cell? ⟨w.heap.size + 1, 0, none⟩ = some (.slice none 0 0) := by rw [cell_of_row _ _ 0 _ _ _ e1A]; rfl
  have y10 : (w1.alloc (.cells #[.slice A' n' c', .slice A2' n' c2'] 50)).frozen? ⟨w.heap.size + 1, 0, none⟩ = false := frozen_of_row _ _ _ _ _ e1A
  have e1B : ((w1.setCell ⟨w.heap.size + 1, 0, none⟩ (.slice A' n' c')).alloc (.cells #[.slice A' n' c', .slice A2' n' c2'] 50)).heap[w.heap.size + 1]? = some (.cells #[(.slice A' n' c'), .slice none 0 0] 50) := (Below.heap_alloc _ _ _ (by rw [size_set]; exact hlt1)).trans (heap_set e1 _ _)
  have x11 : ((w1.setCell ⟨w.heap.size + 1, 0, none⟩ (.slice A' n' c')).alloc (.cells #[.slice A' n' c', .slice A2' n' c2'] 50)).cell? ⟨w.heap.size + 1, 1, none⟩ = some (.slice none 0 0) := by rw [cell_of_row _ _ 1 _ _ _ e1B]; rfl
  have y11 : ((w1.setCell ⟨w.heap.size + 1, 0, none⟩ (.slice A' n' c')).alloc (.cells #[.slice A' n' c', .slice A2' n' c2'] 50)).frozen? ⟨w.heap.size + 1, 1, none⟩ = false := frozen_of_row _ _ _ _ _ e1B
  have HOW := hide hown
  have E1 := Lib.hid e1
  have HBB1 := Lib.hid hbb1
  clear hown e1 e1A e1B hE
  go_wp2
  have hF : (((w1.setCell ⟨w.heap.size + 1, 0, none⟩ (.slice A' n' c')).setCell ⟨w.heap.size + 1, 1, none⟩ (.slice A2' n' c2')).alloc (.cells #[.slice A' n' c', .slice A2' n' c2'] 50)).heap[w.heap.size + 1]? = some (.cells #[(.slice A' n' c'), (.slice A2' n' c2')] 50 (0, 0)) := (Below.heap_alloc _ _ _ (by rw [size_set, size_set]; exact hlt1)).trans (heap_set (heap_set E1.out _ _) _ _)
  have hg1 := gr_set w1 ⟨w.heap.size + 1, 0, none⟩ (.slice A' n' c')
  have hg2 := gr_set (w1.setCell ⟨w.heap.size + 1, 0, none⟩ (.slice A' n' c')) ⟨w.heap.size + 1, 1, none⟩ (.slice A2' n' c2')
  have hg3 := World.grownBy_alloc ((w1.setCell ⟨w.heap.size + 1, 0, none⟩ (.slice A' n' c')).setCell ⟨w.heap.size + 1, 1, none⟩ (.slice A2' n' c2')) (.cells #[.slice A' n' c', .slice A2' n' c2'] 50) none
  refine bodyPost_ret (results_cell_row rfl _ _ (w.heap.size + 1) 50 #[(.slice A' n' c'), (.slice A2' n' c2')] (0, 0) _ rfl hF Try.underlying50 rfl (by kernel_rfl)) rfl ?_
  have hz := HB0.out.size
  have hlow := (unhide HOW).low
  have hr0 : ∀ b, (some (w.heap.size + 1) : Option Nat) = some b → (if b < W.heap.size then 0 else f b) < 5 := fun b e => by
    injection e with e
    rw [if_pos (by have := HS0.out; omega)]; omega
  have hbS : Below w.heap.size w ((w1.setCell ⟨w.heap.size + 1, 0, none⟩ (.slice A' n' c')).setCell ⟨w.heap.size + 1, 1, none⟩ (.slice A2' n' c2')) := (HBB1.out.setCell (by show w.heap.size ≤ w.heap.size + 1; omega) _).setCell (by show w.heap.size ≤ w.heap.size + 1; omega) _
  refine ⟨hbS.alloc hbS.size _, (fun x => if x < W.heap.size then 0 else f x), A', n', c', A2', c2', rs', rfl, hn', hnums, ?_⟩
  exact (((hlow.keep hg1 hr0 (fun _ _ => rfl)).keep hg2 hr0 (fun _ _ => rfl)).keep hg3 none_r (fun _ _ => rfl)).base hz
set_option maxHeartbeats 4000000 in
theorem implDfaTrim_any (w : World) (A : Option Addr) (n c : Nat) (A2 : Option Addr) (m c2 : Nat) (rs : List RowV) (bs : List Bool) (h : DfaS w A n A2 m rs bs) (hn : n ≤ 1048576) (hm : m ≤ 1048576) (hr : ∀ r ∈ rs, r.2.1 ≤ 1048576) :
    Calls Try.prog 46 #[dfaV A n c A2 m c2] w (ImplTr w (nums rs) m bs) := by
  have hb0 : Below w.heap.size w ((w.alloc (.cells #[.slice A n c, .slice A2 m c2] 50)).alloc (.cells #[.slice none 0 0, .slice none 0 0] 50)) := ((Below.refl _ _).alloc (Nat.le_refl _) _).alloc (by simp) _
  obtain ⟨W, hW⟩ : ∃ W, ((w.alloc (.cells #[.slice A n c, .slice A2 m c2] 50)).alloc (.cells #[.slice none 0 0, .slice none 0 0] 50)) = W := ⟨_, rfl⟩
  have b0 : W.heap[w.heap.size]? = some (.cells #[.slice A n c, .slice A2 m c2] 50) := by
    rw [← hW, Below.heap_alloc _ _ _ (by simp)]; exact heap_alloc_new _ _
  have b1 : W.heap[w.heap.size + 1]? = some (.cells #[.slice none 0 0, .slice none 0 0] 50) := by
    rw [← hW]
    have := heap_alloc_new (w.alloc (.cells #[.slice A n c, .slice A2 m c2] 50)) (.cells #[.slice none 0 0, .slice none 0 0] 50)
    rwa [World.size_alloc] at this
  have hs0 : W.heap.size = w.heap.size + 1 + 1 := by rw [← hW]; simp
  rw [hW] at hb0
  have HH := hide (h.up hb0)
  have HLEN := Lib.hid (show (nums rs).length = n by rw [nums_len, h.1.len])
  have hV := implDfaValid_any W A n c A2 m c2 rs (unhide HH).1 hn hm hr
  have HB0 := Lib.hid hb0
  have B0 := Lib.hid b0
  have B1 := Lib.hid b1
  have HS0 := Lib.hid hs0
  have HW := Lib.hid hW
  clear h hb0 b0 b1 hs0 hW
  go_enter Try.func46, Try.ntmps46
  go_wp2_with fail
  rw [HW.out]
  refine hV.mono ?_
  rintro r w1 ⟨rfl, hb1⟩
  have hbb1 := HB0.out.trans (hb1.mono HB0.out.size)
  have e1 : w1.heap[w.heap.size + 1]? = some (.cells #[.slice none 0 0, .slice none 0 0] 50) := (hb1.block _ (by have := HS0.out; omega)).trans B1.out
  have E1 := Lib.hid e1
  have HBB1 := Lib.hid hbb1
  rcases hd : dfaB (nums rs) m
  · have HD := Lib.hid hd
    have x10 : w1.cell? ⟨w.heap.size + 1, 0, none⟩ = some (.slice none 0 0) := by rw [cell_of_row w1 _ 0 _ _ _ e1]; rfl
    have x11 : w1.cell? ⟨w.heap.size + 1, 1, none⟩ = some (.slice none 0 0) := by rw [cell_of_row w1 _ 1 _ _ _ e1]; rfl
    have y10 : w1.frozen? ⟨w.heap.size + 1, 0, none⟩ = false := frozen_of_row _ _ _ _ _ e1
    have y11 : w1.frozen? ⟨w.heap.size + 1, 1, none⟩ = false := frozen_of_row _ _ _ _ _ e1
    clear hd e1 hV
    go_wp2
    have hF : ((w1.setCell ⟨w.heap.size + 1, 0, none⟩ (.slice none 0 0)).setCell ⟨w.heap.size + 1, 1, none⟩ (.slice none 0 0)).heap[w.heap.size + 1]? = some (.cells #[.slice none 0 0, .slice none 0 0] 50 (0, 0)) := heap_set (heap_set E1.out _ _) _ _
    refine bodyPost_ret (results_cell_row rfl _ _ (w.heap.size + 1) 50 #[.slice none 0 0, .slice none 0 0] (0, 0) _ rfl hF Try.underlying50 rfl (by kernel_rfl)) rfl ?_
    refine ⟨(hbb1.setCell (by show w.heap.size ≤ w.heap.size + 1; omega) _).setCell (by show w.heap.size ≤ w.heap.size + 1; omega) _, fun _ => 0, none, 0, 0, none, 0, [], rfl, by omega, by rw [outR, HD.out]; rfl, ?_⟩
    rw [outE, HD.out]; exact OwnA.nil _ _ _
  · obtain ⟨hv, h0, h40, hmn⟩ := dfa_good hd
    have HD := Lib.hid hd
    rw [HLEN.out] at h0 h40 hmn
    subst hmn
    have c0 : w1.cell? ⟨w.heap.size, 0, none⟩ = some (.slice A m c) ∧ w1.cell? ⟨w.heap.size, 1, none⟩ = some (.slice A2 m c2) := by
      have d := (hb1.block w.heap.size (by have := HS0.out; omega)).trans B0.out
      exact ⟨by rw [cell_of_row w1 _ 0 _ _ _ d]; rfl, by rw [cell_of_row w1 _ 1 _ _ _ d]; rfl⟩
    obtain ⟨c00, c01⟩ := c0
    have hE := implTrim_any w1 A m c A2 c2 rs bs ((unhide HH).up hb1) hv h0 h40
    clear hd e1 hV hv
    go_wp2_with fail
    refine hE.mono ?_
    rintro r w2 ⟨hb2, f, A', n', c', A2', c2', rs', rfl, hn', hnums, hown⟩
    have hbb2 := HBB1.out.trans (hb2.mono HBB1.out.size)
    have hl1 := blk_lt E1.out
    have e2 : w2.heap[w.heap.size + 1]? = some (.cells #[.slice none 0 0, .slice none 0 0] 50) := (hb2.block _ hl1).trans E1.out
    have x10 : w2.cell? ⟨w.heap.size + 1, 0, none⟩ = some (.slice none 0 0) := by rw [cell_of_row w2 _ 0 _ _ _ e2]; rfl
    have x11 : w2.cell? ⟨w.heap.size + 1, 1, none⟩ = some (.slice none 0 0) := by rw [cell_of_row w2 _ 1 _ _ _ e2]; rfl
    have y10 : w2.frozen? ⟨w.heap.size + 1, 0, none⟩ = false := frozen_of_row _ _ _ _ _ e2
    have y11 : w2.frozen? ⟨w.heap.size + 1, 1, none⟩ = false := frozen_of_row _ _ _ _ _ e2
    have HOW := hide hown
    have E2 := Lib.hid e2
    clear hown e2 hE
    go_wp2
    have hF : ((w2.setCell ⟨w.heap.size + 1, 0, none⟩ (.slice A' n' c')).setCell ⟨w.heap.size + 1, 1, none⟩ (.slice A2' n' c2')).heap[w.heap.size + 1]? = some (.cells #[.slice A' n' c', .slice A2' n' c2'] 50 (0, 0)) := heap_set (heap_set E2.out _ _) _ _
    have hg1 := gr_set w2 ⟨w.heap.size + 1, 0, none⟩ (.slice A' n' c')
    have hg2 := gr_set (w2.setCell ⟨w.heap.size + 1, 0, none⟩ (.slice A' n' c')) ⟨w.heap.size + 1, 1, none⟩ (.slice A2' n' c2')
    refine bodyPost_ret (results_cell_row rfl _ _ (w.heap.size + 1) 50 #[.slice A' n' c', .slice A2' n' c2'] (0, 0) _ rfl hF Try.underlying50 rfl (by kernel_rfl)) rfl ?_
    have hlow := (unhide HOW).low
    have hr0 : ∀ b, (some (w.heap.size + 1) : Option Nat) = some b → (if b < w1.heap.size then 0 else f b) < 5 := fun b e => by
      injection e with e
      rw [if_pos (by omega)]; omega
    refine ⟨(hbb2.setCell (by show w.heap.size ≤ w.heap.size + 1; omega) _).setCell (by show w.heap.size ≤ w.heap.size + 1; omega) _, (fun x => if x < w1.heap.size then 0 else f x), A', n', c', A2', c2', rs', rfl, hn', by rw [outR, HD.out, if_pos rfl]; exact hnums, ?_⟩
    rw [outE, HD.out, if_pos rfl]
    exact ((hlow.keep hg1 hr0 (fun _ _ => rfl)).keep hg2 hr0 (fun _ _ => rfl)).base HBB1.out.size
end Go.Proofs.Ytcphbncgkemdoaa
