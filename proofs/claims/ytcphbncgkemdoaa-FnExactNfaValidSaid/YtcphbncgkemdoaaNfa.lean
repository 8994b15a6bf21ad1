/-
  Automata with moves: the laws' own functions on them.
-/
import Derived.Test.YtcphbncgkemdoaaMoves2
namespace Go.Proofs.Ytcphbncgkemdoaa
open Go.RowKit
set_option linter.unusedVariables false
set_option maxRecDepth 100000

/-- An automaton with moves in memory. -/
def NfaS (w : World) (A : Option Addr) (n : Nat) (A2 : Option Addr) (m : Nat) (A3 : Option Addr) (k : Nat) (e : List Mv) (fs es : List Int) : Prop :=
  MS w w.heap.size A n e ∧ VS w w.heap.size A2 m (fs.map (Value.int .i64)) ∧ VS w w.heap.size A3 k (es.map (Value.int .i64))
theorem NfaS.up {w w' : World} {A A2 A3 : Option Addr} {n m k : Nat} {e : List Mv} {fs es : List Int} (h : NfaS w A n A2 m A3 k e fs es) (hb : Below w.heap.size w w') : NfaS w' A n A2 m A3 k e fs es := ⟨h.1.up hb, h.2.1.up hb, h.2.2.up hb⟩
abbrev nfaV (s : Int) (A : Option Addr) (n c : Nat) (A2 : Option Addr) (m c2 : Nat) (A3 : Option Addr) (k c3 : Nat) : Value := .agg #[.int .i64 s, .slice A n c, .slice A2 m c2, .slice A3 k c3]
/-- The block in which an automaton that is handed over lies. -/
abbrev nbox (s : Int) (A : Option Addr) (n c : Nat) (A2 : Option Addr) (m c2 : Nat) (A3 : Option Addr) (k c3 : Nat) : Obj := .cells #[.int .i64 s, .slice A n c, .slice A2 m c2, .slice A3 k c3] 62
abbrev lnbox (s : Int) (A : Option Addr) (n c : Nat) (A2 : Option Addr) (m c2 : Nat) (A3 : Option Addr) (k c3 : Nat) : Obj := .cells #[.int .i64 s, .slice A n c, .slice A2 m c2, .slice A3 k c3] 57
/-- What a copy of an automaton leaves. -/
def CopyNfa (w : World) (s : Int) (n m k : Nat) (e : List Mv) (fs es : List Int) (r : Ending) (w' : World) : Prop :=
  ∃ (g g2 g3 : Nat), r = .returned (nfaV s (some ⟨g, 0, none⟩) n n (some ⟨g2, 0, none⟩) m m (some ⟨g3, 0, none⟩) k k) ∧ NfaS w' (some ⟨g, 0, none⟩) n (some ⟨g2, 0, none⟩) m (some ⟨g3, 0, none⟩) k e fs es ∧ Below w.heap.size w w'
set_option maxHeartbeats 4000000 in
theorem toNfa_any (w : World) (s : Int) (A : Option Addr) (n c : Nat) (A2 : Option Addr) (m c2 : Nat) (A3 : Option Addr) (k c3 : Nat) (e : List Mv) (fs es : List Int) (h : NfaS w A n A2 m A3 k e fs es) (hn : n ≤ 1048576) (hm : m ≤ 1048576) (hk : k ≤ 1048576) :
    Calls Try.prog 42 #[nfaV s A n c A2 m c2 A3 k c3] w (CopyNfa w s n m k e fs es) := by
  have HH := hide h
  clear h
  have hbW : Below w.heap.size w (((w.alloc (lnbox s A n c A2 m c2 A3 k c3)).alloc (nbox 0 none 0 0 none 0 0 none 0 0)).alloc (nbox s none 0 0 none 0 0 none 0 0)) := (((Below.refl _ _).alloc (Nat.le_refl _) _).alloc (by simp) _).alloc (by simp; omega) _
  obtain ⟨W, hW⟩ : ∃ W, (((w.alloc (lnbox s A n c A2 m c2 A3 k c3)).alloc (nbox 0 none 0 0 none 0 0 none 0 0)).alloc (nbox s none 0 0 none 0 0 none 0 0)) = W := ⟨_, rfl⟩
  have hWs : W.heap.size = w.heap.size + 1 + 1 + 1 := by rw [← hW]; simp
  have b0 : W.heap[w.heap.size]? = some (lnbox s A n c A2 m c2 A3 k c3) := by
    rw [← hW, Below.heap_alloc _ _ _ (by simp; omega), Below.heap_alloc _ _ _ (by simp)]; exact heap_alloc_new _ _
  have b1 : W.heap[w.heap.size + 1]? = some (nbox 0 none 0 0 none 0 0 none 0 0) := by
    rw [← hW, Below.heap_alloc _ _ _ (by simp)]
    have := heap_alloc_new (w.alloc (lnbox s A n c A2 m c2 A3 k c3)) (nbox 0 none 0 0 none 0 0 none 0 0)
    rwa [World.size_alloc] at this
  have b2 : W.heap[w.heap.size + 1 + 1]? = some (nbox s none 0 0 none 0 0 none 0 0) := by
    rw [← hW]
    have := heap_alloc_new ((w.alloc (lnbox s A n c A2 m c2 A3 k c3)).alloc (nbox 0 none 0 0 none 0 0 none 0 0)) (nbox s none 0 0 none 0 0 none 0 0)
    rwa [World.size_alloc, World.size_alloc] at this
  rw [hW] at hbW
  have HW := Lib.hid hW
  have HWS := Lib.hid hWs
  have B0 := Lib.hid b0
  have B1 := Lib.hid b1
  have B2 := Lib.hid b2
  clear hW hWs b0 b1 b2
  go_enter Try.func42, Try.ntmps42
  go_wp2_with fail
  rw [HW.out]
  refine (toMoveS_any W A n c e ((unhide HH).1.up hbW) hn).mono ?_
  rintro r w1 ⟨rfl, hM, hb1⟩
  have hbw1 := hbW.trans (hb1.mono hbW.size)
  have z1 : w.heap.size + 1 + 1 + 1 ≤ w1.heap.size := by have := hb1.size; have := HWS.out; omega
  have d0 := (hb1.block w.heap.size (by rw [HWS.out]; omega)).trans B0.out
  have d1 := (hb1.block (w.heap.size + 1) (by rw [HWS.out]; omega)).trans B1.out
  have d2 := (hb1.block (w.heap.size + 1 + 1) (by rw [HWS.out]; omega)).trans B2.out
  have c1 : w1.cell? ⟨w.heap.size, 2, none⟩ = some (.slice A2 m c2) := by rw [cell_of_row w1 _ 2 _ _ _ d0]; rfl
  have c2' : w1.cell? ⟨w.heap.size + 1 + 1, 1, none⟩ = some (.slice none 0 0) := by rw [cell_of_row w1 _ 1 _ _ _ d2]; rfl
  have f2 : w1.frozen? ⟨w.heap.size + 1 + 1, 1, none⟩ = false := by simp [World.frozen?, d2]
  obtain ⟨W1, hW1⟩ : ∃ W1, w1.setCell ⟨w.heap.size + 1 + 1, 1, none⟩ (.slice (some ⟨W.heap.size, 0, none⟩) n n) = W1 := ⟨_, rfl⟩
  have hbW1 : Below w.heap.size w W1 := by rw [← hW1]; exact hbw1.setCell (show w.heap.size ≤ w.heap.size + 1 + 1 by omega) _
  have s1 : W1.heap.size = w1.heap.size := by rw [← hW1, size_set]
  have e0 : W1.heap[w.heap.size]? = some (lnbox s A n c A2 m c2 A3 k c3) := by rw [← hW1]; exact (Below.heap_setCell _ _ _ _ (by show w.heap.size ≠ w.heap.size + 1 + 1; omega)).trans d0
  have e1 : W1.heap[w.heap.size + 1]? = some (nbox 0 none 0 0 none 0 0 none 0 0) := by rw [← hW1]; exact (Below.heap_setCell _ _ _ _ (by show w.heap.size + 1 ≠ w.heap.size + 1 + 1; omega)).trans d1
  have e2 : W1.heap[w.heap.size + 1 + 1]? = some (nbox s (some ⟨W.heap.size, 0, none⟩) n n none 0 0 none 0 0) := by rw [← hW1]; exact heap_set d2 _ _
  have HM1 : Hid (MS W1 W1.heap.size (some ⟨W.heap.size, 0, none⟩) n e) := by
    refine hM.high (base := W.heap.size) (by rw [s1]; exact Nat.le_refl _) (fun b o e => by injection e with e; injection e with e1; omega) (fun b o h1 h2 => by rw [← hW1]; exact World.cell?_setCell_other w1 _ ⟨b, o, none⟩ _ (by intro e; have := HWS.out; injection e with e1; omega))
  have HW1 := Lib.hid hW1
  have E0 := Lib.hid e0
  have E1 := Lib.hid e1
  have E2 := Lib.hid e2
  have S1 := Lib.hid s1
  clear hM hW1 e0 e1 e2 d0 d1 d2 s1
  go_wp2_with fail
  rw [HW1.out]
  refine (toIntS_any W1 A2 m c2 fs ((unhide HH).2.1.up hbW1) hm).mono ?_
  rintro r w2 ⟨rfl, -, hF, hb2⟩
  have s1 := S1.out
  have hbw2 := hbW1.trans (hb2.mono hbW1.size)
  have z2 : w1.heap.size ≤ w2.heap.size := by have := hb2.size; omega
  have d0 := (hb2.block w.heap.size (by omega)).trans E0.out
  have d1 := (hb2.block (w.heap.size + 1) (by omega)).trans E1.out
  have d2 := (hb2.block (w.heap.size + 1 + 1) (by omega)).trans E2.out
  have c3' : w2.cell? ⟨w.heap.size, 3, none⟩ = some (.slice A3 k c3) := by rw [cell_of_row w2 _ 3 _ _ _ d0]; rfl
  have c4' : w2.cell? ⟨w.heap.size + 1 + 1, 2, none⟩ = some (.slice none 0 0) := by rw [cell_of_row w2 _ 2 _ _ _ d2]; rfl
  have f4 : w2.frozen? ⟨w.heap.size + 1 + 1, 2, none⟩ = false := by simp [World.frozen?, d2]
  obtain ⟨W2, hW2⟩ : ∃ W2, w2.setCell ⟨w.heap.size + 1 + 1, 2, none⟩ (.slice (some ⟨W1.heap.size, 0, none⟩) m m) = W2 := ⟨_, rfl⟩
  have hbW2 : Below w.heap.size w W2 := by rw [← hW2]; exact hbw2.setCell (show w.heap.size ≤ w.heap.size + 1 + 1 by omega) _
  have s2 : W2.heap.size = w2.heap.size := by rw [← hW2, size_set]
  have e1 : W2.heap[w.heap.size + 1]? = some (nbox 0 none 0 0 none 0 0 none 0 0) := by rw [← hW2]; exact (Below.heap_setCell _ _ _ _ (by show w.heap.size + 1 ≠ w.heap.size + 1 + 1; omega)).trans d1
  have e2 : W2.heap[w.heap.size + 1 + 1]? = some (nbox s (some ⟨W.heap.size, 0, none⟩) n n (some ⟨W1.heap.size, 0, none⟩) m m none 0 0) := by rw [← hW2]; exact heap_set d2 _ _
  have far2 : ∀ b o, W.heap.size ≤ b → W2.cell? ⟨b, o, none⟩ = w2.cell? ⟨b, o, none⟩ := fun b o h1 => by rw [← hW2]; exact World.cell?_setCell_other w2 _ ⟨b, o, none⟩ _ (by intro e; have := HWS.out; injection e with e1; omega)
  have HM2 : Hid (MS W2 W2.heap.size (some ⟨W.heap.size, 0, none⟩) n e) := by
    refine ((unhide HM1).up hb2).high (base := W.heap.size) (by rw [s2]; exact Nat.le_refl _) (fun b o e => by injection e with e; injection e with e1; omega) (fun b o h1 h2 => far2 b o h1)
  have HF2 : Hid (VS W2 W2.heap.size (some ⟨W1.heap.size, 0, none⟩) m (fs.map (Value.int .i64))) := by
    refine hF.high (base := W.heap.size) (by rw [s2]; exact Nat.le_refl _) (fun b o e => by have := HWS.out; injection e with e; injection e with e1; omega) (fun b o h1 h2 => far2 b o h1)
  have HW2 := Lib.hid hW2
  have F1 := Lib.hid e1
  have F2 := Lib.hid e2
  have S2 := Lib.hid s2
  clear hF hW2 e1 e2 d0 d1 d2 far2 HM1 s1 s2
  go_wp2_with fail
  rw [HW2.out]
  refine (toIntS_any W2 A3 k c3 es ((unhide HH).2.2.up hbW2) hk).mono ?_
  rintro r w3 ⟨rfl, -, hG, hb3⟩
  have s1 := S1.out
  have s2 := S2.out
  have hbw3 := hbW2.trans (hb3.mono hbW2.size)
  have z3 : w2.heap.size ≤ w3.heap.size := by have := hb3.size; omega
  have d1 := (hb3.block (w.heap.size + 1) (by omega)).trans F1.out
  have d2 := (hb3.block (w.heap.size + 1 + 1) (by omega)).trans F2.out
  have x0 : w3.cell? ⟨w.heap.size + 1 + 1, 0, none⟩ = some (.int .i64 s) := by rw [cell_of_row w3 _ 0 _ _ _ d2]; rfl
  have x1 : w3.cell? ⟨w.heap.size + 1 + 1, 1, none⟩ = some (.slice (some ⟨W.heap.size, 0, none⟩) n n) := by rw [cell_of_row w3 _ 1 _ _ _ d2]; rfl
  have x2 : w3.cell? ⟨w.heap.size + 1 + 1, 2, none⟩ = some (.slice (some ⟨W1.heap.size, 0, none⟩) m m) := by rw [cell_of_row w3 _ 2 _ _ _ d2]; rfl
  have x3 : w3.cell? ⟨w.heap.size + 1 + 1, 3, none⟩ = some (.slice none 0 0) := by rw [cell_of_row w3 _ 3 _ _ _ d2]; rfl
  have y3 : w3.frozen? ⟨w.heap.size + 1 + 1, 3, none⟩ = false := by simp [World.frozen?, d2]
  have u0 : w3.cell? ⟨w.heap.size + 1, 0, none⟩ = some (.int .i64 0) := by rw [cell_of_row w3 _ 0 _ _ _ d1]; rfl
  have u1 : w3.cell? ⟨w.heap.size + 1, 1, none⟩ = some (.slice none 0 0) := by rw [cell_of_row w3 _ 1 _ _ _ d1]; rfl
  have u2 : w3.cell? ⟨w.heap.size + 1, 2, none⟩ = some (.slice none 0 0) := by rw [cell_of_row w3 _ 2 _ _ _ d1]; rfl
  have u3 : w3.cell? ⟨w.heap.size + 1, 3, none⟩ = some (.slice none 0 0) := by rw [cell_of_row w3 _ 3 _ _ _ d1]; rfl
  have v0 : w3.frozen? ⟨w.heap.size + 1, 0, none⟩ = false := by simp [World.frozen?, d1]
  have v1 : w3.frozen? ⟨w.heap.size + 1, 1, none⟩ = false := by simp [World.frozen?, d1]
  have v2 : w3.frozen? ⟨w.heap.size + 1, 2, none⟩ = false := by simp [World.frozen?, d1]
  have v3 : w3.frozen? ⟨w.heap.size + 1, 3, none⟩ = false := by simp [World.frozen?, d1]
  have HD1 := Lib.hid d1
  have HM3 := hide ((unhide HM2).up hb3)
  have HF3 := hide ((unhide HF2).up hb3)
  have HG := hide hG
  clear hG d1 d2 HM2 HF2 s1 s2
  go_wp2
  have s1 := S1.out
  have s2 := S2.out
  have hF : (((((w3.setCell ⟨w.heap.size + 1 + 1, 3, none⟩ (.slice (some ⟨W2.heap.size, 0, none⟩) k k)).setCell ⟨w.heap.size + 1, 0, none⟩ (.int .i64 s)).setCell ⟨w.heap.size + 1, 1, none⟩ (.slice (some ⟨W.heap.size, 0, none⟩) n n)).setCell ⟨w.heap.size + 1, 2, none⟩ (.slice (some ⟨W1.heap.size, 0, none⟩) m m)).setCell ⟨w.heap.size + 1, 3, none⟩ (.slice (some ⟨W2.heap.size, 0, none⟩) k k)).heap[w.heap.size + 1]? = some (.cells #[.int .i64 s, .slice (some ⟨W.heap.size, 0, none⟩) n n, .slice (some ⟨W1.heap.size, 0, none⟩) m m, .slice (some ⟨W2.heap.size, 0, none⟩) k k] 62 (0, 0)) :=
    heap_set (heap_set (heap_set (heap_set ((Below.heap_setCell _ _ _ _ (by show w.heap.size + 1 ≠ w.heap.size + 1 + 1; omega)).trans HD1.out) _ _) _ _) _ _) _ _
  have hfar : ∀ b o, W.heap.size ≤ b → (((((w3.setCell ⟨w.heap.size + 1 + 1, 3, none⟩ (.slice (some ⟨W2.heap.size, 0, none⟩) k k)).setCell ⟨w.heap.size + 1, 0, none⟩ (.int .i64 s)).setCell ⟨w.heap.size + 1, 1, none⟩ (.slice (some ⟨W.heap.size, 0, none⟩) n n)).setCell ⟨w.heap.size + 1, 2, none⟩ (.slice (some ⟨W1.heap.size, 0, none⟩) m m)).setCell ⟨w.heap.size + 1, 3, none⟩ (.slice (some ⟨W2.heap.size, 0, none⟩) k k)).cell? ⟨b, o, none⟩ = w3.cell? ⟨b, o, none⟩ := fun b o hb => by
    have := HWS.out
    rw [World.cell?_setCell_other _ _ _ _ (by intro e; injection e with e1; omega), World.cell?_setCell_other _ _ _ _ (by intro e; injection e with e1; omega), World.cell?_setCell_other _ _ _ _ (by intro e; injection e with e1; omega), World.cell?_setCell_other _ _ _ _ (by intro e; injection e with e1; omega), World.cell?_setCell_other _ _ _ _ (by intro e; injection e with e1; omega)]
  refine bodyPost_ret (results_cell_row rfl _ _ (w.heap.size + 1) 62 #[.int .i64 s, .slice (some ⟨W.heap.size, 0, none⟩) n n, .slice (some ⟨W1.heap.size, 0, none⟩) m m, .slice (some ⟨W2.heap.size, 0, none⟩) k k] (0, 0) _ rfl hF Try.underlying62 rfl (by kernel_rfl)) rfl ?_
  refine ⟨W.heap.size, W1.heap.size, W2.heap.size, rfl, ⟨?_, ?_, ?_⟩, ?_⟩
  · exact (unhide HM3).high (base := W.heap.size) (by rw [size_set, size_set, size_set, size_set, size_set]; exact Nat.le_refl _) (fun b o e => by injection e with e; injection e with e1; omega) (fun b o h1 _ => hfar b o h1)
  · exact (unhide HF3).high (base := W.heap.size) (by rw [size_set, size_set, size_set, size_set, size_set]; exact Nat.le_refl _) (fun b o e => by have := HWS.out; injection e with e; injection e with e1; omega) (fun b o h1 _ => hfar b o h1)
  · exact (unhide HG).high (base := W.heap.size) (by rw [size_set, size_set, size_set, size_set, size_set]; exact Nat.le_refl _) (fun b o e => by have := HWS.out; injection e with e; injection e with e1; omega) (fun b o h1 _ => hfar b o h1)
  · exact ((((hbw3.setCell (by show w.heap.size ≤ w.heap.size + 1 + 1; omega) _).setCell (by show w.heap.size ≤ w.heap.size + 1; omega) _).setCell (by show w.heap.size ≤ w.heap.size + 1; omega) _).setCell (by show w.heap.size ≤ w.heap.size + 1; omega) _).setCell (by show w.heap.size ≤ w.heap.size + 1; omega) _
set_option maxHeartbeats 1000000 in
theorem szNfa_any (w : World) (s : Int) (A : Option Addr) (n c : Nat) (A2 : Option Addr) (m c2 : Nat) (A3 : Option Addr) (k c3 : Nat) (left : Int) (hn : n ≤ 9223372036854775807) (hm : m ≤ 9223372036854775807) (hk : k ≤ 9223372036854775807) (h0 : 0 ≤ left) (h1 : left ≤ 1048576) :
    Calls Try.prog 40 #[nfaV s A n c A2 m c2 A3 k c3, .int .i64 left] w fun r w' => Below w.heap.size w w' ∧ ∃ z : Int, r = .returned (.int .i64 z) ∧ -1 ≤ z ∧ (0 ≤ z → (n : Int) ≤ 1048576 ∧ (m : Int) ≤ 1048576 ∧ (k : Int) ≤ 1048576) := by
  have hb : Below w.heap.size w (w.alloc (lnbox s A n c A2 m c2 A3 k c3)) := (Below.refl _ _).alloc (Nat.le_refl _) _
  have HB := hide hb
  clear hb
  by_cases hln : left < (n : Int)
  · have hS := szMoveS_any (w.alloc (lnbox s A n c A2 m c2 A3 k c3)) A n c left hn h0 h1
    rw [if_pos hln] at hS
    go_enter Try.func40, Try.ntmps40
    go_wp2_with fail
    refine hS.mono ?_
    rintro r w1 ⟨rfl, rfl⟩
    go_wp2
    go_ret
    exact ⟨unhide HB, -1, rfl, by omega, by omega⟩
  · have hS := szMoveS_any (w.alloc (lnbox s A n c A2 m c2 A3 k c3)) A n c left hn h0 h1
    rw [if_neg hln] at hS
    have hln2 : ¬ left - (n : Int) < 0 := by omega
    by_cases hlm : left - (n : Int) < (m : Int)
    · have hT := szIntS_any (w.alloc (lnbox s A n c A2 m c2 A3 k c3)) A2 m c2 (left - (n : Int)) hm (by omega) (by omega)
      rw [if_pos hlm] at hT
      go_enter Try.func40, Try.ntmps40
      go_wp2_with fail
      refine hS.mono ?_
      rintro r w1 ⟨rfl, rfl⟩
      go_wp2_with fail
      refine hT.mono ?_
      rintro r w1 ⟨rfl, rfl⟩
      go_wp2
      go_ret
      exact ⟨unhide HB, -1, rfl, by omega, by omega⟩
    · have hT := szIntS_any (w.alloc (lnbox s A n c A2 m c2 A3 k c3)) A2 m c2 (left - (n : Int)) hm (by omega) (by omega)
      rw [if_neg hlm] at hT
      have hlm2 : ¬ left - (n : Int) - (m : Int) < 0 := by omega
      by_cases hlk : left - (n : Int) - (m : Int) < (k : Int)
      · have hU := szIntS_any (w.alloc (lnbox s A n c A2 m c2 A3 k c3)) A3 k c3 (left - (n : Int) - (m : Int)) hk (by omega) (by omega)
        rw [if_pos hlk] at hU
        go_enter Try.func40, Try.ntmps40
        go_wp2_with fail
        refine hS.mono ?_
        rintro r w1 ⟨rfl, rfl⟩
        go_wp2_with fail
        refine hT.mono ?_
        rintro r w1 ⟨rfl, rfl⟩
        go_wp2_with fail
        refine hU.mono ?_
        rintro r w1 ⟨rfl, rfl⟩
        go_wp2
        go_ret
        exact ⟨unhide HB, -1, rfl, by omega, by omega⟩
      · have hU := szIntS_any (w.alloc (lnbox s A n c A2 m c2 A3 k c3)) A3 k c3 (left - (n : Int) - (m : Int)) hk (by omega) (by omega)
        rw [if_neg hlk] at hU
        have hlk2 : ¬ left - (n : Int) - (m : Int) - (k : Int) < 0 := by omega
        go_enter Try.func40, Try.ntmps40
        go_wp2_with fail
        refine hS.mono ?_
        rintro r w1 ⟨rfl, rfl⟩
        go_wp2_with fail
        refine hT.mono ?_
        rintro r w1 ⟨rfl, rfl⟩
        go_wp2_with fail
        refine hU.mono ?_
        rintro r w1 ⟨rfl, rfl⟩
        go_wp2
        go_ret
        exact ⟨unhide HB, left - (n : Int) - (m : Int) - (k : Int), rfl, by omega, fun _ => ⟨by omega, by omega, by omega⟩⟩
set_option maxHeartbeats 1000000 in
theorem eqNfa_any (w : World) (s : Int) (A B A2 B2 A3 B3 : Option Addr) (n c d m c2 d2 k c3 d3 : Nat) (e : List Mv) (fs es : List Int) (h : NfaS w A n A2 m A3 k e fs es) (h2 : NfaS w B n B2 m B3 k e fs es) (hn : n ≤ 1048576) (hm : m ≤ 1048576) (hk : k ≤ 1048576) :
    Calls Try.prog 44 #[nfaV s A n c A2 m c2 A3 k c3, nfaV s B n d B2 m d2 B3 k d3] w fun r w' => r = .returned (.bool true) ∧ Below w.heap.size w w' := by
  have hb : Below w.heap.size w ((w.alloc (nbox s A n c A2 m c2 A3 k c3)).alloc (nbox s B n d B2 m d2 B3 k d3)) := ((Below.refl _ _).alloc (Nat.le_refl _) _).alloc (by simp) _
  obtain ⟨W, hW⟩ : ∃ W, ((w.alloc (nbox s A n c A2 m c2 A3 k c3)).alloc (nbox s B n d B2 m d2 B3 k d3)) = W := ⟨_, rfl⟩
  have b0 : W.heap[w.heap.size]? = some (nbox s A n c A2 m c2 A3 k c3) := by
    rw [← hW, Below.heap_alloc _ _ _ (by simp)]; exact heap_alloc_new _ _
  have b1 : W.heap[w.heap.size + 1]? = some (nbox s B n d B2 m d2 B3 k d3) := by
    rw [← hW]
    have := heap_alloc_new (w.alloc (nbox s A n c A2 m c2 A3 k c3)) (nbox s B n d B2 m d2 B3 k d3)
    rwa [World.size_alloc] at this
  rw [hW] at hb
  have HA := hide (h.up hb)
  have HB := hide (h2.up hb)
  have hI := eqMoveS_any W A B n c d e (unhide HA).1 (unhide HB).1 hn
  rw [← hW] at hI
  have HW := Lib.hid hW
  have l0 : w.heap.size < W.heap.size := (Array.getElem?_eq_some_iff.1 b0).1
  have l1 : w.heap.size + 1 < W.heap.size := (Array.getElem?_eq_some_iff.1 b1).1
  have HBW := hide hb
  have hss : (s != s) = false := by simp
  have B0 := Lib.hid b0
  have B1 := Lib.hid b1
  clear h h2 hW hb b0 b1
  go_enter Try.func44, Try.ntmps44
  go_wp2_with fail
  refine hI.mono ?_
  rw [HW.out]
  rintro r w1 ⟨rfl, hb1⟩
  have d0 := (hb1.block _ l0).trans B0.out
  have d1 := (hb1.block _ l1).trans B1.out
  have c0 : w1.cell? ⟨w.heap.size, 2, none⟩ = some (.slice A2 m c2) := by rw [cell_of_row w1 _ 2 _ _ _ d0]; rfl
  have c1 : w1.cell? ⟨w.heap.size + 1, 2, none⟩ = some (.slice B2 m d2) := by rw [cell_of_row w1 _ 2 _ _ _ d1]; rfl
  clear d0 d1
  go_wp2_with fail
  refine (eqIntS_any w1 A2 B2 m c2 m d2 fs fs ((unhide HA).2.1.up hb1) ((unhide HB).2.1.up hb1) hm hm).mono ?_
  rintro r w2 ⟨rfl, hb2⟩
  rw [show decide (fs = fs) = true by simp]
  have hbb2 := hb1.trans (hb2.mono hb1.size)
  have d0 := (hbb2.block _ l0).trans B0.out
  have d1 := (hbb2.block _ l1).trans B1.out
  have c0 : w2.cell? ⟨w.heap.size, 3, none⟩ = some (.slice A3 k c3) := by rw [cell_of_row w2 _ 3 _ _ _ d0]; rfl
  have c1 : w2.cell? ⟨w.heap.size + 1, 3, none⟩ = some (.slice B3 k d3) := by rw [cell_of_row w2 _ 3 _ _ _ d1]; rfl
  clear d0 d1
  go_wp2_with fail
  refine (eqIntS_any w2 A3 B3 k c3 k d3 es es ((unhide HA).2.2.up hbb2) ((unhide HB).2.2.up hbb2) hk hk).mono ?_
  rintro r w3 ⟨rfl, hb3⟩
  rw [show decide (es = es) = true by simp]
  go_wp2
  go_ret
  exact ⟨rfl, (unhide HBW).trans ((hbb2.trans (hb3.mono hbb2.size)).mono (unhide HBW).size)⟩
end Go.Proofs.Ytcphbncgkemdoaa
