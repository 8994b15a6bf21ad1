/-
  Valid automata: the walks.
-/
import Derived.Test.YtcphbncgkemdoaaDfa
import Derived.Laws.Rows
namespace Go.Proofs.Ytcphbncgkemdoaa
open Go.RowKit
set_option linter.unusedVariables false
set_option maxRecDepth 100000

/-- An automaton in memory. -/
def DfaS (w : World) (A : Option Addr) (n : Nat) (A2 : Option Addr) (m : Nat) (rs : List RowV) (bs : List Bool) : Prop :=
  RS w w.heap.size A n rs ∧ VS w w.heap.size A2 m (bs.map Value.bool)
theorem DfaS.up {w w' : World} {A A2 : Option Addr} {n m : Nat} {rs : List RowV} {bs : List Bool} (h : DfaS w A n A2 m rs bs) (hb : Below w.heap.size w w') : DfaS w' A n A2 m rs bs := ⟨h.1.up hb, h.2.up hb⟩
abbrev dfaV (A : Option Addr) (n c : Nat) (A2 : Option Addr) (m c2 : Nat) : Value := .agg #[.slice A n c, .slice A2 m c2]
/-- Is an automaton of these rows, with so many marks, valid? -/
def rowB (N : Int) (z : List Int) : Bool := decide (z.length = 3) && z.all fun v => inB v 0 (N - 1)
def dfaB (rows : List (List Int)) (m : Nat) : Bool := rows.all (rowB (rows.length : Int)) && (inB (rows.length : Int) 1 40 && decide ((m : Int) = (rows.length : Int)))
/-- What a copy of an automaton leaves. -/
def CopyDfa (w : World) (n m : Nat) (rs : List RowV) (bs : List Bool) (r : Ending) (w' : World) : Prop :=
  ∃ (rs' : List RowV) (g g2 : Nat), r = .returned (dfaV (some ⟨g, 0, none⟩) n n (some ⟨g2, 0, none⟩) m m) ∧ nums rs' = nums rs ∧ (∀ r ∈ rs', r.2.1 ≤ 1048576) ∧ DfaS w' (some ⟨g, 0, none⟩) n (some ⟨g2, 0, none⟩) m rs' bs ∧ Below w.heap.size w w'
set_option maxHeartbeats 2000000 in
theorem toDfa_any (w : World) (A : Option Addr) (n c : Nat) (A2 : Option Addr) (m c2 : Nat) (rs : List RowV) (bs : List Bool) (h : DfaS w A n A2 m rs bs) (hn : n ≤ 1048576) (hm : m ≤ 1048576) (hr : ∀ r ∈ rs, r.2.1 ≤ 1048576) :
    Calls Try.prog 37 #[dfaV A n c A2 m c2] w (CopyDfa w n m rs bs) := by
  have HH := hide h
  have HR := Lib.hid hr
  clear h hr
  have hbW : Below w.heap.size w (((w.alloc (.cells #[.slice A n c, .slice A2 m c2] 47)).alloc (.cells #[.slice none 0 0, .slice none 0 0] 50)).alloc (.cells #[.slice none 0 0, .slice none 0 0] 50)) := (((Below.refl _ _).alloc (Nat.le_refl _) _).alloc (by simp) _).alloc (by simp; omega) _
  obtain ⟨W, hW⟩ : ∃ W, (((w.alloc (.cells #[.slice A n c, .slice A2 m c2] 47)).alloc (.cells #[.slice none 0 0, .slice none 0 0] 50)).alloc (.cells #[.slice none 0 0, .slice none 0 0] 50)) = W := ⟨_, rfl⟩
  have hWs : W.heap.size = w.heap.size + 1 + 1 + 1 := by rw [← hW]; simp
  have b0 : W.heap[w.heap.size]? = some (.cells #[.slice A n c, .slice A2 m c2] 47) := by
    rw [← hW, Below.heap_alloc _ _ _ (by simp; omega), Below.heap_alloc _ _ _ (by simp)]; exact heap_alloc_new _ _
  have b1 : W.heap[w.heap.size + 1]? = some (.cells #[.slice none 0 0, .slice none 0 0] 50) := by
    rw [← hW, Below.heap_alloc _ _ _ (by simp)]
    have := heap_alloc_new (w.alloc (.cells #[.slice A n c, .slice A2 m c2] 47)) (.cells #[.slice none 0 0, .slice none 0 0] 50)
    rwa [World.size_alloc] at this
  have b2 : W.heap[w.heap.size + 1 + 1]? = some (.cells #[.slice none 0 0, .slice none 0 0] 50) := by
    rw [← hW]
    have := heap_alloc_new ((w.alloc (.cells #[.slice A n c, .slice A2 m c2] 47)).alloc (.cells #[.slice none 0 0, .slice none 0 0] 50)) (.cells #[.slice none 0 0, .slice none 0 0] 50)
    rwa [World.size_alloc, World.size_alloc] at this
  rw [hW] at hbW
  have HW := Lib.hid hW
  have HWS := Lib.hid hWs
  have hI := toIntSS_any W A n c rs ((unhide HH).1.up hbW) hn HR.out
  rw [← hW] at hI
  clear hW hWs
  go_enter Try.func37, Try.ntmps37
  go_wp2_with fail
  refine hI.mono ?_
  rw [HW.out]
  rintro r w1 ⟨rs', rfl, hnm, hmm, hRS, hge, hb1⟩
  have hbw1 := hbW.trans (hb1.mono hbW.size)
  have d0 := (hb1.block w.heap.size (by rw [HWS.out]; omega)).trans b0
  have d1 := (hb1.block (w.heap.size + 1) (by rw [HWS.out]; omega)).trans b1
  have d2 := (hb1.block (w.heap.size + 1 + 1) (by rw [HWS.out]; omega)).trans b2
  have c1 : w1.cell? ⟨w.heap.size, 1, none⟩ = some (.slice A2 m c2) := by rw [cell_of_row w1 _ 1 _ _ _ d0]; rfl
  have c2' : w1.cell? ⟨w.heap.size + 1 + 1, 0, none⟩ = some (.slice none 0 0) := by rw [cell_of_row w1 _ 0 _ _ _ d2]; rfl
  have f2 : w1.frozen? ⟨w.heap.size + 1 + 1, 0, none⟩ = false := by simp [World.frozen?, d2]
  have hbS : Below w.heap.size w (w1.setCell ⟨w.heap.size + 1 + 1, 0, none⟩ (.slice (some ⟨W.heap.size, 0, none⟩) n n)) := hbw1.setCell (show w.heap.size ≤ w.heap.size + 1 + 1 by omega) _
  have hB2 := toBoolS_any (w1.setCell ⟨w.heap.size + 1 + 1, 0, none⟩ (.slice (some ⟨W.heap.size, 0, none⟩) n n)) A2 m c2 bs ((unhide HH).2.up hbS) hm
  have HRS := hide hRS
  have HNM := Lib.hid hnm
  have HMM := Lib.hid hmm
  have HGE := Lib.hid hge
  have D1 := Lib.hid d1
  have D2 := Lib.hid d2
  clear hRS hnm hmm hge d0 d1 d2 b0 b1 b2
  go_wp2_with fail
  refine hB2.mono ?_
  rintro r w2 ⟨rfl, -, hvs, hb2⟩
  rw [size_set] at hvs ⊢
  have hbw2 := hbS.trans (hb2.mono hbS.size)
  have hz1 := hb1.size
  have hz2 := hb2.size
  rw [size_set] at hz2
  have hWS := HWS.out
  have e1 : w2.heap[w.heap.size + 1]? = some (.cells #[.slice none 0 0, .slice none 0 0] 50) := (hb2.block _ (by rw [size_set]; omega)).trans ((Below.heap_setCell _ _ _ _ (by show w.heap.size + 1 ≠ w.heap.size + 1 + 1; omega)).trans D1.out)
  have e2 : w2.heap[w.heap.size + 1 + 1]? = some (.cells #[.slice (some ⟨W.heap.size, 0, none⟩) n n, .slice none 0 0] 50) := (hb2.block _ (by rw [size_set]; omega)).trans (heap_set D2.out _ _)
  have x2 : w2.cell? ⟨w.heap.size + 1 + 1, 1, none⟩ = some (.slice none 0 0) := by rw [cell_of_row w2 _ 1 _ _ _ e2]; rfl
  have x20 : w2.cell? ⟨w.heap.size + 1 + 1, 0, none⟩ = some (.slice (some ⟨W.heap.size, 0, none⟩) n n) := by rw [cell_of_row w2 _ 0 _ _ _ e2]; rfl
  have y2 : w2.frozen? ⟨w.heap.size + 1 + 1, 1, none⟩ = false := by simp [World.frozen?, e2]
  have x10 : w2.cell? ⟨w.heap.size + 1, 0, none⟩ = some (.slice none 0 0) := by rw [cell_of_row w2 _ 0 _ _ _ e1]; rfl
  have x11 : w2.cell? ⟨w.heap.size + 1, 1, none⟩ = some (.slice none 0 0) := by rw [cell_of_row w2 _ 1 _ _ _ e1]; rfl
  have y10 : w2.frozen? ⟨w.heap.size + 1, 0, none⟩ = false := by simp [World.frozen?, e1]
  have y11 : w2.frozen? ⟨w.heap.size + 1, 1, none⟩ = false := by simp [World.frozen?, e1]
  have HE2 := Lib.hid e2
  have HE1 := Lib.hid e1
  have HVS := hide hvs
  have HZ1 := Lib.hid hz1
  have HZ2 := Lib.hid hz2
  have HRS2 : Hid (RS w2 w2.heap.size (some ⟨W.heap.size, 0, none⟩) n rs') := by
    refine RS.up ?_ hb2
    refine (unhide HRS).high (base := W.heap.size) (by rw [size_set]; exact Nat.le_refl _) (fun b o e => by injection e with e; injection e with e1; omega) (fun r hr b o e => Nat.le_of_lt (HGE.out r hr b o e)) (fun b o hb1 hb2 => World.cell?_setCell_other w1 _ ⟨b, o, none⟩ _ (by intro e; injection e with e1; omega))
  clear e1 e2 hvs hz1 hz2 hWS
  go_wp2
  have hF : (((w2.setCell ⟨w.heap.size + 1 + 1, 1, none⟩ (.slice (some ⟨w1.heap.size, 0, none⟩) m m)).setCell ⟨w.heap.size + 1, 0, none⟩ (.slice (some ⟨W.heap.size, 0, none⟩) n n)).setCell ⟨w.heap.size + 1, 1, none⟩ (.slice (some ⟨w1.heap.size, 0, none⟩) m m)).heap[w.heap.size + 1]? = some (.cells #[.slice (some ⟨W.heap.size, 0, none⟩) n n, .slice (some ⟨w1.heap.size, 0, none⟩) m m] 50 (0, 0)) :=
    heap_set (heap_set ((Below.heap_setCell _ _ _ _ (by show w.heap.size + 1 ≠ w.heap.size + 1 + 1; omega)).trans HE1.out) _ _) _ _
  have hfar : ∀ b o, W.heap.size ≤ b → (((w2.setCell ⟨w.heap.size + 1 + 1, 1, none⟩ (.slice (some ⟨w1.heap.size, 0, none⟩) m m)).setCell ⟨w.heap.size + 1, 0, none⟩ (.slice (some ⟨W.heap.size, 0, none⟩) n n)).setCell ⟨w.heap.size + 1, 1, none⟩ (.slice (some ⟨w1.heap.size, 0, none⟩) m m)).cell? ⟨b, o, none⟩ = w2.cell? ⟨b, o, none⟩ := fun b o hb => by
    have := HWS.out
    rw [World.cell?_setCell_other _ _ _ _ (by intro e; injection e with e1; omega), World.cell?_setCell_other _ _ _ _ (by intro e; injection e with e1; omega), World.cell?_setCell_other _ _ _ _ (by intro e; injection e with e1; omega)]
  refine bodyPost_ret (results_cell_row rfl _ _ (w.heap.size + 1) 50 #[.slice (some ⟨W.heap.size, 0, none⟩) n n, .slice (some ⟨w1.heap.size, 0, none⟩) m m] (0, 0) _ rfl hF Try.underlying50 rfl (by kernel_rfl)) rfl ?_
  refine ⟨rs', W.heap.size, w1.heap.size, rfl, HNM.out, HMM.out, ⟨?_, ?_⟩, ?_⟩
  · exact (unhide HRS2).high (base := W.heap.size) (by rw [size_set, size_set, size_set]; exact Nat.le_refl _) (fun b o e => by injection e with e; injection e with e1; omega) (fun r hr b o e => Nat.le_of_lt (HGE.out r hr b o e)) (fun b o h1 _ => hfar b o h1)
  · exact (unhide HVS).high (base := W.heap.size) (by rw [size_set, size_set, size_set]; exact Nat.le_refl _) (fun b o e => by have := HZ1.out; injection e with e; injection e with e1; omega) (fun b o h1 _ => hfar b o h1)
  · exact ((hbw2.setCell (by show w.heap.size ≤ w.heap.size + 1 + 1; omega) _).setCell (by show w.heap.size ≤ w.heap.size + 1; omega) _).setCell (by show w.heap.size ≤ w.heap.size + 1; omega) _
set_option maxHeartbeats 1000000 in
theorem szDfa_any (w : World) (A : Option Addr) (n c : Nat) (A2 : Option Addr) (m c2 : Nat) (rs : List RowV) (left : Int) (h : RS w w.heap.size A n rs) (hn : n ≤ 9223372036854775807) (hm : m ≤ 9223372036854775807) (hr : ∀ r ∈ rs, r.2.1 ≤ 9223372036854775807) (h0 : 0 ≤ left) (h1 : left ≤ 1048576) :
    Calls Try.prog 35 #[dfaV A n c A2 m c2, .int .i64 left] w fun r w' => Below w.heap.size w w' ∧ ∃ z : Int, r = .returned (.int .i64 z) ∧ -1 ≤ z ∧ (0 ≤ z → (n : Int) ≤ 1048576 ∧ (m : Int) ≤ 1048576 ∧ LeAll rs 1048576) := by
  have hb : Below w.heap.size w (w.alloc (.cells #[.slice A n c, .slice A2 m c2] 47)) := (Below.refl _ _).alloc (Nat.le_refl _) _
  have hI := szIntSS_any _ A n c rs left (h.up hb) hn hr h0 h1
  have HB := hide hb
  clear h hb
  go_enter Try.func35, Try.ntmps35
  go_wp2_with fail
  refine hI.mono ?_
  rintro r w1 ⟨rfl, z, rfl, hz⟩
  rcases hz with rfl | ⟨z0, z1, z2, z3⟩
  · go_wp2
    go_ret
    exact ⟨unhide HB, -1, rfl, by omega, by omega⟩
  · have z1' : z ≤ 1048576 := by omega
    have HZ3 := Lib.hid z3
    clear z3
    by_cases hzm : z < (m : Int)
    · have hS := szBoolS_any (w.alloc (.cells #[.slice A n c, .slice A2 m c2] 47)) A2 m c2 z hm z0 z1'
      rw [if_pos hzm] at hS
      go_wp2_with fail
      refine hS.mono ?_
      rintro r w1 ⟨rfl, rfl⟩
      go_wp2
      go_ret
      exact ⟨unhide HB, -1, rfl, by omega, by omega⟩
    · have hzm2 : ¬ z - (m : Int) < 0 := by omega
      have hS := szBoolS_any (w.alloc (.cells #[.slice A n c, .slice A2 m c2] 47)) A2 m c2 z hm z0 z1'
      rw [if_neg hzm] at hS
      go_wp2_with fail
      refine hS.mono ?_
      rintro r w1 ⟨rfl, rfl⟩
      go_wp2
      go_ret
      exact ⟨unhide HB, z - (m : Int), rfl, by omega, fun _ => ⟨by omega, by omega, fun r hr => by have := HZ3.out r hr; omega⟩⟩
set_option maxHeartbeats 1000000 in
theorem eqDfa_any (w : World) (A B A2 B2 : Option Addr) (n c d m c2 d2 : Nat) (rs qs : List RowV) (bs : List Bool) (h : DfaS w A n A2 m rs bs) (h2 : DfaS w B n B2 m qs bs) (hn : n ≤ 1048576) (hm : m ≤ 1048576) (hr : ∀ r ∈ rs, r.2.1 ≤ 1048576) (hq : ∀ r ∈ qs, r.2.1 ≤ 1048576) (he : nums rs = nums qs) :
    Calls Try.prog 39 #[dfaV A n c A2 m c2, dfaV B n d B2 m d2] w fun r w' => r = .returned (.bool true) ∧ Below w.heap.size w w' := by
  have hb : Below w.heap.size w ((w.alloc (.cells #[.slice A n c, .slice A2 m c2] 50)).alloc (.cells #[.slice B n d, .slice B2 m d2] 50)) := ((Below.refl _ _).alloc (Nat.le_refl _) _).alloc (by simp) _
  obtain ⟨W, hW⟩ : ∃ W, ((w.alloc (.cells #[.slice A n c, .slice A2 m c2] 50)).alloc (.cells #[.slice B n d, .slice B2 m d2] 50)) = W := ⟨_, rfl⟩
  have b0 : W.heap[w.heap.size]? = some (.cells #[.slice A n c, .slice A2 m c2] 50) := by
    rw [← hW, Below.heap_alloc _ _ _ (by simp)]; exact heap_alloc_new _ _
  have b1 : W.heap[w.heap.size + 1]? = some (.cells #[.slice B n d, .slice B2 m d2] 50) := by
    rw [← hW]
    have := heap_alloc_new (w.alloc (.cells #[.slice A n c, .slice A2 m c2] 50)) (.cells #[.slice B n d, .slice B2 m d2] 50)
    rwa [World.size_alloc] at this
  rw [hW] at hb
  have HA := hide (h.up hb)
  have HB := hide (h2.up hb)
  have hI := eqIntSS_any W A B n c d rs qs (unhide HA).1 (unhide HB).1 hn hr hq he
  rw [← hW] at hI
  have HW := Lib.hid hW
  have l0 : w.heap.size < W.heap.size := (Array.getElem?_eq_some_iff.1 b0).1
  have l1 : w.heap.size + 1 < W.heap.size := (Array.getElem?_eq_some_iff.1 b1).1
  have HBW := hide hb
  clear h h2 hW hb
  go_enter Try.func39, Try.ntmps39
  go_wp2_with fail
  refine hI.mono ?_
  rw [HW.out]
  rintro r w1 ⟨rfl, hb1⟩
  have d0 := (hb1.block _ l0).trans b0
  have d1 := (hb1.block _ l1).trans b1
  have c0 : w1.cell? ⟨w.heap.size, 1, none⟩ = some (.slice A2 m c2) := by rw [cell_of_row w1 _ 1 _ _ _ d0]; rfl
  have c1 : w1.cell? ⟨w.heap.size + 1, 1, none⟩ = some (.slice B2 m d2) := by rw [cell_of_row w1 _ 1 _ _ _ d1]; rfl
  clear d0 d1 b0 b1
  go_wp2_with fail
  refine (eqBoolS_any w1 A2 B2 m c2 m d2 bs bs ((unhide HA).2.up hb1) ((unhide HB).2.up hb1) hm hm).mono ?_
  rintro r w2 ⟨rfl, hb2⟩
  rw [show decide (bs = bs) = true by simp]
  go_wp2
  go_ret
  exact ⟨rfl, (unhide HBW).trans ((hb1.trans (hb2.mono hb1.size)).mono (unhide HBW).size)⟩
end Go.Proofs.Ytcphbncgkemdoaa
