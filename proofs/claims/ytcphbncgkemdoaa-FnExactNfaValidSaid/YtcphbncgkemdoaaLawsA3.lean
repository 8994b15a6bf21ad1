/-
  The walk of the exact law on valid automata with moves.
-/
import Derived.Test.YtcphbncgkemdoaaNfaV2
import Derived.Test.YtcphbncgkemdoaaOpenNfa
namespace Go.Proofs.Ytcphbncgkemdoaa
open Go.RowKit
set_option linter.unusedVariables false
set_option maxRecDepth 100000

set_option maxHeartbeats 8000000 in
theorem wFnExactNfaValid (s : Int) (A : Option Addr) (n c : Nat) (A2 : Option Addr) (m c2 : Nat) (A3 : Option Addr) (k c3 : Nat) (e : List Mv) (fs es : List Int) (w : World) (hw : NfaIn w A n A2 m A3 k e fs es) : Calls Try.prog 13 #[nfaV s A n c A2 m c2 A3 k c3] w fun r w' => r = .returned (.bool true) ∧ Below w.heap.size w w' := by
  obtain ⟨hn, hm, hk, hS⟩ := hw
  unfold maxLen at hn hm hk
  obtain ⟨N1, hN1⟩ : ∃ N1, IntKind.i64.wrap (s - 1) = N1 := ⟨_, rfl⟩
  have HN1 := Lib.hid hN1
  clear hN1
  have hb0 : Below w.heap.size w (w.alloc (lnbox s A n c A2 m c2 A3 k c3)) := (Below.refl _ _).alloc (Nat.le_refl _) _
  obtain ⟨W, hW⟩ : ∃ W, w.alloc (lnbox s A n c A2 m c2 A3 k c3) = W := ⟨_, rfl⟩
  have b0 : W.heap[w.heap.size]? = some (lnbox s A n c A2 m c2 A3 k c3) := by rw [← hW]; exact heap_alloc_new _ _
  have l0 : w.heap.size < W.heap.size := (Array.getElem?_eq_some_iff.1 b0).1
  rw [hW] at hb0
  have HS := hide (hS.up hb0)
  have HB0 := hide hb0
  have HW := Lib.hid hW
  have cells : Hid (∀ W', Below W.heap.size W W' → W'.cell? ⟨w.heap.size, 0, none⟩ = some (.int .i64 s) ∧ W'.cell? ⟨w.heap.size, 1, none⟩ = some (.slice A n c) ∧ W'.cell? ⟨w.heap.size, 2, none⟩ = some (.slice A2 m c2) ∧ W'.cell? ⟨w.heap.size, 3, none⟩ = some (.slice A3 k c3)) := fun W' hb => by
    have d := (hb.block _ l0).trans b0
    exact ⟨by rw [cell_of_row W' _ 0 _ _ _ d]; rfl, by rw [cell_of_row W' _ 1 _ _ _ d]; rfl, by rw [cell_of_row W' _ 2 _ _ _ d]; rfl, by rw [cell_of_row W' _ 3 _ _ _ d]; rfl⟩
  have hsz := szNfa_any W s A n c A2 m c2 A3 k c3 1048576 (by omega) (by omega) (by omega) (by omega) (by omega)
  clear hS hb0 b0 hW
  go_enter Try.func13, Try.ntmps13
  go_wp2_with fail
  rw [HW.out]
  refine hsz.mono ?_
  rintro r w1 ⟨hb1, z, rfl, hz0, hz⟩
  by_cases hz1 : z < 0
  · go_wp2
    go_ret
    exact ⟨rfl, (unhide HB0).trans (hb1.mono (unhide HB0).size)⟩
  obtain ⟨n1, m1, k1⟩ := hz (by omega)
  have hnn : n ≤ 1048576 := by omega
  have hmm : m ≤ 1048576 := by omega
  have hkk : k ≤ 1048576 := by omega
  clear hz
  obtain ⟨p0, p1, p2, p3⟩ := (unhide cells) w1 hb1
  have hz1' : ¬ z < 0 := hz1
  go_wp2_with fail
  refine (toNfa_any w1 s A n c A2 m c2 A3 k c3 e fs es ((unhide HS).up hb1) hnn hmm hkk).mono ?_
  rintro r w2 ⟨g1, g2, g3, rfl, hS2, hb2⟩
  have hbb2 := hb1.trans (hb2.mono hb1.size)
  go_wp2_with fail
  refine (specNfaValid_any w2 s N1 _ n n _ m m _ k k e fs es hS2 hnn hmm hkk HN1.out).mono ?_
  rintro r w3 ⟨rfl, hb3⟩
  have hbb3 := hbb2.trans (hb3.mono hbb2.size)
  clear hS2 p0 p1 p2 p3
  obtain ⟨bv, hbv⟩ : ∃ bv, nfaB s N1 e fs es = bv := ⟨_, rfl⟩
  have HBV := Lib.hid hbv
  rw [hbv]
  obtain ⟨p0, p1, p2, p3⟩ := (unhide cells) w3 hbb3
  clear hbv
  go_wp2_with fail
  refine (toNfa_any w3 s A n c A2 m c2 A3 k c3 e fs es ((unhide HS).up hbb3) hnn hmm hkk).mono ?_
  rintro r w4 ⟨g4, g5, g6, rfl, hS4, hb4⟩
  have hbb4 := hbb3.trans (hb4.mono hbb3.size)
  have HS4 := hide hS4
  clear hS4 p0 p1 p2 p3
  -- x0 lies in a new block
  obtain ⟨O5, hO5⟩ : ∃ O5, nbox s (some ⟨g4, 0, none⟩) n n (some ⟨g5, 0, none⟩) m m (some ⟨g6, 0, none⟩) k k = O5 := ⟨_, rfl⟩
  have hbx : Below w4.heap.size w4 (w4.alloc (nbox s (some ⟨g4, 0, none⟩) n n (some ⟨g5, 0, none⟩) m m (some ⟨g6, 0, none⟩) k k)) := (Below.refl _ _).alloc (Nat.le_refl _) _
  have bx := heap_alloc_new w4 (nbox s (some ⟨g4, 0, none⟩) n n (some ⟨g5, 0, none⟩) m m (some ⟨g6, 0, none⟩) k k)
  obtain ⟨W5, hW5⟩ : ∃ W5, w4.alloc (nbox s (some ⟨g4, 0, none⟩) n n (some ⟨g5, 0, none⟩) m m (some ⟨g6, 0, none⟩) k k) = W5 := ⟨_, rfl⟩
  rw [hW5] at hbx bx
  have HW5 := Lib.hid hW5
  have l4 : w4.heap.size < W5.heap.size := (Array.getElem?_eq_some_iff.1 bx).1
  have cells5 : Hid (∀ W', Below W5.heap.size W5 W' → W'.cell? ⟨w4.heap.size, 0, none⟩ = some (.int .i64 s) ∧ W'.cell? ⟨w4.heap.size, 1, none⟩ = some (.slice (some ⟨g4, 0, none⟩) n n) ∧ W'.cell? ⟨w4.heap.size, 2, none⟩ = some (.slice (some ⟨g5, 0, none⟩) m m) ∧ W'.cell? ⟨w4.heap.size, 3, none⟩ = some (.slice (some ⟨g6, 0, none⟩) k k)) := fun W' hb => by
    have d := (hb.block _ l4).trans bx
    exact ⟨by rw [cell_of_row W' _ 0 _ _ _ d]; rfl, by rw [cell_of_row W' _ 1 _ _ _ d]; rfl, by rw [cell_of_row W' _ 2 _ _ _ d]; rfl, by rw [cell_of_row W' _ 3 _ _ _ d]; rfl⟩
  have hbb5 := hbb4.trans (hbx.mono hbb4.size)
  have hI := implNfaValid_any W5 s N1 (some ⟨g4, 0, none⟩) n n (some ⟨g5, 0, none⟩) m m (some ⟨g6, 0, none⟩) k k e fs es ((unhide HS4).up hbx) hnn hmm hkk HN1.out
  rw [HBV.out] at hI
  have hbne : (bv != bv) = false := by cases bv <;> rfl
  have HBX := hide hbx
  clear hW5 bx hbx hO5
  go_wp2_with fail
  rw [HW5.out]
  refine hI.mono ?_
  rintro r w6 ⟨rfl, hb6⟩
  have hbb6 := hbb5.trans (hb6.mono hbb5.size)
  have HS6 : Hid (NfaS w6.drew A n A2 m A3 k e fs es) := (unhide HS).up (hbb6.drew)
  have HX6 : Hid (NfaS w6.drew (some ⟨g4, 0, none⟩) n (some ⟨g5, 0, none⟩) m (some ⟨g6, 0, none⟩) k e fs es) := (unhide HS4).up (((unhide HBX).trans (hb6.mono (unhide HBX).size)).drew)
  have s0 := (unhide cells) w6.drew hbb6.drew
  have s1 := (unhide cells5) w6.drew hb6.drew
  have S0 := Lib.hid s0
  have S1 := Lib.hid s1
  have k0 : w.heap.size < w6.heap.size := by have := hbb6.size; omega
  have k4 : w4.heap.size < w6.heap.size := by have := hb6.size; omega
  clear s0 s1 hI
  go_wp2_with fail
  go_region_held3 (fun w' => (w'.cell? ⟨w.heap.size, 0, none⟩ = some (.int .i64 s) ∧ w'.cell? ⟨w.heap.size, 1, none⟩ = some (.slice A n c) ∧ w'.cell? ⟨w.heap.size, 2, none⟩ = some (.slice A2 m c2) ∧ w'.cell? ⟨w.heap.size, 3, none⟩ = some (.slice A3 k c3)) ∧ w'.cell? ⟨w4.heap.size, 0, none⟩ = some (.int .i64 s) ∧ w'.cell? ⟨w4.heap.size, 1, none⟩ = some (.slice (some ⟨g4, 0, none⟩) n n) ∧ w'.cell? ⟨w4.heap.size, 2, none⟩ = some (.slice (some ⟨g5, 0, none⟩) m m) ∧ w'.cell? ⟨w4.heap.size, 3, none⟩ = some (.slice (some ⟨g6, 0, none⟩) k k))
    (first
      | (exact ⟨S0.out, S1.out⟩)
      | (exact ⟨⟨(hb7.cell (p := ⟨w.heap.size, 0, none⟩) k0).trans S0.out.1, (hb7.cell (p := ⟨w.heap.size, 1, none⟩) k0).trans S0.out.2.1, (hb7.cell (p := ⟨w.heap.size, 2, none⟩) k0).trans S0.out.2.2.1, (hb7.cell (p := ⟨w.heap.size, 3, none⟩) k0).trans S0.out.2.2.2⟩, (hb7.cell (p := ⟨w4.heap.size, 0, none⟩) k4).trans S1.out.1, (hb7.cell (p := ⟨w4.heap.size, 1, none⟩) k4).trans S1.out.2.1, (hb7.cell (p := ⟨w4.heap.size, 2, none⟩) k4).trans S1.out.2.2.1, (hb7.cell (p := ⟨w4.heap.size, 3, none⟩) k4).trans S1.out.2.2.2⟩)
      | (exact ⟨⟨(hb78.cell (p := ⟨w.heap.size, 0, none⟩) k0).trans S0.out.1, (hb78.cell (p := ⟨w.heap.size, 1, none⟩) k0).trans S0.out.2.1, (hb78.cell (p := ⟨w.heap.size, 2, none⟩) k0).trans S0.out.2.2.1, (hb78.cell (p := ⟨w.heap.size, 3, none⟩) k0).trans S0.out.2.2.2⟩, (hb78.cell (p := ⟨w4.heap.size, 0, none⟩) k4).trans S1.out.1, (hb78.cell (p := ⟨w4.heap.size, 1, none⟩) k4).trans S1.out.2.1, (hb78.cell (p := ⟨w4.heap.size, 2, none⟩) k4).trans S1.out.2.2.1, (hb78.cell (p := ⟨w4.heap.size, 3, none⟩) k4).trans S1.out.2.2.2⟩))
    (first
      | (go_at_call 42; (with_reducible refine (toNfa_any _ s A n c A2 m c2 A3 k c3 e fs es (unhide HS6) hnn hmm hkk).mono ?_); rintro r w7 ⟨g7, g8, g9, rfl, hS7, hb7⟩)
      | (go_at_call 44; (with_reducible refine (eqNfa_any _ s _ _ _ _ _ _ n n n m m m k k k e fs es ((unhide HX6).up hb7) hS7 hnn hmm hkk).mono ?_); rintro r w8 ⟨rfl, hb8⟩; have hb78 := hb7.trans (hb8.mono hb7.size)))
  all_goals
    go_wp2
    go_ret
    exact ⟨rfl, (unhide HB0).trans ((hbb6.drew.trans (hb78.mono hbb6.drew.size)).mono (unhide HB0).size)⟩
end Go.Proofs.Ytcphbncgkemdoaa
