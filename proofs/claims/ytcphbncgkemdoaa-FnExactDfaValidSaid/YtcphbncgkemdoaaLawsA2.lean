/-
  The walk of the exact law on valid automata.
-/
import Derived.Test.YtcphbncgkemdoaaDfaV2
import Derived.Test.YtcphbncgkemdoaaOpenDfa
namespace Go.Proofs.Ytcphbncgkemdoaa
open Go.RowKit
set_option linter.unusedVariables false
set_option maxRecDepth 100000

set_option maxHeartbeats 8000000 in
theorem wFnExactDfaValid (A : Option Addr) (n c : Nat) (A2 : Option Addr) (m c2 : Nat) (rs : List RowV) (bs : List Bool) (w : World) (hw : DfaIn w A n A2 m rs bs) : Calls Try.prog 12 #[dfaV A n c A2 m c2] w fun r w' => r = .returned (.bool true) ∧ Below w.heap.size w w' := by
  obtain ⟨hn, hm, hr, hS⟩ := hw
  unfold maxLen at hn hm hr
  have hb0 : Below w.heap.size w (w.alloc (.cells #[.slice A n c, .slice A2 m c2] 47)) := (Below.refl _ _).alloc (Nat.le_refl _) _
  obtain ⟨W, hW⟩ : ∃ W, w.alloc (.cells #[.slice A n c, .slice A2 m c2] 47) = W := ⟨_, rfl⟩
  have b0 : W.heap[w.heap.size]? = some (.cells #[.slice A n c, .slice A2 m c2] 47) := by rw [← hW]; exact heap_alloc_new _ _
  have l0 : w.heap.size < W.heap.size := (Array.getElem?_eq_some_iff.1 b0).1
  rw [hW] at hb0
  have HS := hide (hS.up hb0)
  have HB0 := hide hb0
  have HW := Lib.hid hW
  have cells : Hid (∀ W', Below W.heap.size W W' → W'.cell? ⟨w.heap.size, 0, none⟩ = some (.slice A n c) ∧ W'.cell? ⟨w.heap.size, 1, none⟩ = some (.slice A2 m c2)) := fun W' hb => by
    have d := (hb.block _ l0).trans b0
    exact ⟨by rw [cell_of_row W' _ 0 _ _ _ d]; rfl, by rw [cell_of_row W' _ 1 _ _ _ d]; rfl⟩
  have hsz := szDfa_any W A n c A2 m c2 rs 1048576 (unhide HS).1 (by omega) (by omega) hr (by omega) (by omega)
  clear hS hb0 b0 hW
  go_enter Try.func12, Try.ntmps12
  go_wp2_with fail
  rw [HW.out]
  refine hsz.mono ?_
  rintro r w1 ⟨hb1, z, rfl, hz0, hz⟩
  by_cases hz1 : z < 0
  · go_wp2
    go_ret
    exact ⟨rfl, (unhide HB0).trans (hb1.mono (unhide HB0).size)⟩
  obtain ⟨n1, m1, hall⟩ := hz (by omega)
  have hnn : n ≤ 1048576 := by omega
  have hmm : m ≤ 1048576 := by omega
  have HR := Lib.hid (show ∀ r ∈ rs, r.2.1 ≤ 1048576 from fun r hr => by have := hall r hr; omega)
  clear hall hz
  obtain ⟨p0, p1⟩ := (unhide cells) w1 hb1
  have hz1' : ¬ z < 0 := hz1
  go_wp2_with fail
  refine (toDfa_any w1 A n c A2 m c2 rs bs ((unhide HS).up hb1) hnn hmm HR.out).mono ?_
  rintro r w2 ⟨rs2, g2, g2', rfl, hnm2, hmm2, hS2, hb2⟩
  have HNM2 := Lib.hid hnm2
  have hbb2 := hb1.trans (hb2.mono hb1.size)
  go_wp2_with fail
  refine (specDfaValid_any w2 _ n n _ m m rs2 hS2.1 hnn hmm hmm2).mono ?_
  rintro r w3 ⟨rfl, hb3⟩
  have hbb3 := hbb2.trans (hb3.mono hbb2.size)
  rw [HNM2.out]
  clear hnm2 hmm2 hS2 p0 p1
  obtain ⟨bv, hbv⟩ : ∃ bv, dfaB (nums rs) m = bv := ⟨_, rfl⟩
  have HBV := Lib.hid hbv
  rw [hbv]
  obtain ⟨p0, p1⟩ := (unhide cells) w3 hbb3
  clear hbv
  go_wp2_with fail
  refine (toDfa_any w3 A n c A2 m c2 rs bs ((unhide HS).up hbb3) hnn hmm HR.out).mono ?_
  rintro r w4 ⟨rs4, g4, g4', rfl, hnm4, hmm4, hS4, hb4⟩
  have hbb4 := hbb3.trans (hb4.mono hbb3.size)
  have HNM4 := Lib.hid hnm4
  have HMM4 := Lib.hid hmm4
  have HS4 := hide hS4
  clear hnm4 hmm4 hS4 p0 p1
  -- x0 lies in a new block
  have hbx : Below w4.heap.size w4 (w4.alloc (.cells #[.slice (some ⟨g4, 0, none⟩) n n, .slice (some ⟨g4', 0, none⟩) m m] 50)) := (Below.refl _ _).alloc (Nat.le_refl _) _
  have bx := heap_alloc_new w4 (.cells #[.slice (some ⟨g4, 0, none⟩) n n, .slice (some ⟨g4', 0, none⟩) m m] 50)
  obtain ⟨W5, hW5⟩ : ∃ W5, w4.alloc (.cells #[.slice (some ⟨g4, 0, none⟩) n n, .slice (some ⟨g4', 0, none⟩) m m] 50) = W5 := ⟨_, rfl⟩
  rw [hW5] at hbx bx
  have HW5 := Lib.hid hW5
  have l4 : w4.heap.size < W5.heap.size := (Array.getElem?_eq_some_iff.1 bx).1
  have cells5 : Hid (∀ W', Below W5.heap.size W5 W' → W'.cell? ⟨w4.heap.size, 0, none⟩ = some (.slice (some ⟨g4, 0, none⟩) n n) ∧ W'.cell? ⟨w4.heap.size, 1, none⟩ = some (.slice (some ⟨g4', 0, none⟩) m m)) := fun W' hb => by
    have d := (hb.block _ l4).trans bx
    exact ⟨by rw [cell_of_row W' _ 0 _ _ _ d]; rfl, by rw [cell_of_row W' _ 1 _ _ _ d]; rfl⟩
  have hbb5 := hbb4.trans (hbx.mono hbb4.size)
  have hI := implDfaValid_any W5 (some ⟨g4, 0, none⟩) n n (some ⟨g4', 0, none⟩) m m rs4 ((unhide HS4).up hbx).1 hnn hmm HMM4.out
  rw [HNM4.out, HBV.out] at hI
  have hbne : (bv != bv) = false := by cases bv <;> rfl
  have HBX := hide hbx
  clear hW5 bx hbx
  go_wp2_with fail
  rw [HW5.out]
  refine hI.mono ?_
  rintro r w6 ⟨rfl, hb6⟩
  have hbb6 := hbb5.trans (hb6.mono hbb5.size)
  have HS6 : Hid (DfaS w6.drew A n A2 m rs bs) := (unhide HS).up (hbb6.drew)
  have HX6 : Hid (DfaS w6.drew (some ⟨g4, 0, none⟩) n (some ⟨g4', 0, none⟩) m rs4 bs) := (unhide HS4).up (((unhide HBX).trans (hb6.mono (unhide HBX).size)).drew)
  have s0 : w6.drew.cell? ⟨w.heap.size, 0, none⟩ = some (.slice A n c) ∧ w6.drew.cell? ⟨w.heap.size, 1, none⟩ = some (.slice A2 m c2) := (unhide cells) w6.drew hbb6.drew
  have s1 : w6.drew.cell? ⟨w4.heap.size, 0, none⟩ = some (.slice (some ⟨g4, 0, none⟩) n n) ∧ w6.drew.cell? ⟨w4.heap.size, 1, none⟩ = some (.slice (some ⟨g4', 0, none⟩) m m) := (unhide cells5) w6.drew hb6.drew
  have S0 := Lib.hid s0
  have S1 := Lib.hid s1
  have k0 : w.heap.size < w6.heap.size := by have := hbb6.size; omega
  have k4 : w4.heap.size < w6.heap.size := by have := hb6.size; omega
  clear s0 s1 hI
  go_wp2_with fail
  go_region_held3 (fun w' => (w'.cell? ⟨w.heap.size, 0, none⟩ = some (.slice A n c) ∧ w'.cell? ⟨w.heap.size, 1, none⟩ = some (.slice A2 m c2)) ∧ w'.cell? ⟨w4.heap.size, 0, none⟩ = some (.slice (some ⟨g4, 0, none⟩) n n) ∧ w'.cell? ⟨w4.heap.size, 1, none⟩ = some (.slice (some ⟨g4', 0, none⟩) m m))
    (first
      | (exact ⟨S0.out, S1.out⟩)
      | (exact ⟨⟨(hb7.cell (p := ⟨w.heap.size, 0, none⟩) k0).trans S0.out.1, (hb7.cell (p := ⟨w.heap.size, 1, none⟩) k0).trans S0.out.2⟩, (hb7.cell (p := ⟨w4.heap.size, 0, none⟩) k4).trans S1.out.1, (hb7.cell (p := ⟨w4.heap.size, 1, none⟩) k4).trans S1.out.2⟩)
      | (exact ⟨⟨(hb78.cell (p := ⟨w.heap.size, 0, none⟩) k0).trans S0.out.1, (hb78.cell (p := ⟨w.heap.size, 1, none⟩) k0).trans S0.out.2⟩, (hb78.cell (p := ⟨w4.heap.size, 0, none⟩) k4).trans S1.out.1, (hb78.cell (p := ⟨w4.heap.size, 1, none⟩) k4).trans S1.out.2⟩))
    (first
      | (go_at_call 37; (with_reducible refine (toDfa_any _ A n c A2 m c2 rs bs (unhide HS6) hnn hmm HR.out).mono ?_); rintro r w7 ⟨rs7, g7, g7', rfl, hnm7, hmm7, hS7, hb7⟩)
      | (go_at_call 39; (with_reducible refine (eqDfa_any _ _ _ _ _ n n n m m m rs4 rs7 bs ((unhide HX6).up hb7) hS7 hnn hmm HMM4.out hmm7 (HNM4.out.trans hnm7.symm)).mono ?_); rintro r w8 ⟨rfl, hb8⟩; have hb78 := hb7.trans (hb8.mono hb7.size)))
  all_goals
    go_wp2
    go_ret
    exact ⟨rfl, (unhide HB0).trans ((hbb6.drew.trans (hb78.mono hbb6.drew.size)).mono (unhide HB0).size)⟩
end Go.Proofs.Ytcphbncgkemdoaa
