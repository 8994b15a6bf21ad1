/-
  Valid automata: the program's walk.
-/
import Derived.Test.YtcphbncgkemdoaaDfaV
namespace Go.Proofs.Ytcphbncgkemdoaa
open Go.RowKit
set_option linter.unusedVariables false
set_option maxRecDepth 100000

theorem app11 (a b : Value) : (#[a] : Array Value) ++ #[b] = #[a, b] := rfl
theorem any_not {zs : List Int} {N : Int} (h : zs.any (fun z => !(inB z 0 (N - 1))) = false) : ∀ v ∈ zs, inB v 0 (N - 1) = true := by
  intro v hv
  have h2 : zs.any (fun z => !(inB z 0 (N - 1))) ≠ true := by rw [h]; simp
  rcases hi : inB v 0 (N - 1)
  · exact absurd (List.any_eq_true.2 ⟨v, hv, by rw [hi]; rfl⟩) h2
  · rfl
theorem any_bad {zs : List Int} {N : Int} (h : zs.any (fun z => !(inB z 0 (N - 1))) = true) : ∃ v ∈ zs, inB v 0 (N - 1) = false := by
  obtain ⟨v, hv, hp⟩ := List.any_eq_true.1 h
  exact ⟨v, hv, by simpa using hp⟩
set_option maxHeartbeats 4000000 in
theorem implDfaValid_any (w : World) (A : Option Addr) (n c : Nat) (A2 : Option Addr) (m c2 : Nat) (rs : List RowV) (h : RS w w.heap.size A n rs) (hn : n ≤ 1048576) (hm : m ≤ 1048576) (hr : ∀ r ∈ rs, r.2.1 ≤ 1048576) :
    Calls Try.prog 38 #[dfaV A n c A2 m c2] w fun r w' => r = .returned (.bool (dfaB (nums rs) m)) ∧ Below w.heap.size w w' := by
  have hb0 : Below w.heap.size w ((w.alloc (.cells #[.slice A n c, .slice A2 m c2] 50)).alloc (.cells #[.int .i64 (n : Int)] 3)) := ((Below.refl _ _).alloc (Nat.le_refl _) _).alloc (by simp) _
  obtain ⟨W, hW⟩ : ∃ W, ((w.alloc (.cells #[.slice A n c, .slice A2 m c2] 50)).alloc (.cells #[.int .i64 (n : Int)] 3)) = W := ⟨_, rfl⟩
  have b0 : W.heap[w.heap.size]? = some (.cells #[.slice A n c, .slice A2 m c2] 50) := by
    rw [← hW, Below.heap_alloc _ _ _ (by simp)]; exact heap_alloc_new _ _
  have b1 : W.heap[w.heap.size + 1]? = some (.cells #[.int .i64 (n : Int)] 3) := by
    rw [← hW]
    have := heap_alloc_new (w.alloc (.cells #[.slice A n c, .slice A2 m c2] 50)) (.cells #[.int .i64 (n : Int)] 3)
    rw [World.size_alloc] at this
    exact this
  rw [hW] at hb0
  have HH := hide (h.up hb0)
  have HL := Lib.hid h.len
  have HNL := Lib.hid (show ((nums rs).length : Int) = (n : Int) by rw [nums_len, h.len])
  have HB0 := hide hb0
  have HM := Lib.hid hr
  have HW := Lib.hid hW
  have p0 : W.cell? ⟨w.heap.size, 0, none⟩ = some (.slice A n c) := by rw [cell_of_row W _ 0 _ _ _ b0]; rfl
  have p1 : W.cell? ⟨w.heap.size, 1, none⟩ = some (.slice A2 m c2) := by rw [cell_of_row W _ 1 _ _ _ b0]; rfl
  have p2 : W.cell? ⟨w.heap.size + 1, 0, none⟩ = some (.int .i64 (n : Int)) := by rw [cell_of_row W _ 0 _ _ _ b1]; rfl
  have n0 : (0 : Int) ≤ (n : Int) := Int.natCast_nonneg _
  have CL : Hid (∀ z : Int, Calls Try.prog 65 (#[.int .i64 z] ++ #[.pointer (some ⟨w.heap.size + 1, 0, none⟩)]) W fun r W' => r = .returned (.bool ((fun z => !(inB z 0 ((n : Int) - 1))) z)) ∧ W = W') := fun z => (app11 _ _).symm ▸ dv1_any W (w.heap.size + 1) z (n : Int) p2 n0 (by omega)
  clear h b0 b1 hb0 hr hW
  go_enter Try.func38, Try.ntmps38
  go_wp2
  rw [HW.out]
  go_loop [12] (fun kv => ∃ k : Nat, kv = .int .i64 k ∧ k ≤ n ∧ Hid (∀ j r, j < k → rs[j]? = some r → rowB (n : Int) r.2.2.2 = true)) (fun kv => n - (intOf kv).toNat)
  case atStart => exact ⟨0, rfl, Nat.zero_le _, Lib.hid (fun j r hj => absurd hj (by omega))⟩
  case round =>
    obtain ⟨k, rfl, hk, hall⟩ := hrel
    by_cases hlt : k < n
    · obtain ⟨b, off, A', m', c', zs, rfl, hbB, hrk, hc0, hv, hzl, hmc, hcm⟩ := (unhide HH).at hlt
      have HRK := Lib.hid hrk
      have hm0 : m' ≤ 1048576 := HM.out _ (List.mem_of_getElem? hrk)
      have HV := hide hv
      have HZL := Lib.hid hzl
      have k0 : (0 : Int) ≤ (k : Int) := Int.natCast_nonneg _
      have k1 : (k : Int) < (n : Int) := by omega
      have HCF := containsI_any W A' m' c' zs 65 #[.pointer (some ⟨w.heap.size + 1, 0, none⟩)] (fun z => !(inB z 0 ((n : Int) - 1))) (unhide HV) hm0 enter_dv (unhide CL)
      clear hrk hv hzl
      by_cases h3 : m' = 3
      · subst h3
        rcases hany : zs.any (fun z => !(inB z 0 ((n : Int) - 1)))
        · rw [hany] at HCF
          have HG := Lib.hid (row_good HZL.out (any_not hany))
          go_wp2_with (first | (go_at_call 64; refine HCF.mono ?_; rintro r w1 ⟨rfl, rfl⟩))
          go_round
          case rel =>
            refine ⟨k + 1, by go_num, by omega, Lib.hid fun j r hj hr => ?_⟩
            by_cases hjk : j = k
            · subst hjk
              rw [HRK.out] at hr
              injection hr with hr
              subst hr
              exact HG.out
            · exact hall.out j r (by omega) hr
          case measure => simp [intOf]; omega
        · rw [hany] at HCF
          have HBD : Hid (dfaB (nums rs) m = false) := by
            obtain ⟨v, hv, hi⟩ := any_bad hany
            exact dfa_bad (nums_mem HRK.out) (row_bad hv (by rw [HNL.out]; exact hi))
          go_wp2_with (first | (go_at_call 64; refine HCF.mono ?_; rintro r w1 ⟨rfl, rfl⟩))
          go_ret
          exact ⟨ret_bool HBD.out.symm, unhide HB0⟩
      · have HBD := Lib.hid (dfa_bad (m := m) (nums_mem HRK.out) (row_len (by rw [HZL.out]; exact h3)))
        have h3' : ((m' : Int) == 3) = false := by simp; omega
        have h3'' : ((m' : Int) != 3) = true := by simp; omega
        have h3n : ¬ (m' : Int) = 3 := by omega
        go_wp2
        go_ret
        exact ⟨ret_bool HBD.out.symm, unhide HB0⟩
    · obtain rfl : k = n := by omega
      have HALL := Lib.hid (dfa_all (m := m) (all_before HL.out (by rw [HNL.out]; exact hall.out)))
      rcases hin : inB (k : Int) 1 40
      · go_wp2_with (first | (go_at_call 51; refine (within_any _ _ _ _).mono ?_; rintro r w1 ⟨rfl, rfl⟩; rw [hin]))
        go_ret
        exact ⟨ret_bool (by rw [HALL.out, HNL.out, hin]; rfl), unhide HB0⟩
      · by_cases hmk : (m : Int) = (k : Int)
        · have hmk' : ((m : Int) == (k : Int)) = true := by simpa using hmk
          go_wp2_with (first | (go_at_call 51; refine (within_any _ _ _ _).mono ?_; rintro r w1 ⟨rfl, rfl⟩; rw [hin]))
          go_ret
          exact ⟨ret_bool (by rw [HALL.out, HNL.out, hin, decide_eq_true hmk]; rfl), unhide HB0⟩
        · have hmk' : ((m : Int) == (k : Int)) = false := by simpa using hmk
          go_wp2_with (first | (go_at_call 51; refine (within_any _ _ _ _).mono ?_; rintro r w1 ⟨rfl, rfl⟩; rw [hin]))
          go_ret
          exact ⟨ret_bool (by rw [HALL.out, HNL.out, hin, decide_eq_false hmk]; rfl), unhide HB0⟩
end Go.Proofs.Ytcphbncgkemdoaa
