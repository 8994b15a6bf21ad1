/-
  Whether two slices of parts are equal: slices.Equal and its like.
-/
import Derived.Test.YtadibjjjdbglaaaOper2
import Derived.Laws.StructEq
import Derived.Deep.QuietTactic
import Derived.BigQuiet
namespace Go.Proofs.Ytadibjjjdbglaaa
open Go.RowKit
set_option linter.unusedVariables false
set_option maxRecDepth 100000

theorem below_drewN {B : Nat} {w w' : World} (h : Below B w w') (k : Nat) : Below B w (w'.drewN k) := ⟨h.os, h.tape, h.output, h.size, h.block⟩
theorem part_hS : Try.prog.underlying 45 = some (.struct (Try.prog.fieldsOf 45)) := by kernel_rfl
theorem part_hp : Try.prog.stoodInHeld 45 = false := by kernel_rfl
theorem part_hG : Try.prog.eqGuardType Try.prog.depth 45 = false := by kernel_rfl
/-- '!=' of two parts. -/
theorem part_neq (w : World) (a b c d : Int) : (binOp .neq 45 (part a b) (part c d)).run Try.prog w = .ok (.bool (!(eqP a b c d))) w := by
  have u3 := Try.underlying3
  have a3 := Try.isAgg3
  have z3 := Try.sizeOf3
  rw [run_neq_struct, show (10000 : Nat) = 9999 + 1 from rfl, run_equalIn_agg w 9999 45 _ _ part_hS part_hp]
  simp only [Program.fieldsOf, Try.underlying45]
  go_simp
  by_cases h1 : a = c <;> by_cases h2 : b = d <;> simp [eqP, h1, h2]
theorem part_guard (w : World) (op : BinOp) (x y : Operand) (a b c d : Int) : (eqGuard op 45 x y (part a b) (part c d)).run Try.prog w = .ok () w := run_eqGuard_agg w op 45 x y _ _ part_hG
theorem eqP_dec (a b c d : Int) : eqP a b c d = decide (((a, b) : Pt) = (c, d)) := by simp [eqP, Bool.decide_and]
theorem take_eq_next {e f : List Pt} {i : Nat} {p q : Pt} (he : e[i]? = some p) (hf : f[i]? = some q) (h : e.take i = f.take i) : (e.take (i + 1) = f.take (i + 1)) ↔ p = q := by
  rw [take_next he, take_next hf, h]; simp
set_option maxHeartbeats 2000000 in
theorem equal_any (w : World) (A A2 : Option Addr) (n c n2 c2 : Nat) (e f : List Pt) (h : PS w w.heap.size A n e) (h2 : PS w w.heap.size A2 n2 f) (hn : n ≤ 1000000000) (hn2 : n2 ≤ 1000000000) :
    Calls Try.prog 63 #[.slice A n c, .slice A2 n2 c2] w fun r w' => r = .returned (.bool (decide (e = f))) ∧ Below w.heap.size w w' := by
  have hl := h.1
  have hl2 := h2.1
  by_cases hnn : n = n2
  · subst hnn
    have HN := hide h
    have HN2 := hide h2
    have HL := Lib.hid hl
    have HL2 := Lib.hid hl2
    clear h h2 hl hl2
    go_enter Try.func63, Try.ntmps63
    go_wp2
    go_loopw [13] (fun i wr => ∃ k : Nat, i = .int .i64 k ∧ k ≤ n ∧ Hid (e.take k = f.take k) ∧ Below w.heap.size w wr) (fun i _ => n - (intOf i).toNat)
    case atStart => exact ⟨0, rfl, Nat.zero_le _, Lib.hid rfl, Below.refl _ _⟩
    case round =>
      obtain ⟨i, rfl, hi, hq, hb⟩ := hrel
      by_cases hlt : i < n
      · obtain ⟨b, off, k, l, rfl, hbB, he, hc0, hc1⟩ := ((unhide HN).below (Nat.le_refl _) hb).at hlt
        obtain ⟨b2, off2, k2, l2, rfl, hbB2, he2, hd0, hd1⟩ := ((unhide HN2).below (Nat.le_refl _) hb).at hlt
        have HE := Lib.hid he
        have HE2 := Lib.hid he2
        clear he he2
        have i0 : (0 : Int) ≤ (i : Int) := by omega
        have i1 : (i : Int) < (n : Int) := by omega
        have hpn := fun W => part_neq W k l k2 l2
        have hpg := fun W op x y => part_guard W op x y k l k2 l2
        have hdec := Lib.hid (eqP_dec k l k2 l2)
        rcases hkl : eqP k l k2 l2
        · go_wp2
          go_quiet (fail)
          go_wp2
          go_ret
          refine ⟨ret_bool ?_, below_drewN hb _⟩
          rw [hdec.out] at hkl
          have : e ≠ f := by
            rintro rfl
            have h1 := HE.out
            rw [HE2.out] at h1
            injection h1 with h1
            simp [h1] at hkl
          simp [this]
        · go_wp2
          go_quiet (fail)
          go_wp2
          go_roundw
          case rel =>
            rw [hdec.out] at hkl
            have h1 : (k, l) = (k2, l2) := by simpa using hkl
            exact ⟨i + 1, by go_num, by omega, Lib.hid (by rw [take_next HE.out, take_next HE2.out, hq.out, h1]), below_drewN hb _⟩
          case measure => simp [intOf]; omega
      · obtain rfl : i = n := by omega
        go_wp2
        go_ret
        refine ⟨ret_bool ?_, hb⟩
        have h1 := hq.out
        rw [List.take_of_length_le (by rw [HL.out]; omega), List.take_of_length_le (by rw [HL2.out]; omega)] at h1
        simp [h1]
  · have hne : ((n : Int) != (n2 : Int)) = true := by simp; omega
    have hef : ¬ e = f := by rintro rfl; omega
    clear hl hl2
    go_enter Try.func63, Try.ntmps63
    go_wp2
    go_ret
    exact ⟨ret_bool (by simp [hef]), Below.refl _ _⟩
set_option maxHeartbeats 2000000 in
theorem sameParts_any (w : World) (A A2 : Option Addr) (n c n2 c2 : Nat) (e f : List Pt) (h : PS w w.heap.size A n e) (h2 : PS w w.heap.size A2 n2 f) (hn : n ≤ 1000000000) (hn2 : n2 ≤ 1000000000) :
    Calls Try.prog 17 #[.slice A n c, .slice A2 n2 c2] w fun r w' => r = .returned (.bool (decide (e = f))) ∧ Below w.heap.size w w' := by
  have hl := h.1
  have hl2 := h2.1
  by_cases hnn : n = n2
  · subst hnn
    have HN := hide h
    have HN2 := hide h2
    have HL := Lib.hid hl
    have HL2 := Lib.hid hl2
    clear h h2 hl hl2
    go_enter Try.func17, Try.ntmps17
    go_wp2
    go_loopw [5] (fun i wr => ∃ k : Nat, i = .int .i64 k ∧ k ≤ n ∧ Hid (e.take k = f.take k) ∧ Below w.heap.size w wr) (fun i _ => n - (intOf i).toNat)
    case atStart => exact ⟨0, rfl, Nat.zero_le _, Lib.hid rfl, Below.refl _ _⟩
    case round =>
      obtain ⟨i, rfl, hi, hq, hb⟩ := hrel
      by_cases hlt : i < n
      · obtain ⟨b, off, k, l, rfl, hbB, he, hc0, hc1⟩ := ((unhide HN).below (Nat.le_refl _) hb).at hlt
        obtain ⟨b2, off2, k2, l2, rfl, hbB2, he2, hd0, hd1⟩ := ((unhide HN2).below (Nat.le_refl _) hb).at hlt
        have HE := Lib.hid he
        have HE2 := Lib.hid he2
        clear he he2
        have i0 : (0 : Int) ≤ (i : Int) := by omega
        have i1 : (i : Int) < (n : Int) := by omega
        have hpn := fun W => part_neq W k l k2 l2
        have hpg := fun W op x y => part_guard W op x y k l k2 l2
        have hdec := Lib.hid (eqP_dec k l k2 l2)
        rcases hkl : eqP k l k2 l2
        · go_wp2
          go_quiet (fail)
          go_wp2
          go_ret
          refine ⟨ret_bool ?_, below_drewN hb _⟩
          rw [hdec.out] at hkl
          have : e ≠ f := by
            rintro rfl
            have h1 := HE.out
            rw [HE2.out] at h1
            injection h1 with h1
            simp [h1] at hkl
          simp [this]
        · go_wp2
          go_quiet (fail)
          go_wp2
          go_roundw
          case rel =>
            rw [hdec.out] at hkl
            have h1 : (k, l) = (k2, l2) := by simpa using hkl
            exact ⟨i + 1, by go_num, by omega, Lib.hid (by rw [take_next HE.out, take_next HE2.out, hq.out, h1]), below_drewN hb _⟩
          case measure => simp [intOf]; omega
      · obtain rfl : i = n := by omega
        go_wp2
        go_ret
        refine ⟨ret_bool ?_, hb⟩
        have h1 := hq.out
        rw [List.take_of_length_le (by rw [HL.out]; omega), List.take_of_length_le (by rw [HL2.out]; omega)] at h1
        simp [h1]
  · have hne : ((n : Int) != (n2 : Int)) = true := by simp; omega
    have hef : ¬ e = f := by rintro rfl; omega
    clear hl hl2
    go_enter Try.func17, Try.ntmps17
    go_wp2
    go_ret
    exact ⟨ret_bool (by simp [hef]), Below.refl _ _⟩
set_option maxHeartbeats 2000000 in
theorem l5Same_any (w : World) (A A2 : Option Addr) (n c n2 c2 : Nat) (e f : List Pt) (h : PS w w.heap.size A n e) (h2 : PS w w.heap.size A2 n2 f) (hn : n ≤ 1000000000) (hn2 : n2 ≤ 1000000000) :
    Calls Try.prog 66 #[.slice A n c, .slice A2 n2 c2] w fun r w' => r = .returned (.bool (decide (e = f))) ∧ Below w.heap.size w w' := by
  have hl := h.1
  have hl2 := h2.1
  by_cases hnn : n = n2
  · subst hnn
    have HN := hide h
    have HN2 := hide h2
    have HL := Lib.hid hl
    have HL2 := Lib.hid hl2
    clear h h2 hl hl2
    go_enter Try.func66, Try.ntmps66
    go_wp2
    go_loopw [5] (fun i wr => ∃ k : Nat, i = .int .i64 k ∧ k ≤ n ∧ Hid (e.take k = f.take k) ∧ Below w.heap.size w wr) (fun i _ => n - (intOf i).toNat)
    case atStart => exact ⟨0, rfl, Nat.zero_le _, Lib.hid rfl, Below.refl _ _⟩
    case round =>
      obtain ⟨i, rfl, hi, hq, hb⟩ := hrel
      by_cases hlt : i < n
      · obtain ⟨b, off, k, l, rfl, hbB, he, hc0, hc1⟩ := ((unhide HN).below (Nat.le_refl _) hb).at hlt
        obtain ⟨b2, off2, k2, l2, rfl, hbB2, he2, hd0, hd1⟩ := ((unhide HN2).below (Nat.le_refl _) hb).at hlt
        have HE := Lib.hid he
        have HE2 := Lib.hid he2
        clear he he2
        have i0 : (0 : Int) ≤ (i : Int) := by omega
        have i1 : (i : Int) < (n : Int) := by omega
        have hpn := fun W => part_neq W k l k2 l2
        have hpg := fun W op x y => part_guard W op x y k l k2 l2
        have hdec := Lib.hid (eqP_dec k l k2 l2)
        rcases hkl : eqP k l k2 l2
        · go_wp2
          go_quiet (fail)
          go_wp2
          go_ret
          refine ⟨ret_bool ?_, below_drewN hb _⟩
          rw [hdec.out] at hkl
          have : e ≠ f := by
            rintro rfl
            have h1 := HE.out
            rw [HE2.out] at h1
            injection h1 with h1
            simp [h1] at hkl
          simp [this]
        · go_wp2
          go_quiet (fail)
          go_wp2
          go_roundw
          case rel =>
            rw [hdec.out] at hkl
            have h1 : (k, l) = (k2, l2) := by simpa using hkl
            exact ⟨i + 1, by go_num, by omega, Lib.hid (by rw [take_next HE.out, take_next HE2.out, hq.out, h1]), below_drewN hb _⟩
          case measure => simp [intOf]; omega
      · obtain rfl : i = n := by omega
        go_wp2
        go_ret
        refine ⟨ret_bool ?_, hb⟩
        have h1 := hq.out
        rw [List.take_of_length_le (by rw [HL.out]; omega), List.take_of_length_le (by rw [HL2.out]; omega)] at h1
        simp [h1]
  · have hne : ((n : Int) != (n2 : Int)) = true := by simp; omega
    have hef : ¬ e = f := by rintro rfl; omega
    clear hl hl2
    go_enter Try.func66, Try.ntmps66
    go_wp2
    go_ret
    exact ⟨ret_bool (by simp [hef]), Below.refl _ _⟩
end Go.Proofs.Ytadibjjjdbglaaa
