/-
  The walk of the law that faults are found early.
-/
import Derived.Test.YtglffbkldffipaaLawsF5
namespace Go.Proofs.Ytglffbkldffipaa
open Go.RowKit
set_option linter.unusedVariables false
set_option maxRecDepth 100000

theorem take_data (X : ByteArray) (n : Nat) : (X.extract 0 n).data.toList = X.data.toList.take n := by
  rw [ByteArray.data_extract, Array.toList_extract, List.extract_eq_take_drop]; simp
theorem small_take {X : ByteArray} (h : X.size ≤ 120) (n : Nat) : (X.extract 0 n).size ≤ maxLen := by
  rw [ByteArray.size_extract]; unfold maxLen; omega
theorem small_app {X : ByteArray} (h : X.size ≤ 120) (c : UInt8) : (X ++ ⟨#[c]⟩ : ByteArray).size ≤ maxLen := by
  rw [ByteArray.size_append]; show X.size + 1 ≤ _; unfold maxLen; omega
theorem app_data (X : ByteArray) (c : UInt8) : (X ++ ⟨#[c]⟩ : ByteArray).data.toList = X.data.toList ++ [c] := by
  simp [ByteArray.data_append]
set_option maxHeartbeats 4000000 in
theorem wFnTextFault (A : Option Addr) (n c : Nat) (w : World) (hw : BytesIn w A n c) : Calls Try.prog 7 #[.slice A n c] w (Yes w) := by
  obtain ⟨hnc, hcm, hcode⟩ := hw
  unfold maxLen at hcm
  have HC := hide hcode
  clear hcode
  by_cases hn : 1048576 < n
  · go_enter Try.func7, Try.ntmps7
    go_wp2
    go_ret
    exact ⟨rfl, Below.refl _ _⟩
  · go_enter Try.func7, Try.ntmps7
    go_wp2_with fail
    refine (dTextFault_any w n c A _ (unhide HC) (Nat.le_refl _) hnc (by omega)).mono ?_
    rintro r w1 ⟨X, rfl, hXs, hb1⟩
    have HXM := Lib.hid (show X.size ≤ maxLen by unfold maxLen; omega)
    have hfb := faultI_bd (l := X.data.toList) (show X.size ≤ 120 from hXs)
    obtain ⟨f0, f1⟩ := hfb
    have f2 : faultI X.data.toList ≤ (X.size : Int) := f1
    clear f1
    obtain ⟨N, hN⟩ : ∃ N, faultI X.data.toList = N := ⟨_, rfl⟩
    rw [hN] at f0 f2
    have HN := Lib.hid hN
    clear hN
    go_wp2_with fail
    refine (implTextFault_any X _ HXM.out).mono ?_
    rintro r w2 ⟨rfl, rfl⟩
    rw [HN.out]
    go_wp2_with fail
    refine (specTextFault_any X _ HXM.out).mono ?_
    rintro r w2 ⟨rfl, rfl⟩
    rw [HN.out]
    by_cases h110 : 110 < (X.size : Int)
    · go_wp2_with fail
      refine (alive_any _).mono ?_
      rintro r w2 ⟨rfl, rfl⟩
      go_wp2
      go_ret
      exact ⟨rfl, hb1⟩
    · obtain ⟨m, rfl⟩ := Int.eq_ofNat_of_zero_le f0
      have hlaw := fault_law (l := X.data.toList) (show X.size ≤ 110 by omega) HN.out
      obtain ⟨l1, l2, l3⟩ := hlaw
      have hm : m ≤ X.size := l1
      have L2 := Lib.hid (show faultI (X.extract 0 m).data.toList = (m : Int) by rw [take_data]; exact l2)
      go_wp2_with fail
      refine (implReadExpr_any X _ HXM.out).mono ?_
      intro r w2 hd2
      obtain ⟨e, A2, c2, b, rfl, hel, hsl2, -, hb2, hR2⟩ := hd2.opn
      have hbb2 := hb1.trans (hb2.mono hb1.size)
      clear hd2 hsl2
      by_cases hmx : m = X.size
      · subst hmx
        clear l3 l2 hR2
        go_wp2_with (first
          | (go_at_call 11; with_reducible refine (implTextFault_any X _ HXM.out).mono ?_; rintro r w3 ⟨rfl, rfl⟩; rw [HN.out]))
        go_ret
        exact ⟨rfl, hbb2⟩
      · obtain ⟨l4, l5, l6⟩ := l3 hmx
        have hb0 := l6 e b hR2
        subst hb0
        have L4 := Lib.hid (show faultI (X ++ ⟨#[97]⟩ : ByteArray).data.toList = (m : Int) by rw [app_data]; exact l4)
        have L5 := Lib.hid (show faultI (X.extract 0 (m + 1)).data.toList = (m : Int) by rw [take_data]; exact l5)
        have hm1 : m + 1 ≤ X.size := by omega
        have hmx' : ((m : Int) == (X.size : Int)) = false := by simp; omega
        have hmn : ¬ (m : Int) = (X.size : Int) := by omega
        clear l2 l3 l4 l5 l6 hR2
        go_wp2_with (first
          | (go_at_call 11; with_reducible refine (implTextFault_any (X.extract 0 m) _ (small_take hXs _)).mono ?_; rintro r w3 ⟨rfl, rfl⟩; rw [L2.out])
          | (go_at_call 11; with_reducible refine (implTextFault_any (X ++ ⟨#[97]⟩) _ (small_app hXs _)).mono ?_; rintro r w3 ⟨rfl, rfl⟩; rw [L4.out])
          | (go_at_call 11; with_reducible refine (implTextFault_any (X.extract 0 (m + 1)) _ (small_take hXs _)).mono ?_; rintro r w3 ⟨rfl, rfl⟩; rw [L5.out]))
        go_ret
        exact ⟨rfl, hbb2⟩
end Go.Proofs.Ytglffbkldffipaa
