/-
  The drawn texts of expressions.
-/
import Derived.Test.YtglffbkldffipaaDrawL
import Derived.Test.YtglffbkldffipaaDrawW
import Derived.Test.YtglffbkldffipaaPrint
import Derived.Deep.RegionHeld3
import Derived.Deep.RegionWith
namespace Go.Proofs.Ytglffbkldffipaa
open Go.RowKit
set_option linter.unusedVariables false
set_option maxRecDepth 100000

/-- What a drawn text leaves. -/
def TextE (w : World) (R : Nat) (r : Ending) (w' : World) : Prop := ∃ X : ByteArray, r = .returned (.string X) ∧ X.size ≤ 120 ∧ w.grownBy w' (some R)
theorem only_belowT {a w w' : World} {R : Nat} (h : a.grownBy w (some R)) (hb : Below w.heap.size w w') : a.grownBy w' (some R) := only_trans h ⟨hb.os, hb.tape, hb.output, hb.size, fun i hi _ => hb.block i hi⟩
theorem TxR.small {e : List Pt} {X : ByteArray} (h : TxR e X) (he : e.length ≤ 15) : X.size ≤ 57 := by
  rcases h.1 with ⟨-, h0⟩ | ⟨t, -, hf, -, ht⟩
  · have h2 : X.data.toList.length = X.size := rfl
    rw [h0] at h2; simp at h2; omega
  · have h2 : X.data.toList.length = X.size := rfl
    have h3 := t.txt_len.1
    have h4 : t.sz ≤ 15 := by rw [← Ex.flat_length, hf]; exact he
    rw [ht] at h2; omega
theorem pickT (X Z : ByteArray) (k : Nat) (hX : X.size ≤ 57) (hZ : Z.size ≤ 120) (j : Nat) (h : (j : Int) < 10) : ∃ Y : ByteArray, Y.size ≤ 120 ∧
    (#[Value.string (X ++ ⟨#[41]⟩), Value.string (⟨#[40]⟩ ++ X), Value.string (X.extract 0 k ++ ⟨#[124]⟩ ++ X.extract k X.size), Value.string Z, Value.string (⟨#[40]⟩ ++ X ++ ⟨#[41]⟩), Value.string ⟨#[]⟩, Value.string (X ++ ⟨#[100]⟩), Value.string (X.extract 0 k ++ ⟨#[42]⟩ ++ X.extract k X.size), Value.string ⟨#[97, 124, 124, 98]⟩, Value.string ⟨#[33]⟩] : Array Value)[j]? = some (.string Y) := by
  have e1 : ∀ c : UInt8, (⟨#[c]⟩ : ByteArray).size = 1 := fun _ => rfl
  rcases (show j = 0 ∨ j = 1 ∨ j = 2 ∨ j = 3 ∨ j = 4 ∨ j = 5 ∨ j = 6 ∨ j = 7 ∨ j = 8 ∨ j = 9 by omega) with rfl | rfl | rfl | rfl | rfl | rfl | rfl | rfl | rfl | rfl
  all_goals refine ⟨_, ?_, rfl⟩
  all_goals first
    | decide
    | exact hZ
    | (simp only [ByteArray.size_append, ByteArray.size_extract, e1]; omega)
/-- Two short texts joined. -/
theorem run_add (a b : ByteArray) (h : a.size + b.size ≤ 1000) (w : World) : (binOp .add 9 (.string a) (.string b)).run Try.prog w = .ok (.string (a ++ b)) w := by
  simp [binOp, Op.stringOp, go_sem]
  omega
theorem run_min1 (a b : Int) (h : a ≤ b) (w : World) : (Builtin.min_ #[3, 3] 3 #[.int .i64 a, .int .i64 b]).run Try.prog w = .ok (.int .i64 a) w := by
  have h' : ¬ b < a := by omega
  simp [Builtin.min_, Builtin.min2, h', go_sem]
theorem run_min2 (a b : Int) (h : b < a) (w : World) : (Builtin.min_ #[3, 3] 3 #[.int .i64 a, .int .i64 b]).run Try.prog w = .ok (.int .i64 b) w := by
  have h' : ¬ a ≤ b := by omega
  simp [Builtin.min_, Builtin.min2, h', go_sem]
theorem far_box {w5 w6 : World} {R : Nat} {cs : Array Value} {t : TypeId} {Y : Value} {j : Nat} (hg : (w5.alloc (.cells cs t)).grownBy w6 (some R)) (hne : w5.heap.size ≠ R) (hx : cs[j]? = some Y) : w6.cell? ⟨w5.heap.size, j, none⟩ = some Y :=
  (only_far hg (b := w5.heap.size) j (by simp) hne).trans ((World.cell?_alloc_new (w := w5) cs t j).trans hx)
theorem far_box' {w5 w6 : World} {R : Nat} {cs : Array Value} {t : TypeId} {Y : Value} {j : Nat} (hg : (w5.alloc (.cells cs t)).drew.grownBy w6 (some R)) (hne : w5.heap.size ≠ R) (hx : cs[j]? = some Y) : w6.cell? ⟨w5.heap.size, j, none⟩ = some Y :=
  (only_far hg (b := w5.heap.size) j (by show _ < (w5.alloc (.cells cs t)).heap.size; simp) hne).trans ((World.cell?_alloc_new (w := w5) cs t j).trans hx)
set_option maxHeartbeats 40000000 in
theorem l20Text_any (w : World) (B R : Nat) (n : Int) (h : Rd w B R 0) (hn : n ≤ 1000000) (hn0 : 0 ≤ n) :
    Calls Try.prog 40 #[.pointer (some ⟨R, 0, none⟩), .int .i64 n] w (TextE w R) := by
  go_enter Try.func40, Try.ntmps40
  go_wp2_with fail
  refine (pick_any _ B R 0 3 h (by omega) (by omega)).mono ?_
  rintro r w1 ⟨d, rfl, d0, d1, hR1, hg1⟩
  have d2 : d ≤ 2 := by have := d1 (by omega); omega
  obtain ⟨d, rfl⟩ := Int.eq_ofNat_of_zero_le d0
  clear d0 d1
  have HM := l20Make_any (1 + d) (by omega) w1 B R 1 hR1 (by have := (mkQ_bd (d := 1 + d) (by omega)).2; omega)
  rw [show (((1 + d : Nat)) : Int) = 1 + (d : Int) by omega] at HM
  have hml := mkLen_bd (d := 1 + d) (by omega)
  have hmq := mkQ_bd (d := 1 + d) (by omega)
  obtain ⟨hmq0, hmq1⟩ := hmq
  go_wp2_with fail
  refine HM.mono ?_
  rintro r w2 ⟨e, v, q, rfl, he0, he1, hown, hq0, hq1, hR2, hg2⟩
  obtain ⟨A, c, hv, hsl⟩ := SL_own hown (by unfold maxLen; omega)
  subst hv
  have he15 : e.length ≤ 15 := by omega
  have HS := hide hsl
  clear hown hsl HM
  go_wp2_with fail
  refine (specExprText_any _ _ _ _ e (unhide HS).1 (by omega) (unhide HS).2.1 (unhide HS).2.2.1).mono ?_
  rintro r w3 ⟨X, rfl, hX, hb3⟩
  have hXs := TxR.small hX he15
  have hR3 := hR2.below hb3
  have hg3 := only_belowT (only_trans hg1 hg2) hb3
  clear hX HS
  go_wp2_with fail
  refine (odd_any _ B R q n hR3 (by omega) (by omega) hn0).mono ?_
  rintro r w4 ⟨o, q2, rfl, hq2, hq3, hR4, hg4⟩
  have hG4 := only_trans hg3 hg4
  rcases o with _ | _
  · go_wp2
    go_ret
    exact ⟨X, rfl, by omega, hG4⟩
  · go_wp2_with fail
    refine (pick_any _ B R q2 ((X.size : Int) + 1) hR4 (by omega) (by omega)).mono ?_
    rintro r w5 ⟨k, rfl, k0, k1, hR5, hg5⟩
    have k2 : k ≤ X.size := by have := k1 (by omega); omega
    obtain ⟨k, rfl⟩ := Int.eq_ofNat_of_zero_le k0
    have k3 : k ≤ X.size := by omega
    have hG5 := only_trans hG4 hg5
    clear k1 k0
    go_wp2_with fail
    have hR5' := hR5
    have hwk : IntKind.i64.wrap ((k : Int) + 1) = (k : Int) + 1 := IntWalk.i64_in _ (by omega)
    have z1 : ¬ 9223372036854775807 < X.size + 1 := by omega
    have z2 : ¬ 9223372036854775807 < 1 + X.size := by omega
    have z3 : ¬ 9223372036854775807 < k + 1 := by omega
    have z4 : ¬ 9223372036854775807 < k + 1 + (X.size - k) := by omega
    have z5 : ¬ 9223372036854775807 < k := by omega
    have z7 : ¬ 9223372036854775807 < k + (X.size - (k + 1)) := by omega
    have z6 : ¬ 9223372036854775807 < 1 + X.size + 1 := by omega
    by_cases hkm : (X.size : Int) ≤ (k : Int) + 1
    · have M1 := run_min1 (X.size : Int) ((k : Int) + 1) hkm
      go_region_with
      (first
          | (go_at_call 50; (with_reducible refine (pick_any _ B R (q2 + 1) 10 ?_ (by omega) (by omega)).mono ?_); (first | exact hR5' | exact hR5'.alloc _); rintro r w6 ⟨jj, rfl, j0, j1, hR6, hg6⟩; (have j2 : jj < 10 := j1 (by decide)); (obtain ⟨j, rfl⟩ := Int.eq_ofNat_of_zero_le j0); (obtain ⟨Y, hY, hx⟩ := pickT X (X.extract 0 k) k hXs (by rw [ByteArray.size_extract]; omega) j j2); (first | (have F1 := far_box hg6 (by have := hR5'.lt; omega) hx) | (have F1 := far_box' hg6 (by have := hR5'.lt; omega) hx) | skip); (have hlt6 := hR6.lt); clear j1))
      all_goals
        go_wp2
        go_ret
        first
          | exact ⟨Y, rfl, hY, only_trans hG5 (only_trans (only_drew (only_alloc (World.grownBy.refl w5 _) _)) hg6)⟩
          | exact ⟨Y, rfl, hY, only_trans hG5 (only_trans (only_alloc (only_drew (World.grownBy.refl w5 _)) _) hg6)⟩
          | exact ⟨Y, rfl, hY, only_trans hG5 (only_drew (only_alloc (only_trans (only_drew (World.grownBy.refl w5 _)) hg6) _))⟩
          | exact ⟨Y, rfl, hY, only_trans hG5 (only_alloc (only_trans (only_drew (World.grownBy.refl w5 _)) hg6) _)⟩
          | exact ⟨Y, rfl, hY, only_trans hG5 (only_trans (only_alloc (World.grownBy.refl w5 _) _) hg6)⟩
          | exact ⟨Y, rfl, hY, only_trans hG5 (only_alloc (only_trans (World.grownBy.refl w5 _) hg6) _)⟩
          | exact ⟨Y, rfl, hY, only_trans hG5 (only_alloc hg6 _)⟩
    · have hkn : (k : Int) + 1 < (X.size : Int) := by omega
      have M1 := run_min2 (X.size : Int) ((k : Int) + 1) hkn
      clear hkm
      have hkl : (k : Int) + 1 ≤ (X.size : Int) := by omega
      have hk2 : k + 1 ≤ X.size := by omega
      go_region_with
      (first
          | (go_at_call 50; (with_reducible refine (pick_any _ B R (q2 + 1) 10 ?_ (by omega) (by omega)).mono ?_); (first | exact hR5' | exact hR5'.alloc _); rintro r w6 ⟨jj, rfl, j0, j1, hR6, hg6⟩; (have j2 : jj < 10 := j1 (by decide)); (obtain ⟨j, rfl⟩ := Int.eq_ofNat_of_zero_le j0); (obtain ⟨Y, hY, hx⟩ := pickT X (X.extract 0 k ++ X.extract (k + 1) X.size) k hXs (by rw [ByteArray.size_append, ByteArray.size_extract, ByteArray.size_extract]; omega) j j2); (first | (have F1 := far_box hg6 (by have := hR5'.lt; omega) hx) | (have F1 := far_box' hg6 (by have := hR5'.lt; omega) hx) | skip); (have hlt6 := hR6.lt); clear j1))
      all_goals
        go_wp2
        go_ret
        first
          | exact ⟨Y, rfl, hY, only_trans hG5 (only_trans (only_drew (only_alloc (World.grownBy.refl w5 _) _)) hg6)⟩
          | exact ⟨Y, rfl, hY, only_trans hG5 (only_trans (only_alloc (only_drew (World.grownBy.refl w5 _)) _) hg6)⟩
          | exact ⟨Y, rfl, hY, only_trans hG5 (only_drew (only_alloc (only_trans (only_drew (World.grownBy.refl w5 _)) hg6) _))⟩
          | exact ⟨Y, rfl, hY, only_trans hG5 (only_alloc (only_trans (only_drew (World.grownBy.refl w5 _)) hg6) _)⟩
          | exact ⟨Y, rfl, hY, only_trans hG5 (only_trans (only_alloc (World.grownBy.refl w5 _) _) hg6)⟩
          | exact ⟨Y, rfl, hY, only_trans hG5 (only_alloc (only_trans (World.grownBy.refl w5 _) hg6) _)⟩
          | exact ⟨Y, rfl, hY, only_trans hG5 (only_alloc hg6 _)⟩
end Go.Proofs.Ytglffbkldffipaa
