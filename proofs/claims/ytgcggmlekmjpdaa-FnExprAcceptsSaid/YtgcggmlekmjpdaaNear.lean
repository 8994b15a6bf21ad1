/-
  The drawn expressions with a word that they perhaps accept; numbers of letters.
-/
import Derived.Test.YtgcggmlekmjpdaaDrawE2
import Derived.Test.YtgcggmlekmjpdaaDrawW
import Derived.Test.YtgcggmlekmjpdaaWords2
import Derived.Test.YtgcggmlekmjpdaaTab3
import Derived.Test.YtgcggmlekmjpdaaDrawL
namespace Go.Proofs.Ytgcggmlekmjpdaa
open Go.RowKit
set_option linter.unusedVariables false
set_option maxRecDepth 100000

/-- A slice of parts apart from the reader's block stays as the reader goes on. -/
theorem SL.reader {w w' : World} {A : Option Addr} {n c R : Nat} {e : List Pt} (h : SL w w.heap.size A n c e) (hne : ∀ b o, A = some ⟨b, o, none⟩ → b ≠ R) (hg : w.grownBy w' (some R)) : SL w' w'.heap.size A n c e := by
  obtain ⟨⟨hl, hp⟩, h2⟩ := h
  refine ⟨⟨hl, fun hn => ?_⟩, h2⟩
  obtain ⟨b, off, e1, hb, hc⟩ := hp hn
  have hbR := hne b off e1
  have hk : ∀ o, w'.cell? ⟨b, o, none⟩ = w.cell? ⟨b, o, none⟩ := fun o => only_far hg o hb hbR
  exact ⟨b, off, e1, Nat.lt_of_lt_of_le hb hg.size, fun i k l hi => ⟨(hk _).trans (hc i k l hi).1, (hk _).trans (hc i k l hi).2⟩⟩
theorem only_below {a w w' : World} {R : Nat} (h : a.grownBy w (some R)) (hb : Below w.heap.size w w') : a.grownBy w' (some R) :=
  ⟨hb.os.trans h.os, hb.tape.trans h.tape, hb.output.trans h.output, Nat.le_trans h.size hb.size, fun i hi hne => (hb.block i (Nat.lt_of_lt_of_le hi h.size)).trans (h.block i hi hne)⟩
theorem wat_small (j : Int) (h : inB j 0 9840 = true) : (⟨(wat j).toArray⟩ : ByteArray).size ≤ 8 := by
  obtain ⟨h1, h2⟩ := inB_true.1 h
  have := (wordB_iff.1 (wat_spec h1 h2).1).2
  show (wat j).toArray.size ≤ 8
  simpa using this
/-- What a drawn word leaves. -/
def NearD (w : World) (B R : Nat) (r : Ending) (w' : World) : Prop := ∃ s : ByteArray, r = .returned (.string s) ∧ s.size ≤ 9 ∧ w.grownBy w' (some R)
set_option maxHeartbeats 2000000 in
theorem l20Near_any (w : World) (B R : Nat) (p : Int) (A : Option Addr) (n c : Nat) (e : List Pt) (h : Rd w B R p) (hp : p ≤ 10000000) (hs : SL w w.heap.size A n c e) (hne : ∀ b o, A = some ⟨b, o, none⟩ → b ≠ R) (hn : n ≤ 100) :
    Calls Try.prog 55 #[.pointer (some ⟨R, 0, none⟩), .slice A n c, .int .i64 14] w (NearD w B R) := by
  have HS0 := hide hs
  clear hs
  go_enter Try.func55, Try.ntmps55
  go_wp2_with fail
  refine (l20Word_any w B R p 14 h (by omega) (by omega) (by omega)).mono ?_
  rintro r w1 ⟨s0, q, rfl, hs0, hq0, hq1, hR1, hg1⟩
  have HS1 := hide ((unhide HS0).reader hne hg1)
  go_wp2_with fail
  refine (pick_any _ B R q 2 hR1 (by omega) (by omega)).mono ?_
  rintro r w2 ⟨k, rfl, k0, k1, hR2, hg2⟩
  have k2 := k1 (by omega)
  clear k1
  have hg12 := only_trans hg1 hg2
  have HS2 := hide ((unhide HS1).reader hne hg2)
  by_cases hk : k = 0
  · subst hk
    rcases hv : exprB e
    · go_wp2_with (go_at_call 25; refine (specExprValid_any _ _ _ _ e (unhide HS2).1 (by omega)).mono ?_; rintro r w3 ⟨rfl, hb3⟩; rw [hv])
      go_ret
      exact ⟨s0, rfl, hs0, only_below hg12 hb3⟩
    · go_wp2_with (go_at_call 25; refine (specExprValid_any _ _ _ _ e (unhide HS2).1 (by omega)).mono ?_; rintro r w3 ⟨rfl, hb3⟩; rw [hv])
      refine (pick_any _ B R (q + 1) 30 (hR2.below hb3) (by omega) (by omega)).mono ?_
      rintro r w4 ⟨k, rfl, k0, k1, hR4, hg4⟩
      have k2 := k1 (by omega)
      clear k1
      have hg14 := only_trans (only_below hg12 hb3) hg4
      have HS4 := hide (((unhide HS2).up hb3).reader hne hg4)
      go_wp2
      go_loopw [8] (fun kv wr => ∃ k : Int, 0 ≤ k ∧ k ≤ 364 ∧ kv = .int .i64 k ∧ Below w4.heap.size w4 wr) (fun kv _ => (364 - intOf kv).toNat)
      case atStart => exact ⟨k, k0, by omega, rfl, Below.refl _ _⟩
      case round =>
        obtain ⟨j, j0, j1, rfl, hb⟩ := hrel
        by_cases hlt : j < 364
        · have hin : inB j 0 9840 = true := inB_true.2 ⟨by omega, by omega⟩
          have hwat : watV j = .tuple #[.string ⟨(wat j).toArray⟩, .bool true] := by rw [watV, if_pos hin]
          have hwl := wat_small j hin
          obtain ⟨X, hX⟩ : ∃ X : ByteArray, (⟨(wat j).toArray⟩ : ByteArray) = X := ⟨_, rfl⟩
          rw [hX] at hwat hwl
          clear hX
          go_wp2_with (go_at_call 46; refine (specWordAt_any j _ (by omega)).mono ?_; rintro r w5 ⟨rfl, hb5⟩; rw [hwat])
          refine (specExprAccepts_any _ _ _ _ e X (((unhide HS4).up hb).up hb5).1 (by omega) (by unfold maxLen; omega)).mono ?_
          rintro r w6 ⟨bb, rfl, -, hb6⟩
          have hbb := hb.trans ((hb5.trans (hb6.mono hb5.size)).mono hb.size)
          cases bb
          · go_wp2
            go_roundw
            case rel => exact ⟨j + 1, by omega, by omega, by go_num, hbb⟩
            case measure => simp [intOf]; omega
          · go_wp2
            go_ret
            exact ⟨X, rfl, by omega, only_below hg14 hbb⟩
        · go_wp2
          go_ret
          exact ⟨s0, rfl, hs0, only_below hg14 hb⟩
  · have hk' : (k == 0) = false := by simpa using hk
    go_wp2
    go_ret
    exact ⟨s0, rfl, hs0, hg12⟩
/-- What a draw of an expression and a word leaves. -/
def DrawED (w : World) (r : Ending) (w' : World) : Prop :=
  ∃ (e : List Pt) (A : Option Addr) (n c : Nat) (s : ByteArray), r = .returned (.tuple #[.slice A n c, .string s]) ∧ (n ≤ 16 ∨ n = 61) ∧ SL w' w'.heap.size A n c e ∧ s.size ≤ 9 ∧ Below w.heap.size w w'
theorem dExprAccepts_any (w : World) (n c : Nat) (A : Option Addr) (B : Nat) (h : CodeB w B A n) (hB : B ≤ w.heap.size) (hnc : n ≤ c) (hn : n ≤ 1048576) :
    Calls Try.prog 29 #[.slice A n c] w (DrawED w) := by
  go_enter Try.func29, Try.ntmps29
  go_wp2_with fail
  refine (l20Open_any _ B n c A h hB hnc hn).mono ?_
  rintro r w1 ⟨R, rfl, hR, hRd, hb⟩
  go_wp2_with fail
  refine (l20Expr_any _ B R 0 14 hRd (by omega) (by omega) (by omega)).mono ?_
  rintro r w2 ⟨e, A2, c2, q, rfl, hl, hSL, ⟨-, hne⟩, hq, hRd2, hg⟩
  go_wp2_with fail
  refine (l20Near_any _ B R q A2 _ c2 e hRd2 (by omega) hSL hne (by omega)).mono ?_
  rintro r w3 ⟨s, rfl, hs, hg3⟩
  have hSL3 := hSL.reader hne hg3
  go_wp2
  go_ret2
  exact ⟨e, A2, _, c2, s, rfl, hl, hSL3, hs, below_only hb (only_trans hg hg3) hR⟩
end Go.Proofs.Ytgcggmlekmjpdaa
