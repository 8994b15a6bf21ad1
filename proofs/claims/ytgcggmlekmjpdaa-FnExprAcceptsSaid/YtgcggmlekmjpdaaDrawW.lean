/-
  The drawn words: some text of at most nine bytes.
-/
import Derived.Test.YtgcggmlekmjpdaaDraw
namespace Go.Proofs.Ytgcggmlekmjpdaa
open Go.RowKit
set_option linter.unusedVariables false
set_option maxRecDepth 100000

theorem only_drew {a w : World} {row : Option Nat} (h : a.grownBy w row) : a.grownBy w.drew row := ⟨h.os, h.tape, h.output, h.size, h.block⟩
theorem only_alloc {a w : World} {row : Option Nat} (h : a.grownBy w row) (o : Obj) : a.grownBy (w.alloc o) row :=
  ⟨h.os, h.tape, h.output, Nat.le_trans h.size (by simp), fun i hi hne => (Below.heap_alloc w o i (Nat.lt_of_lt_of_le hi h.size)).trans (h.block i hi hne)⟩
theorem only_trans {a b c : World} {row : Option Nat} (h : a.grownBy b row) (k : b.grownBy c row) : a.grownBy c row :=
  ⟨k.os.trans h.os, k.tape.trans h.tape, k.output.trans h.output, Nat.le_trans h.size k.size, fun i hi hne => (k.block i (Nat.lt_of_lt_of_le hi h.size) hne).trans (h.block i hi hne)⟩
theorem only_far {a w : World} {R : Nat} (h : a.grownBy w (some R)) {b : Nat} (o : Nat) (hlt : b < a.heap.size) (hne : b ≠ R) : w.cell? ⟨b, o, none⟩ = a.cell? ⟨b, o, none⟩ :=
  World.cell?_of_block (w := a) (h.block b hlt (by intro e; injection e; omega))
theorem Rd.lt {w : World} {B R : Nat} {p : Int} (h : Rd w B R p) : R < w.heap.size := by
  obtain ⟨_, _, A, n, c, hb, _⟩ := h
  exact (Array.getElem?_eq_some_iff.1 hb).1
theorem Rd.le {w : World} {B R : Nat} {p : Int} (h : Rd w B R p) : B ≤ R := h.1
theorem Rd.pos {w : World} {B R : Nat} {p : Int} (h : Rd w B R p) : 0 ≤ p := h.2.1
theorem Rd.keep {w w' : World} {B R : Nat} {p : Int} (h : Rd w B R p) (hk : ∀ i, i ≤ R → w'.heap[i]? = w.heap[i]?) : Rd w' B R p := by
  obtain ⟨hBR, hp0, A, n, c, hb, hc⟩ := h
  exact ⟨hBR, hp0, A, n, c, (hk R (Nat.le_refl _)).trans hb, hc.keep fun b o hlt => World.cell?_of_block (w := w) (hk b (by omega))⟩
theorem Rd.alloc {w : World} {B R : Nat} {p : Int} (h : Rd w B R p) (o : Obj) : Rd (w.alloc o) B R p :=
  h.keep fun i hi => Below.heap_alloc w o i (by have := h.lt; omega)
theorem Rd.below {w w' : World} {B R : Nat} {p : Int} (h : Rd w B R p) (hb : Below w.heap.size w w') : Rd w' B R p :=
  h.keep fun i hi => hb.block i (by have := h.lt; omega)

/-- What a drawn word leaves. -/
def WordD (w : World) (B R : Nat) (p : Int) (e : Ending) (w' : World) : Prop :=
  ∃ (s : ByteArray) (q : Int), e = .returned (.string s) ∧ s.size ≤ 9 ∧ p ≤ q ∧ q ≤ p + 20 ∧ Rd w' B R q ∧ w.grownBy w' (some R)

set_option maxHeartbeats 1000000 in
theorem l20Word_any (w : World) (B R : Nat) (p n : Int) (h : Rd w B R p) (hp : p ≤ 100000000000) (hn : n ≤ 1000000000000) (hn0 : 0 ≤ n) :
    Calls Try.prog 70 #[.pointer (some ⟨R, 0, none⟩), .int .i64 n] w (WordD w B R p) := by
  go_enter Try.func70, Try.ntmps70
  go_wp2_with (go_at_call 65; refine (pick_any _ B R p 9 h (by omega) (by omega)).mono ?_; rintro e w1 ⟨k9, rfl, k0, k1, hR1, hg1⟩; have k2 := k1 (by omega); clear k1)
  go_loopw [5, 6] (fun s i wr => ∃ (k : Int) (b : ByteArray) (q : Int), 0 ≤ k ∧ k ≤ k9 ∧ i = .int .i64 k ∧ s = .string b ∧ (b.size : Int) ≤ 8 - k ∧ p ≤ q ∧ q ≤ p + 10 - k ∧ Rd wr B R q ∧ w.grownBy wr (some R)) (fun _ i _ => (intOf i).toNat)
  case atStart => exact ⟨k9, ⟨#[]⟩, p + 1, k0, by omega, rfl, rfl, by show ((0 : Nat) : Int) ≤ _; omega, by omega, by omega, hR1, hg1⟩
  case round =>
    obtain ⟨k, b, q, hk0, hk9, rfl, rfl, hbs, hq0, hq1, hR, hg⟩ := hrel
    by_cases hlt : 0 < k
    · go_wp2_with (go_at_call 65; refine (pick_any _ B R q 3 hR (by omega) (by omega)).mono ?_; rintro e w2 ⟨j, rfl, j0, j1, hR2, hg2⟩; have j2 := j1 (by omega); clear j1; have hcv := conv_one w2 (97 + j) (by omega) (by omega))
      go_roundw
      case rel =>
        refine ⟨k - 1, _, q + 1, by omega, by omega, rfl, rfl, ?_, by omega, by omega, hR2.alloc _, only_alloc (only_trans hg hg2) _⟩
        have e : (b ++ (⟨#[UInt8.ofNat (97 + j).toNat]⟩ : ByteArray)).size = b.size + 1 := by rw [ByteArray.size_append]; rfl
        rw [e]; omega
      case measure => simp [intOf]; omega
    · have hk : k = 0 := by omega
      subst hk
      have hb8 : b.size ≤ 8 := by omega
      go_wp2_with (go_at_call 66; refine (odd_any _ B R q n hR (by omega) hn hn0).mono ?_; rintro e w2 ⟨o, q2, rfl, hq2, hq3, hR2, hg2⟩; cases o)
      · go_ret
        exact ⟨b, q2, rfl, by omega, by omega, by omega, hR2, only_trans hg hg2⟩
      · go_wp2_with fail
        refine (pick_any _ B R q2 3 (hR2.alloc _) (by omega) (by omega)).mono ?_
        rintro e w3 ⟨j, rfl, j0, j1, hR3, hg3⟩
        have j2 := j1 (by omega)
        clear j1
        have hlt2 := hR2.lt
        have hfar := fun o => only_far hg3 (b := w2.heap.size) o (by simp) (by omega)
        rcases (show j = 0 ∨ j = 1 ∨ j = 2 by omega) with rfl | rfl | rfl
        all_goals
          go_wp2
          go_ret
          refine ⟨_, q2 + 1, rfl, ?_, by omega, by omega, hR3, only_trans (only_alloc (only_trans hg hg2) _) hg3⟩
        · rw [ByteArray.size_append]; show b.size + 1 ≤ 9; omega
        · rw [ByteArray.size_append]; show b.size + 1 ≤ 9; omega
        · decide
end Go.Proofs.Ytgcggmlekmjpdaa
