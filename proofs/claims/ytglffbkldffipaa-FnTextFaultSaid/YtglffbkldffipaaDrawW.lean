/-
  The drawn words: some text of at most nine bytes.
-/
import Derived.Test.YtglffbkldffipaaDraw
namespace Go.Proofs.Ytglffbkldffipaa
open Go.RowKit
set_option linter.unusedVariables false
set_option maxRecDepth 100000

theorem only_drew {a w : World} {row : Option Nat} (h : a.grownBy w row) : a.grownBy w.drew row := ⟨h.os, h.tape, h.output, h.size, h.block⟩
theorem only_alloc {a w : World} {row : Option Nat} (h : a.grownBy w row) (o : Obj) : a.grownBy (w.alloc o) row :=
  ⟨h.os, h.tape, h.output, Nat.le_trans h.size (by simp), fun i hi hne => (Below.heap_alloc w o i (Nat.lt_of_lt_of_le hi h.size)).trans (h.block i hi hne)⟩
theorem only_trans {a b c : World} {row : Option Nat} (h : a.grownBy b row) (k : b.grownBy c row) : a.grownBy c row :=
  ⟨k.os.trans h.os, k.tape.trans h.tape, k.output.trans h.output, Nat.le_trans h.size k.size, fun i hi hne => (k.block i (Nat.lt_of_lt_of_le hi h.size) hne).trans (h.block i hi hne)⟩
theorem only_far {a w : World} {R : Nat} (h : a.grownBy w (some R)) {b : Nat} (o : Nat) (hlt : b < a.heap.size) (hne : b ≠ R) : w.cell? ⟨b, o, none⟩ = a.cell? ⟨b, o, none⟩ :=
  World.cell?_of_block (w := a) (h.block b hlt (by intro e; injection e; omega))
theorem Rd.lt {w : World} {B R : Nat} {p : Int} (h : Rd w B R p) : R < w.heap.size := by
  obtain ⟨_, _, A, n, c, hb, _⟩ := h
  exact (Array.getElem?_eq_some_iff.1 hb).1
theorem Rd.le {w : World} {B R : Nat} {p : Int} (h : Rd w B R p) : B ≤ R := h.1
theorem Rd.pos {w : World} {B R : Nat} {p : Int} (h : Rd w B R p) : 0 ≤ p := h.2.1
theorem Rd.keep {w w' : World} {B R : Nat} {p : Int} (h : Rd w B R p) (hk : ∀ i, i ≤ R → w'.heap[i]? = w.heap[i]?) : Rd w' B R p := by
  obtain ⟨hBR, hp0, A, n, c, hb, hc⟩ := h
  exact ⟨hBR, hp0, A, n, c, (hk R (Nat.le_refl _)).trans hb, hc.keep fun b o hlt => World.cell?_of_block (w := w) (hk b (by omega))⟩
theorem Rd.alloc {w : World} {B R : Nat} {p : Int} (h : Rd w B R p) (o : Obj) : Rd (w.alloc o) B R p :=
  h.keep fun i hi => Below.heap_alloc w o i (by have := h.lt; omega)
theorem Rd.below {w w' : World} {B R : Nat} {p : Int} (h : Rd w B R p) (hb : Below w.heap.size w w') : Rd w' B R p :=
  h.keep fun i hi => hb.block i (by have := h.lt; omega)

/-- What a drawn word leaves. -/
def WordD (w : World) (B R : Nat) (p : Int) (e : Ending) (w' : World) : Prop :=
  ∃ (s : ByteArray) (q : Int), e = .returned (.string s) ∧ s.size ≤ 9 ∧ p ≤ q ∧ q ≤ p + 20 ∧ Rd w' B R q ∧ w.grownBy w' (some R)

end Go.Proofs.Ytglffbkldffipaa
