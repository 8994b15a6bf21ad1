/-
  The operands of the last part: the walks of impl.operands and of spec.l2Start, spec.l2Split.
-/
import Derived.Test.YtcphbncgkemdoaaLParts
namespace Go.Proofs.Ytcphbncgkemdoaa
open Go.RowKit
set_option linter.unusedVariables false
set_option maxRecDepth 100000

theorem PS.front {w : World} {B : Nat} {A : Option Addr} {n : Nat} {x y : List Pt} (h : PS w B A n (x ++ y)) : PS w B A x.length x := by
  refine ⟨rfl, fun hn => ?_⟩
  have hl := h.1
  rw [List.length_append] at hl
  obtain ⟨b, off, e1, hb, hc⟩ := h.2 (by omega)
  refine ⟨b, off, e1, hb, fun i k l hi => hc i k l ?_⟩
  rw [List.getElem?_append_left (List.getElem?_eq_some_iff.1 hi).1]; exact hi
theorem PS.back {w : World} {B b off : Nat} {n : Nat} {x y : List Pt} (h : PS w B (some ⟨b, off, none⟩) n (x ++ y)) (hy : 0 < y.length) : PS w B (some ⟨b, off + x.length * 2, none⟩) y.length y := by
  have hl := h.1
  rw [List.length_append] at hl
  obtain ⟨b', off', e1, hb, hc⟩ := h.2 (by omega)
  injection e1 with e1
  injection e1 with e1 e2
  subst e1; subst e2
  refine ⟨rfl, fun hn => ⟨b, off + x.length * 2, rfl, hb, fun i k l hi => ?_⟩⟩
  have := hc (x.length + i) k l (by rw [List.getElem?_append_right (by omega)]; rw [show x.length + i - x.length = i from by omega]; exact hi)
  rw [Nat.add_mul, ← Nat.add_assoc] at this
  exact this
theorem PS.addr {w : World} {B : Nat} {A : Option Addr} {n : Nat} {e : List Pt} (h : PS w B A n e) (hn : 0 < n) : ∃ b off, A = some ⟨b, off, none⟩ ∧ b < B := by
  obtain ⟨b, off, e1, hb, -⟩ := h.2 hn
  exact ⟨b, off, e1, hb⟩
theorem PS.len {w : World} {B : Nat} {A : Option Addr} {n : Nat} {t : Ex} (h : PS w B A n t.flat) : n = t.sz := by rw [← h.1, Ex.flat_length]
/-- The parts of an operation. -/
theorem PS.un {w : World} {B : Nat} {A : Option Addr} {n : Nat} {k : Int} {a : Ex} (h : PS w B A n (Ex.flat (.un k a))) : PS w B A a.sz a.flat := by
  rw [← Ex.flat_length]; exact PS.front h
theorem PS.bin {w : World} {B b off : Nat} {n : Nat} {k : Int} {x y : Ex} (h : PS w B (some ⟨b, off, none⟩) n (Ex.flat (.bin k x y))) : PS w B (some ⟨b, off, none⟩) x.sz x.flat ∧ PS w B (some ⟨b, off + x.sz * 2, none⟩) y.sz y.flat := by
  have h1 := PS.front h
  refine ⟨?_, ?_⟩
  · rw [← Ex.flat_length]; exact PS.front h1
  · have := PS.back h1 (by rw [Ex.flat_length]; exact Ex.sz_pos y)
    rwa [Ex.flat_length, Ex.flat_length] at this
/-- The last part. -/
theorem PS.last {w : World} {B : Nat} {A : Option Addr} {n : Nat} {t : Ex} (h : PS w B A n t.flat) : ∃ b off m, A = some ⟨b, off, none⟩ ∧ b < B ∧ n = m + 1 ∧ (n : Int) - 1 = (m : Int) ∧ w.cell? ⟨b, off + m * 2, none⟩ = some (.int .i64 t.kind) ∧ w.cell? ⟨b, off + m * 2 + 1, none⟩ = some (.int .i64 t.lett) := by
  have hp := Ex.sz_pos t
  have hn := h.len
  obtain ⟨b, off, e1, hb, hc⟩ := h.2 (by omega)
  have hl := Ex.last_flat t
  rw [List.getLast?_eq_getElem?, Ex.flat_length, ← hn] at hl
  exact ⟨b, off, n - 1, e1, hb, by omega, by omega, hc _ _ _ hl⟩

/-- How many operands the last part needs. -/
def Ex.ar : Ex → Nat
  | .leaf _ _ => 0
  | .un _ _ => 1
  | .bin _ _ _ => 2
theorem Ex.pn_ar {t : Ex} (h : t.good) : pnI t.kind t.lett = t.ar := by
  cases t with
  | leaf k l => exact Ex.pn_leaf h
  | un k a => exact Ex.pn_un h.1
  | bin k a b => exact Ex.pn_bin h.1
theorem Ex.pv {t : Ex} (h : t.good) : pvB t.kind t.lett = true := by
  have := Ex.pn_ar h
  cases hv : pvB t.kind t.lett with
  | true => rfl
  | false => simp [pnI, hv] at this
theorem Ex.need_ar {t : Ex} (h : t.good) : needN t.kind = t.ar := by
  have := Ex.pn_ar h
  rw [pnI, if_pos (Ex.pv h)] at this; exact this

/-- The operands of an operation with two. -/
def Ex.left : Ex → Ex
  | .bin _ a _ => a
  | t => t
def Ex.right : Ex → Ex
  | .bin _ _ b => b
  | t => t
end Go.Proofs.Ytcphbncgkemdoaa
