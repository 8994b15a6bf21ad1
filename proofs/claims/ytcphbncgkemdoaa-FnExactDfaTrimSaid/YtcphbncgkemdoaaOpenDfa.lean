/-
  How an argument that is an automaton (of the laws' own type) opens.
-/
import Derived.Test.YtcphbncgkemdoaaOpen
import Derived.Test.YtcphbncgkemdoaaDfa2
import Derived.Deep.Slices
import Derived.Deep.Fields
import Derived.ChangeSame
import Derived.Lib.SmallJoins
namespace Go.Proofs.Ytcphbncgkemdoaa
open Go.ChangeShapes Go.WideShapes Go.ChangeAt Go.RowKit Go.Joins Go.Deep
set_option linter.unusedVariables false
set_option maxRecDepth 100000

section
variable {H : Type} {enc : TypeId × Value → H} {w : World} {base : Nat} {spare : Nat → Bool} {held : Bool}
/-- A slice of one-cell elements opens. -/
theorem open_cells {α : Type} [Inhabited α] (f : α → Value) (G : α → Prop) {S e : TypeId} (hS : Try.prog.underlying S = some (.slice e)) (he : Try.prog.cellsOf e = 1)
    (hel : ∀ (fuel : Nat) (x : Value) (y : DataW H × List MemPlace), DataW.trod enc Try.prog w base spare held fuel e [x] = some y → ∃ q, x = f q ∧ G q)
    {fuel : Nat} {v : Value} {y : DataW H × List MemPlace} (h : DataW.trod enc Try.prog w base spare held fuel S [v] = some y) :
    ∃ (A : Option Addr) (n c : Nat) (qs : List α), v = .slice A n c ∧ n ≤ c ∧ c ≤ maxLen ∧ VS w w.heap.size A n (qs.map f) ∧ ∀ q ∈ qs, G q := by
  rcases open_slice hS h with ⟨hcs, _⟩ | ⟨a, n, c, m, k, D, Pl, hcs, hb, hl, hm, hmm, hx, hi⟩
  · injection hcs with hcs _
    exact ⟨none, 0, 0, [], hcs, Nat.le_refl _, Nat.zero_le _, ⟨rfl, fun h => absurd h (by omega)⟩, fun q hq => nomatch hq⟩
  · injection hcs with hcs _
    have key : ∀ i, ∃ q : α, i < n → w.cell? (a.add i) = some (f q) ∧ G q := by
      intro i
      by_cases hlt : i < n
      · have him : i < m := by rw [hmm]; split <;> omega
        obtain ⟨cs', hc, ht'⟩ := hi i him
        rw [he, Nat.mul_one] at hc
        obtain ⟨_, hcl, hat⟩ := World.cells?_some hc
        match cs', hcl with
        | [x], _ =>
          obtain ⟨q, rfl, hq⟩ := hel _ _ _ ht'
          refine ⟨q, fun _ => ⟨?_, hq⟩⟩
          have := hat 0 (by omega)
          rw [Go.Deep.add_add] at this
          simpa using this
      · exact ⟨default, fun h => absurd h hlt⟩
    let q : Nat → α := fun i => Classical.choose (key i)
    have hq : ∀ i, i < n → w.cell? (a.add i) = some (f (q i)) ∧ G (q i) := fun i => Classical.choose_spec (key i)
    refine ⟨some a, n, c, (List.range n).map q, hcs, hl, hm, ⟨by simp, fun hn => ?_⟩, ?_⟩
    · obtain ⟨b, off, spot⟩ := a
      have h0 := (hq 0 hn).1
      have hspot : spot = none := by simpa [Addr.add] using World.cell?_spot h0
      subst hspot
      have hadd : ∀ x, (⟨b, off, none⟩ : Addr).add x = ⟨b, off + x, none⟩ := fun x => by unfold Addr.add; split <;> simp_all
      refine ⟨b, off, rfl, by have := cell_lt h0; rw [hadd] at this; exact this, fun i v' hi' => ?_⟩
      obtain ⟨hlt, he'⟩ := List.getElem?_eq_some_iff.1 hi'
      have hlt' : i < n := by simpa using hlt
      have he'' : f (q i) = v' := by simpa using he'
      obtain ⟨g1, -⟩ := hq i hlt'
      rw [hadd, he''] at g1
      exact g1
    · intro x hx
      obtain ⟨i, hi, rfl⟩ := List.mem_map.1 hx
      exact (hq i (List.mem_range.1 hi)).2
theorem cellsI : Try.prog.cellsOf 3 = 1 := by kernel_rfl
theorem cellsB : Try.prog.cellsOf 4 = 1 := by kernel_rfl
theorem cellsS : Try.prog.cellsOf 55 = 1 := by kernel_rfl
theorem cellsD : Try.prog.cellsOf 47 = 2 := by kernel_rfl
theorem open_ints' {fuel : Nat} {v : Value} {y : DataW H × List MemPlace} (h : DataW.trod enc Try.prog w base spare held fuel 55 [v] = some y) :
    ∃ (A : Option Addr) (n c : Nat) (zs : List Int), v = .slice A n c ∧ n ≤ c ∧ c ≤ maxLen ∧ VS w w.heap.size A n (zs.map (Value.int .i64)) := by
  obtain ⟨A, n, c, zs, e1, e2, e3, e4, -⟩ := open_cells (Value.int .i64) (fun _ => True) Try.underlying55 cellsI (fun fuel x y hx => by
    obtain ⟨a, e, -, -⟩ := DataW.trod_int Try.underlying3 hx
    injection e with e
    exact ⟨a, e, trivial⟩) h
  exact ⟨A, n, c, zs, e1, e2, e3, e4⟩
theorem open_bools {fuel : Nat} {v : Value} {y : DataW H × List MemPlace} (h : DataW.trod enc Try.prog w base spare held fuel 45 [v] = some y) :
    ∃ (A : Option Addr) (n c : Nat) (bs : List Bool), v = .slice A n c ∧ n ≤ c ∧ c ≤ maxLen ∧ VS w w.heap.size A n (bs.map Value.bool) := by
  obtain ⟨A, n, c, zs, e1, e2, e3, e4, -⟩ := open_cells Value.bool (fun _ => True) Try.underlying45 cellsB (fun fuel x y hx => by
    obtain ⟨a, e, -⟩ := DataW.trod_bool Try.underlying4 hx
    injection e with e
    exact ⟨a, e, trivial⟩) h
  exact ⟨A, n, c, zs, e1, e2, e3, e4⟩
theorem open_rows {fuel : Nat} {v : Value} {y : DataW H × List MemPlace} (h : DataW.trod enc Try.prog w base spare held fuel 44 [v] = some y) :
    ∃ (A : Option Addr) (n c : Nat) (rs : List RowV), v = .slice A n c ∧ n ≤ c ∧ c ≤ maxLen ∧ RS w w.heap.size A n rs := by
  obtain ⟨A, n, c, rs, e1, e2, e3, e4, e5⟩ := open_cells slV (fun r => VS w w.heap.size r.1 r.2.1 (r.2.2.2.map (Value.int .i64)) ∧ r.2.1 ≤ r.2.2.1 ∧ r.2.2.1 ≤ maxLen) Try.underlying44 cellsS (fun fuel x y hx => by
    obtain ⟨A, n, c, zs, e1, e2, e3, e4⟩ := open_ints' hx
    exact ⟨(A, n, c, zs), e1, e4, e2, e3⟩) h
  exact ⟨A, n, c, rs, e1, e2, e3, e4, e5⟩
/-- An automaton that came in. -/
def DfaIn (w : World) (A : Option Addr) (n : Nat) (A2 : Option Addr) (m : Nat) (rs : List RowV) (bs : List Bool) : Prop :=
  n ≤ maxLen ∧ m ≤ maxLen ∧ (∀ r ∈ rs, r.2.1 ≤ maxLen) ∧ DfaS w A n A2 m rs bs
theorem open_dfa {r : Reach} {b0 : Nat} {v : Value} {d : DataW H} {p : List MemPlace}
    (hv : Value.okWide Try.prog w r b0 47 v) (h : DataW.Trod enc Try.prog w base spare held 47 v d p) :
    ∃ (A : Option Addr) (n c : Nat) (A2 : Option Addr) (m c2 : Nat) (rs : List RowV) (bs : List Bool), v = dfaV A n c A2 m c2 ∧ DfaIn w A n A2 m rs bs := by
  obtain ⟨c0, c1, y0, y1, k, rfl, -, -, h0, h1⟩ := open_agg2 Try.underlying47 (by kernel_rfl) cellsD hv h
  obtain ⟨A, n, c, rs, rfl, e2, e3, e4⟩ := open_rows h0
  obtain ⟨A2, m, c2, bs, rfl, f2, f3, f4⟩ := open_bools h1
  exact ⟨A, n, c, A2, m, c2, rs, bs, rfl, by omega, by omega, fun r hr => by have := (e4.2 r hr).2; omega, e4, f4⟩
end
end Go.Proofs.Ytcphbncgkemdoaa
