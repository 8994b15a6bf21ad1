/-
  How an argument that is a slice of parts (of the laws' own type) opens.
-/
import Derived.Test.YtadibjjjdbglaaaOpen
import Derived.Test.YtadibjjjdbglaaaPs
import Derived.Deep.Slices
import Derived.Deep.Fields
import Derived.ChangeSame
namespace Go.Proofs.Ytadibjjjdbglaaa
open Go.ChangeShapes Go.WideShapes Go.ChangeAt Go.RowKit Go.Joins Go.Deep
set_option linter.unusedVariables false
set_option maxRecDepth 100000

/-- A slice of parts that came in. -/
def PartsIn (w : World) (A : Option Addr) (n c : Nat) (e : List Pt) : Prop := n ≤ c ∧ c ≤ maxLen ∧ PS w w.heap.size A n e

section
variable {H : Type} {enc : TypeId × Value → H} {w : World} {base : Nat} {spare : Nat → Bool} {held : Bool}
theorem cells_lp : Try.prog.cellsOf 66 = 2 := by kernel_rfl
theorem cells_int : Try.prog.cellsOf 3 = 1 := by kernel_rfl
theorem open_two {cs : List Value} {y : DataW H × List MemPlace} {fuel : Nat} (h : DataW.trod enc Try.prog w base spare held fuel 66 cs = some y) (hl : cs.length = 2) : ∃ k l : Int, cs = [.int .i64 k, .int .i64 l] := by
  match cs, hl with
  | [c0, c1], _ =>
    obtain ⟨ys, n, _, hx, _, hlen, hg⟩ := DataW.trod_struct Try.underlying66 h
    have h0 := hg 0 _ rfl
    have h1 := hg 1 _ rfl
    match ys, hlen with
    | [y0, y1], _ =>
      obtain ⟨a, e0, -, -⟩ := DataW.trod_int Try.underlying3 (by simpa using h0)
      obtain ⟨b, e1, -, -⟩ := DataW.trod_int Try.underlying3 (by simpa using h1)
      have e0' : c0 = .int .i64 a := by simpa [cells_int] using e0
      have e1' : c1 = .int .i64 b := by simpa [cells_int] using e1
      subst e0' e1'
      exact ⟨a, b, rfl⟩
theorem open_lparts {r : Reach} {b0 : Nat} {v : Value} {d : DataW H} {p : List MemPlace}
    (hv : Value.okWide Try.prog w r b0 33 v) (h : DataW.Trod enc Try.prog w base spare held 33 v d p) :
    ∃ (A : Option Addr) (n c : Nat) (e : List Pt), v = .slice A n c ∧ PartsIn w A n c e := by
  obtain ⟨A, n, c, rfl⟩ := okWide_slice Try.underlying33 hv
  refine ⟨A, n, c, ?_⟩
  obtain ⟨fuel, hf⟩ := h
  rcases open_slice Try.underlying33 hf with ⟨hcs, _⟩ | ⟨a, len, cap, m, k, D, Pl, hcs, hb, hl, hm, hmm, hx, hi⟩
  · simp [Value.cells] at hcs
    obtain ⟨rfl, rfl, rfl⟩ := hcs
    exact ⟨[], rfl, Nat.le_refl _, by simp [maxLen], PS.nil⟩
  · simp [Value.cells] at hcs
    obtain ⟨rfl, rfl, rfl⟩ := hcs
    have key : ∀ i, ∃ q : Pt, i < n → w.cell? (a.add (i * 2)) = some (.int .i64 q.1) ∧ w.cell? (a.add (i * 2 + 1)) = some (.int .i64 q.2) := by
      intro i
      by_cases hlt : i < n
      · have him : i < m := by rw [hmm]; split <;> omega
        obtain ⟨cs', hc, ht'⟩ := hi i him
        rw [cells_lp] at hc
        obtain ⟨_, hcl, hat⟩ := World.cells?_some hc
        obtain ⟨k', l', rfl⟩ := open_two ht' hcl
        refine ⟨(k', l'), fun _ => ⟨?_, ?_⟩⟩
        · have := hat 0 (by omega)
          rw [Go.Deep.add_add] at this
          simpa using this
        · have := hat 1 (by omega)
          rw [Go.Deep.add_add] at this
          simpa using this
      · exact ⟨(0, 0), fun h => absurd h hlt⟩
    let q : Nat → Pt := fun i => Classical.choose (key i)
    have hq : ∀ i, i < n → w.cell? (a.add (i * 2)) = some (.int .i64 (q i).1) ∧ w.cell? (a.add (i * 2 + 1)) = some (.int .i64 (q i).2) := fun i => Classical.choose_spec (key i)
    refine ⟨(List.range n).map q, rfl, hl, hm, by simp, fun hn => ?_⟩
    obtain ⟨b, off, spot⟩ := a
    have h0 := (hq 0 hn).1
    have hspot : spot = none := by simpa [Addr.add] using World.cell?_spot h0
    subst hspot
    have hadd : ∀ x, (⟨b, off, none⟩ : Addr).add x = ⟨b, off + x, none⟩ := fun x => by unfold Addr.add; split <;> simp_all
    refine ⟨b, off, rfl, by have := cell_lt h0; rw [hadd] at this; exact this, fun i k' l' hi' => ?_⟩
    obtain ⟨hlt, he⟩ := List.getElem?_eq_some_iff.1 hi'
    have hlt' : i < n := by simpa using hlt
    have he' : q i = (k', l') := by simpa using he
    obtain ⟨g1, g2⟩ := hq i hlt'
    rw [hadd, he'] at g1 g2
    exact ⟨g1, by rw [← Nat.add_assoc] at g2; exact g2⟩
end
end Go.Proofs.Ytadibjjjdbglaaa
