/-
  How an argument that is an automaton with moves (of the laws' own type) opens.
-/
import Derived.Test.YtcphbncgkemdoaaOpenDfa
import Derived.Test.YtcphbncgkemdoaaNfa
namespace Go.Proofs.Ytcphbncgkemdoaa
open Go.ChangeShapes Go.WideShapes Go.ChangeAt Go.RowKit Go.Joins Go.Deep
set_option linter.unusedVariables false
set_option maxRecDepth 100000

section
variable {H : Type} {enc : TypeId × Value → H} {w : World} {base : Nat} {spare : Nat → Bool} {held : Bool}
theorem cells_lmv : Try.prog.cellsOf 99 = 3 := by kernel_rfl
theorem cells_lnfa : Try.prog.cellsOf 57 = 4 := by kernel_rfl
theorem open_three {cs : List Value} {y : DataW H × List MemPlace} {fuel : Nat} (h : DataW.trod enc Try.prog w base spare held fuel 99 cs = some y) (hl : cs.length = 3) : ∃ k l m : Int, cs = [.int .i64 k, .int .i64 l, .int .i64 m] := by
  match cs, hl with
  | [c0, c1, c2], _ =>
    obtain ⟨ys, n, _, hx, _, hlen, hg⟩ := DataW.trod_struct Try.underlying99 h
    have h0 := hg 0 _ rfl
    have h1 := hg 1 _ rfl
    have h2 := hg 2 _ rfl
    match ys, hlen with
    | [y0, y1, y2], _ =>
      obtain ⟨a, e0, -, -⟩ := DataW.trod_int Try.underlying3 (by simpa using h0)
      obtain ⟨b, e1, -, -⟩ := DataW.trod_int Try.underlying3 (by simpa using h1)
      obtain ⟨c, e2, -, -⟩ := DataW.trod_int Try.underlying3 (by simpa using h2)
      have e0' : c0 = .int .i64 a := by simpa [cellsI] using e0
      have e1' : c1 = .int .i64 b := by simpa [cellsI] using e1
      have e2' : c2 = .int .i64 c := by simpa [cellsI] using e2
      subst e0' e1' e2'
      exact ⟨a, b, c, rfl⟩
theorem open_moves {fuel : Nat} {v : Value} {y : DataW H × List MemPlace} (h : DataW.trod enc Try.prog w base spare held fuel 54 [v] = some y) :
    ∃ (A : Option Addr) (n c : Nat) (e : List Mv), v = .slice A n c ∧ n ≤ c ∧ c ≤ maxLen ∧ MS w w.heap.size A n e := by
  rcases open_slice Try.underlying54 h with ⟨hcs, _⟩ | ⟨a, n, c, m, k, D, Pl, hcs, hb, hl, hm, hmm, hx, hi⟩
  · injection hcs with hcs _
    exact ⟨none, 0, 0, [], hcs, Nat.le_refl _, Nat.zero_le _, ⟨rfl, fun h => absurd h (by omega)⟩⟩
  · injection hcs with hcs _
    have key : ∀ i, ∃ q : Mv, i < n → w.cell? (a.add (i * 3)) = some (.int .i64 q.1) ∧ w.cell? (a.add (i * 3 + 1)) = some (.int .i64 q.2.1) ∧ w.cell? (a.add (i * 3 + 2)) = some (.int .i64 q.2.2) := by
      intro i
      by_cases hlt : i < n
      · have him : i < m := by rw [hmm]; split <;> omega
        obtain ⟨cs', hc, ht'⟩ := hi i him
        rw [cells_lmv] at hc
        obtain ⟨_, hcl, hat⟩ := World.cells?_some hc
        obtain ⟨k', l', m', rfl⟩ := open_three ht' hcl
        refine ⟨(k', l', m'), fun _ => ⟨?_, ?_, ?_⟩⟩
        · have := hat 0 (by omega)
          rw [Go.Deep.add_add] at this
          simpa using this
        · have := hat 1 (by omega)
          rw [Go.Deep.add_add] at this
          simpa using this
        · have := hat 2 (by omega)
          rw [Go.Deep.add_add] at this
          simpa using this
      · exact ⟨(0, 0, 0), fun h => absurd h hlt⟩
    let q : Nat → Mv := fun i => Classical.choose (key i)
    have hq : ∀ i, i < n → w.cell? (a.add (i * 3)) = some (.int .i64 (q i).1) ∧ w.cell? (a.add (i * 3 + 1)) = some (.int .i64 (q i).2.1) ∧ w.cell? (a.add (i * 3 + 2)) = some (.int .i64 (q i).2.2) := fun i => Classical.choose_spec (key i)
    refine ⟨some a, n, c, (List.range n).map q, hcs, hl, hm, ⟨by simp, fun hn => ?_⟩⟩
    obtain ⟨b, off, spot⟩ := a
    have h0 := (hq 0 hn).1
    have hspot : spot = none := by simpa [Addr.add] using World.cell?_spot h0
    subst hspot
    have hadd : ∀ x, (⟨b, off, none⟩ : Addr).add x = ⟨b, off + x, none⟩ := fun x => by unfold Addr.add; split <;> simp_all
    refine ⟨b, off, rfl, by have := cell_lt h0; rw [hadd] at this; exact this, fun i x' y' z' hi' => ?_⟩
    obtain ⟨hlt, he⟩ := List.getElem?_eq_some_iff.1 hi'
    have hlt' : i < n := by simpa using hlt
    have he' : q i = (x', y', z') := by simpa using he
    obtain ⟨g1, g2, g3⟩ := hq i hlt'
    rw [hadd, he'] at g1 g2 g3
    exact ⟨g1, by rw [← Nat.add_assoc] at g2; exact g2, by rw [← Nat.add_assoc] at g3; exact g3⟩
/-- An automaton with moves that came in. -/
def NfaIn (w : World) (A : Option Addr) (n : Nat) (A2 : Option Addr) (m : Nat) (A3 : Option Addr) (k : Nat) (e : List Mv) (fs es : List Int) : Prop :=
  n ≤ maxLen ∧ m ≤ maxLen ∧ k ≤ maxLen ∧ NfaS w A n A2 m A3 k e fs es
theorem open_nfa {r : Reach} {b0 : Nat} {v : Value} {d : DataW H} {p : List MemPlace}
    (hv : Value.okWide Try.prog w r b0 57 v) (h : DataW.Trod enc Try.prog w base spare held 57 v d p) :
    ∃ (s : Int) (A : Option Addr) (n c : Nat) (A2 : Option Addr) (m c2 : Nat) (A3 : Option Addr) (k c3 : Nat) (e : List Mv) (fs es : List Int), v = nfaV s A n c A2 m c2 A3 k c3 ∧ NfaIn w A n A2 m A3 k e fs es := by
  obtain ⟨c0, c1, c2, c3, y0, y1, y2, y3, kk, rfl, -, -, h0, h1, h2, h3⟩ := open_agg4 Try.underlying57 (by kernel_rfl) cells_lnfa hv h
  obtain ⟨a, e0, -, -⟩ := DataW.trod_int Try.underlying3 h0
  injection e0 with e0
  subst e0
  obtain ⟨A, n, c, e, rfl, e2, e3, e4⟩ := open_moves h1
  obtain ⟨A2, m, c2, fs, rfl, f2, f3, f4⟩ := open_ints' h2
  obtain ⟨A3, k, c3, es, rfl, g2, g3, g4⟩ := open_ints' h3
  exact ⟨a, A, n, c, A2, m, c2, A3, k, c3, e, fs, es, rfl, by omega, by omega, by omega, e4, f4, g4⟩
end
end Go.Proofs.Ytcphbncgkemdoaa
