/-
  Turned expressions: the reference's walk, and both of any list.
-/
import Derived.Test.YtglffbkldffipaaTurn
namespace Go.Proofs.Ytglffbkldffipaa
open Go.RowKit
set_option linter.unusedVariables false
set_option maxRecDepth 100000

/-- 'append(v, x...)' on an own row of parts, and where the row lies then. -/
theorem wpList_append_parts_at {w : World} {ops : Array Oper} {rest : List Oper} {o : Oper} {a : Act} {Q : Exit → Act → World → Prop} (hgd : o.guard = none) (s x : Operand)
    (ho : o.op = .call { callee := .builtin .append, args := #[s, x], argTypes := #[27, 27] })
    (base B : Nat) (v : Value) (n : Nat) (e1 : List Pt) (hs : a.eval s = v) (hown : w.ownsRow base 36 2 v n (flatV e1))
    (A : Option Addr) (m c : Nat) (e2 : List Pt) (hx : a.eval x = .slice A m c) (hA : A = none → m = 0 ∧ c = 0) (hp : PS w B A m e2)
    (hm : n + m ≤ 1000000000) (hbase : base ≤ w.heap.size)
    (h : ∀ v' w', w'.ownsRow base 36 2 v' (n + m) (flatV (e1 ++ e2)) → w.grownBy w' v.ownBlock → (v'.ownBlock = v.ownBlock ∨ v'.ownBlock = some w.heap.size) → wpList Try.prog ops Q rest (a.put o.dst v') w') : wpList Try.prog ops Q (o :: rest) a w := by
  obtain ⟨i0, hi0, hz0, hz1, hz2⟩ := info_parts part_info
  cases A with
  | none =>
    obtain ⟨rfl, rfl⟩ := hA rfl
    have he : e2 = [] := List.eq_nil_of_length_eq_zero hp.1
    subst he
    refine wpList_append_own_none hgd s x 27 ho base 36 i0 2 Try.underlying27 hi0 v n (flatV e1) hs hown hx ?_
    exact h v w (by rw [List.append_nil]; exact hown) (World.grownBy.refl w _) (.inl rfl)
  | some ad =>
    by_cases hm0 : m = 0
    · subst hm0
      have he : e2 = [] := List.eq_nil_of_length_eq_zero hp.1
      subst he
      refine wpList_append_own_at w hgd s x 27 ho base 36 i0 (part 0 0) 2 16 Try.underlying27 hi0 hz0 hz1 hz2 rfl (by decide) v n (flatV e1) hs hown ad 0 c [] hx rfl (by simp) (by simp) (by unfold maxLen; omega) (by omega) hbase ?_
      intro v' w' h1 h2 _ h3
      exact h v' w' (by rw [List.append_nil]; rw [List.append_nil] at h1; exact h1) h2 h3
    · obtain ⟨b, off, e, -⟩ := hp.2 (by omega)
      injection e with e
      subst e
      refine wpList_append_own_at w hgd s x 27 ho base 36 i0 (part 0 0) 2 16 Try.underlying27 hi0 hz0 hz1 hz2 rfl (by decide) v n (flatV e1) hs hown ⟨b, off, none⟩ m c (flatV e2) hx (by rw [flatV_length, hp.1]) hp.news (flatV_one e2) (by unfold maxLen; omega) (by omega) hbase ?_
      intro v' w' h1 h2 _ h3
      exact h v' w' (by rw [flatV_append]; exact h1) h2 h3
theorem box_keep {w w' : World} {row : Option Nat} {pb : Nat} {o : Obj} (h : w.heap[pb]? = some o) (hg : w.grownBy w' row) (hne : row ≠ some pb) : w'.heap[pb]? = some o :=
  (hg.block pb (Array.getElem?_eq_some_iff.1 h).1 (fun e => hne e.symm)).trans h
theorem box_below {w w' : World} {pb : Nat} {o : Obj} (h : w.heap[pb]? = some o) (hb : Below w.heap.size w w') : w'.heap[pb]? = some o :=
  (hb.block pb (Array.getElem?_eq_some_iff.1 h).1).trans h
theorem box_cells {w : World} {pb : Nat} {k l : Int} {t : TypeId} {fr : Nat × Nat} (h : w.heap[pb]? = some (.cells #[.int .i64 k, .int .i64 l] t fr)) : w.cell? ⟨pb, 0, none⟩ = some (.int .i64 k) ∧ w.cell? ⟨pb, 1, none⟩ = some (.int .i64 l) :=
  ⟨by rw [cell_of_row w pb 0 _ _ _ h]; rfl, by rw [cell_of_row w pb 1 _ _ _ h]; rfl⟩
theorem box_lt {w : World} {pb : Nat} {o : Obj} (h : w.heap[pb]? = some o) : pb < w.heap.size := (Array.getElem?_eq_some_iff.1 h).1
theorem ne_next {v v' : Option Nat} {pb s : Nat} (h : v ≠ some pb) (hv : v' = v ∨ v' = some s) (hs : pb < s) : v' ≠ some pb := by
  rcases hv with rfl | rfl
  · exact h
  · intro e; injection e; omega
/-- A part, laid behind two other blocks. -/
theorem PS_one_at2 (w : World) (o1 o2 : Obj) (k l : Int) (t : TypeId) : PS (((w.alloc o1).alloc o2).alloc (.cells #[.int .i64 k, .int .i64 l] t)) (w.heap.size + 3) (some ⟨w.heap.size + 1 + 1, 0, none⟩) 1 [(k, l)] := by
  have h := PS.one ((w.alloc o1).alloc o2) (w.heap.size + 3) k l t (by simp)
  rw [World.size_alloc, World.size_alloc] at h
  exact h
end Go.Proofs.Ytglffbkldffipaa
