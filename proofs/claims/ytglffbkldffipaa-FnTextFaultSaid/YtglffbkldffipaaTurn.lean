/-
  Turned expressions: the walks.
-/
import Derived.Test.YtglffbkldffipaaOper2
import Derived.LoopN
import Derived.Deep.AppendLies
import Derived.BigRegion
namespace Go.Proofs.Ytglffbkldffipaa
open Go.RowKit
set_option linter.unusedVariables false
set_option maxRecDepth 100000

/-- 'append(v, x...)' on an own row of parts, as a step of a region that draws its order. -/
theorem step_append_parts {w : World} {ops : Array Oper} {o : Oper} {a : Act} {K : Act → World → Prop} {Q : Exit → Act → World → Prop} {E : Prop} (hgd : o.guard = none) (s x : Operand)
    (ho : o.op = .call { callee := .builtin .append, args := #[s, x], argTypes := #[27, 27] })
    (base B : Nat) (v : Value) (n : Nat) (e1 : List Pt) (hs : a.eval s = v) (hown : w.ownsRow base 36 2 v n (flatV e1))
    (b off m c : Nat) (e2 : List Pt) (hx : a.eval x = .slice (some ⟨b, off, none⟩) m c) (hp : PS w B (some ⟨b, off, none⟩) m e2)
    (hm0 : 0 < m) (hm : n + m ≤ 1000000000) (hbase : base ≤ w.heap.size)
    (h : ∀ v' w', w'.ownsRow base 36 2 v' (n + m) (flatV (e1 ++ e2)) → w.grownBy w' v.ownBlock → K (a.put o.dst v') w') :
    if Region.wanted o (yielded ops a.tmps) = true then Oper.wp Try.prog o a w K Q else E := by
  obtain ⟨i0, hi0, hz0, hz1, hz2⟩ := info_parts part_info
  refine step_append_lies w hgd s x 27 ho base 36 i0 (part 0 0) 2 16 Try.underlying27 hi0 hz0 hz1 hz2 rfl (by decide) v n (flatV e1) hs hown ⟨b, off, none⟩ m c (flatV e2) hx (by rw [flatV_length, hp.1]) hp.news (flatV_one e2) hm0 (by unfold maxLen; omega) (by omega) hbase _ rfl ?_
  intro g cap w' h1 h2 _ _
  exact h _ _ (by rw [flatV_append]; exact h1) h2
theorem le_alloc {a : Nat} {w : World} {o : Obj} (h : a ≤ w.heap.size) : a ≤ (w.alloc o).heap.size := by simp; omega
theorem lt_alloc (w : World) (o : Obj) : w.heap.size < (w.alloc o).heap.size := by simp
theorem le_allocd (w : World) (o : Obj) : w.heap.size ≤ (w.alloc o).drew.heap.size := by show w.heap.size ≤ (w.alloc o).heap.size; simp
theorem small3 {m : Nat} (h : m ≤ 1000 := by omega) : m ≤ 1000 := h
theorem small4 : 500000000 + 1 ≤ 1000000000 := by omega
theorem own_base {w : World} {base base' n size : Nat} {t : TypeId} {v : Value} {xs : List Value} (h : w.ownsRow base t size v n xs) (hb : base' ≤ base) : w.ownsRow base' t size v n xs := by
  refine ⟨h.1, ?_⟩
  rcases h.2 with h2 | ⟨g, cap, cur, e1, e2, e4⟩
  · exact .inl h2
  · exact .inr ⟨g, cap, cur, e1, by omega, e4⟩
/-- Two ways to one end: a row is made and a part laid, in either order; the part is put behind the row. -/
theorem fin_row {w W0 w2 w' : World} {x : List Pt} {p : Pt} {v v' : Value} {o : Obj} {n : Nat} (hb : Below w.heap.size w W0) (h1 : w2.ownsRow W0.heap.size 36 2 v n (flatV x)) (hb2 : Below W0.heap.size W0 w2)
    (h3 : w'.ownsRow W0.heap.size 36 2 v' (n + 1) (flatV (x ++ [p]))) (hg : (w2.alloc o).grownBy w' v.ownBlock) : OwnD w (x ++ [p]) (.returned v') w' := by
  refine ⟨v', rfl, ?_, (((hb.trans (hb2.mono hb.size)).alloc (by have := hb.size; have := hb2.size; omega) o).grown hg (by have := hb.size; have := hb2.size; simp; omega) (fun k hk => by have := own_block h1 k hk; have := hb.size; omega))⟩
  have := own_base h3 hb.size
  rw [← own_len h3] at this
  exact this
theorem fin_part {w W0 w2 w' : World} {x : List Pt} {p : Pt} {v v' : Value} {o : Obj} {n : Nat} (hb : Below w.heap.size w W0) (h1 : w2.ownsRow (W0.alloc o).drew.heap.size 36 2 v n (flatV x)) (hb2 : Below (W0.alloc o).drew.heap.size (W0.alloc o).drew w2)
    (h3 : w'.ownsRow (W0.alloc o).drew.heap.size 36 2 v' (n + 1) (flatV (x ++ [p]))) (hg : w2.grownBy w' v.ownBlock) : OwnD w (x ++ [p]) (.returned v') w' := by
  have hz : W0.heap.size ≤ (W0.alloc o).drew.heap.size := le_allocd W0 o
  have hz1 := hb.size
  have hz2 := hb2.size
  refine ⟨v', rfl, ?_, (((hb.alloc hz1 o).drew).trans (hb2.mono (by omega))).grown hg (by omega) (fun k hk => by have := own_block h1 k hk; omega)⟩
  have := own_base (base' := w.heap.size) h3 (by omega)
  rw [← own_len h3] at this
  exact this
/-- A row of two slices, seen from later worlds. -/
theorem RowS.two {W : World} {g : Nat} {A1 A2 : Option Addr} {N1 N2 c1 c2 : Nat} {e1 e2 : List Pt} {t : TypeId} {fr : Nat × Nat} (hrow : W.heap[g]? = some (.cells #[.slice A1 N1 c1, .slice A2 N2 c2] t fr)) (h1 : SL W W.heap.size A1 N1 c1 e1) (h2 : SL W W.heap.size A2 N2 c2 e2) :
    ∀ W', Below W.heap.size W W' → RowS W' W'.heap.size (some ⟨g, 0, none⟩) 2 [(A1, N1, c1, e1), (A2, N2, c2, e2)] := fun W' hW' =>
  ⟨rfl, fun _ => ⟨g, 0, rfl, by have := hW'.size; have := (Array.getElem?_eq_some_iff.1 hrow).1; omega, fun i A n c e hi => by
    have hlt := (List.getElem?_eq_some_iff.1 hi).1
    have hr := (hW'.block g (Array.getElem?_eq_some_iff.1 hrow).1).trans hrow
    have : i = 0 ∨ i = 1 := by simp at hlt; omega
    rcases this with rfl | rfl
    · simp only [List.getElem?_cons_zero, Option.some.injEq, Prod.mk.injEq] at hi
      obtain ⟨rfl, rfl, rfl, rfl⟩ := hi
      exact ⟨by rw [cell_of_row W' _ _ _ _ _ hr]; rfl, h1.up hW'⟩
    · simp only [List.getElem?_cons_succ, List.getElem?_cons_zero, Option.some.injEq, Prod.mk.injEq] at hi
      obtain ⟨rfl, rfl, rfl, rfl⟩ := hi
      exact ⟨by rw [cell_of_row W' _ _ _ _ _ hr]; rfl, h2.up hW'⟩⟩⟩

end Go.Proofs.Ytglffbkldffipaa
