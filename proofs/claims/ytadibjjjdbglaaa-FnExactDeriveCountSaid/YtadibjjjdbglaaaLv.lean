/-
  Slices of slices of parts in memory.
-/
import Derived.Test.YtadibjjjdbglaaaDcnt
import Derived.Test.YtadibjjjdbglaaaOper2
import Derived.Maps.AppendAt
namespace Go.Proofs.Ytadibjjjdbglaaa
open Go.RowKit
set_option linter.unusedVariables false
set_option maxRecDepth 100000

/-- Parts in blocks that X tells. -/
def SLX (w : World) (X : Nat → Prop) (v : Value) (e : List Pt) : Prop := ∃ A c, v = .slice A e.length c ∧ SL w w.heap.size A e.length c e ∧ ∀ a : Addr, A = some a → X a.block ∧ a.block < w.heap.size
theorem SLX.grownIn {w w' : World} {X X' : Nat → Prop} {v : Value} {e : List Pt} {row : Option Nat} (h : SLX w X v e) (hg : w.grownBy w' row) (hx : ∀ b, b < w.heap.size → X b → X' b) (hne : ∀ b, X b → row ≠ some b) : SLX w' X' v e := by
  obtain ⟨A, c, rfl, ⟨⟨h1, h2⟩, h3⟩, h4⟩ := h
  refine ⟨A, c, rfl, ⟨⟨h1, fun hn => ?_⟩, h3⟩, fun a ha => ⟨hx _ (h4 a ha).2 (h4 a ha).1, Nat.lt_of_lt_of_le (h4 a ha).2 hg.size⟩⟩
  obtain ⟨b, off, e1, hb, hc⟩ := h2 hn
  have hb' := (h4 _ e1).1
  have key : ∀ o, w'.cell? ⟨b, o, none⟩ = w.cell? ⟨b, o, none⟩ := fun o => World.cell?_of_block (a := ⟨b, o, none⟩) (hg.block b hb (fun e => hne _ hb' e.symm))
  exact ⟨b, off, e1, Nat.lt_of_lt_of_le hb hg.size, fun i k l hi => by rw [key, key]; exact hc i k l hi⟩
theorem SLX.grown {w w' : World} {X X' : Nat → Prop} {v : Value} {e : List Pt} {row : Option Nat} (h : SLX w X v e) (hg : w.grownBy w' row) (hx : ∀ b, X b → X' b) (hne : ∀ b, X b → row ≠ some b) : SLX w' X' v e := h.grownIn hg (fun b _ => hx b) hne
theorem SLX.one {w : World} {X : Nat → Prop} {v : Value} {e : List Pt} (h : SLX w X v e) : v.oneCell' = true := by obtain ⟨A, c, rfl, -⟩ := h; rfl
/-- A slice of such parts. -/
def LvS (w : World) (X : Nat → Prop) (A : Option Addr) (n : Nat) (es : List (List Pt)) : Prop :=
  es.length = n ∧ (0 < n → ∃ b off, A = some ⟨b, off, none⟩ ∧ b < w.heap.size ∧ X b ∧ ∀ (i : Nat) (e : List Pt), es[i]? = some e → ∃ v, w.cell? ⟨b, off + i, none⟩ = some v ∧ SLX w X v e)
theorem LvS.grownIn {w w' : World} {X X' : Nat → Prop} {A : Option Addr} {n : Nat} {es : List (List Pt)} {row : Option Nat} (h : LvS w X A n es) (hg : w.grownBy w' row) (hx : ∀ b, b < w.heap.size → X b → X' b) (hne : ∀ b, X b → row ≠ some b) : LvS w' X' A n es := by
  refine ⟨h.1, fun hn => ?_⟩
  obtain ⟨b, off, e1, hb, hX, hc⟩ := h.2 hn
  have key : ∀ o, w'.cell? ⟨b, o, none⟩ = w.cell? ⟨b, o, none⟩ := fun o => World.cell?_of_block (a := ⟨b, o, none⟩) (hg.block b hb (fun e => hne _ hX e.symm))
  refine ⟨b, off, e1, Nat.lt_of_lt_of_le hb hg.size, hx _ hb hX, fun i e hi => ?_⟩
  obtain ⟨v, h1, h2⟩ := hc i e hi
  exact ⟨v, by rw [key]; exact h1, h2.grownIn hg hx hne⟩
theorem LvS.grown {w w' : World} {X X' : Nat → Prop} {A : Option Addr} {n : Nat} {es : List (List Pt)} {row : Option Nat} (h : LvS w X A n es) (hg : w.grownBy w' row) (hx : ∀ b, X b → X' b) (hne : ∀ b, X b → row ≠ some b) : LvS w' X' A n es := h.grownIn hg (fun b _ => hx b) hne
theorem LvS.at {w : World} {X : Nat → Prop} {A : Option Addr} {n : Nat} {es : List (List Pt)} (h : LvS w X A n es) {i : Nat} (hi : i < n) :
    ∃ b off e v, A = some ⟨b, off, none⟩ ∧ es[i]? = some e ∧ w.cell? ⟨b, off + i, none⟩ = some v ∧ SLX w X v e := by
  obtain ⟨b, off, e1, -, -, hc⟩ := h.2 (by omega)
  have hl : i < es.length := by rw [h.1]; exact hi
  obtain ⟨v, h1, h2⟩ := hc i _ (List.getElem?_eq_getElem hl)
  exact ⟨b, off, _, v, e1, List.getElem?_eq_getElem hl, h1, h2⟩
/-- A row of such parts that was made here. -/
def OwLv (w : World) (base : Nat) (X : Nat → Prop) (nv : Value) (m : Nat) (es : List (List Pt)) (vs : List Value) : Prop :=
  w.ownsRow base 23 1 nv m vs ∧ es.length = m ∧ vs.length = m ∧ (∀ u ∈ vs, u.oneCell' = true) ∧ ∀ (i : Nat) (e : List Pt), es[i]? = some e → ∃ v, vs[i]? = some v ∧ SLX w X v e
def OwL (w : World) (base : Nat) (X : Nat → Prop) (nv : Value) (m : Nat) (es : List (List Pt)) : Prop := ∃ vs, OwLv w base X nv m es vs
theorem OwL.nil (w : World) (base : Nat) (X : Nat → Prop) : OwL w base X (.slice none 0 0) 0 [] := ⟨[], ⟨rfl, .inl ⟨rfl, rfl⟩⟩, rfl, rfl, (fun _ h => nomatch h), fun i e h => by simp at h⟩
theorem OwL.emp (w : World) (base : Nat) (X : Nat → Prop) (hb : base ≤ w.heap.size) : OwL (w.alloc (.cells #[] 23)) base X (.slice (some ⟨w.heap.size, 0, none⟩) 0 0) 0 [] :=
  ⟨[], ⟨rfl, .inr ⟨w.heap.size, 0, #[], rfl, hb, heap_alloc_new w _, Nat.le_refl _, by simp [maxLen], rfl, rfl⟩⟩, rfl, rfl, (fun _ h => nomatch h), fun i e h => by simp at h⟩
theorem OwLv.grown {w w' : World} {base : Nat} {X X' : Nat → Prop} {nv : Value} {m : Nat} {es : List (List Pt)} {vs : List Value} {row : Option Nat} (h : OwLv w base X nv m es vs) (hg : w.grownBy w' row) (hx : ∀ b, X b → X' b) (hne : ∀ b, X b → row ≠ some b) (hr : nv.ownBlock = none ∨ nv.ownBlock ≠ row) : OwLv w' base X' nv m es vs := by
  obtain ⟨h1, h2, h3, h4, h5⟩ := h
  refine ⟨h1.kept hg hr, h2, h3, h4, fun i e hi => ?_⟩
  obtain ⟨v, a, b⟩ := h5 i e hi
  exact ⟨v, a, b.grown hg hx hne⟩
theorem OwL.grown {w w' : World} {base : Nat} {X X' : Nat → Prop} {nv : Value} {m : Nat} {es : List (List Pt)} {row : Option Nat} (h : OwL w base X nv m es) (hg : w.grownBy w' row) (hx : ∀ b, X b → X' b) (hne : ∀ b, X b → row ≠ some b) (hr : nv.ownBlock = none ∨ nv.ownBlock ≠ row) : OwL w' base X' nv m es := by
  obtain ⟨vs, h⟩ := h
  exact ⟨vs, h.grown hg hx hne hr⟩
theorem own_or (v : Value) : v.ownBlock = none ∨ v.ownBlock ≠ none := by cases v.ownBlock <;> simp
/-- As a slice. -/
theorem OwL.lv {w : World} {base : Nat} {X X' : Nat → Prop} {nv : Value} {m : Nat} {es : List (List Pt)} (h : OwL w base X nv m es) (hx : ∀ b, X b → X' b) (hb : ∀ g, nv.ownBlock = some g → X' g) : ∃ A c, nv = .slice A m c ∧ m ≤ c ∧ LvS w X' A m es := by
  obtain ⟨vs, h1, h2, h3, h4, h5⟩ := h
  obtain ⟨A, c, rfl, hc, hA⟩ := own_shape h1
  refine ⟨A, c, rfl, hc, h2, fun hm => ?_⟩
  obtain ⟨g, rfl⟩ := hA hm
  refine ⟨g, 0, rfl, (h1.lt g rfl).2, hb g rfl, fun i e hi => ?_⟩
  obtain ⟨v, e1, e2⟩ := h5 i e hi
  have hlt : i < m := by rw [← h2]; exact (List.getElem?_eq_some_iff.1 hi).1
  refine ⟨v, ?_, e2.grown (World.grownBy.refl w none) hx (fun b _ => by simp)⟩
  rw [Nat.zero_add, h1.cellAt i (by omega)]
  exact e1
/-- One more behind the others. -/
theorem OwLv.snoc {w w' : World} {base : Nat} {X X' : Nat → Prop} {nv nv' v : Value} {m : Nat} {es : List (List Pt)} {e : List Pt} {vs : List Value} (h : OwLv w base X nv m es vs) (hv : SLX w X v e) (hg : w.grownBy w' nv.ownBlock)
    (hown : w'.ownsRow base 23 1 nv' (m + 1) (vs ++ [v])) (hx : ∀ b, b < w.heap.size → X b → X' b) (hne : ∀ b, X b → nv.ownBlock ≠ some b) : OwLv w' base X' nv' (m + 1) (es ++ [e]) (vs ++ [v]) := by
  obtain ⟨h1, h2, h3, h4, h5⟩ := h
  refine ⟨hown, by simp [h2], by simp [h3], fun u hu => ?_, fun i x hi => ?_⟩
  · rcases List.mem_append.1 hu with hu | hu
    · exact h4 u hu
    · simp at hu; subst hu; exact hv.one
  · by_cases him : i < m
    · rw [List.getElem?_append_left (by omega)] at hi
      obtain ⟨u, a, b⟩ := h5 i x hi
      exact ⟨u, by rw [List.getElem?_append_left (by omega)]; exact a, b.grownIn hg hx hne⟩
    · have hlt := (List.getElem?_eq_some_iff.1 hi).1
      rw [List.length_append, List.length_singleton] at hlt
      obtain rfl : i = m := by omega
      rw [List.getElem?_append_right (by omega), h2, Nat.sub_self] at hi
      simp at hi
      subst hi
      exact ⟨v, by rw [List.getElem?_append_right (by omega), h3, Nat.sub_self]; rfl, hv.grownIn hg hx hne⟩
/-- Below the end: nothing turned. -/
theorem bel_grown {w w' : World} (h : Below w.heap.size w w') : w.grownBy w' none := ⟨h.os, h.tape, h.output, h.size, fun k hk _ => h.block k hk⟩
/-- The blocks besides two. -/
def XM (gm : Nat) (row : Option Nat) (b : Nat) : Prop := b ≠ gm ∧ row ≠ some b
theorem XM.self {gm : Nat} {row : Option Nat} (b : Nat) (h : XM gm row b) : XM gm row b := h
theorem XM.loose {gm : Nat} {row : Option Nat} (b : Nat) (h : XM gm row b) : XM gm none b := ⟨h.1, by simp⟩
theorem XM.map {gm : Nat} {row : Option Nat} (b : Nat) (h : XM gm row b) : some gm ≠ some b := fun e => by injection e with e; exact h.1 e.symm
theorem XM.row {gm : Nat} {row : Option Nat} (b : Nat) (h : XM gm row b) : row ≠ some b := h.2
theorem none_ne {X : Nat → Prop} (b : Nat) (h : X b) : (none : Option Nat) ≠ some b := by simp
/-- Fresh parts lie apart. -/
theorem slx_fresh {w w' : World} {X : Nat → Prop} {A : Option Addr} {n c : Nat} {e : List Pt} (hl : e.length = n) (h : SL w' w'.heap.size A n c e) (hown : w'.ownsRow w.heap.size 45 2 (.slice A n c) n (flatV e)) (hX : ∀ b, w.heap.size ≤ b → X b) : SLX w' X (.slice A n c) e := by
  subst hl
  refine ⟨A, c, rfl, h, fun a ha => ?_⟩
  subst ha
  rcases hown.2 with ⟨h0, -⟩ | ⟨g, cap, cur, e1, e2, e3, -⟩
  · injection h0 with h0; cases h0
  · injection e1 with e1; injection e1 with e1; rw [e1]; exact ⟨hX _ e2, (Array.getElem?_eq_some_iff.1 e3).1⟩
/-- Behind an append: the blocks besides the row's new one. -/
theorem XM.next {gm s : Nat} {row row' : Option Nat} (hat : row' = row ∨ row' = some s) (b : Nat) (hb : b < s) (h : XM gm row b) : XM gm row' b := by
  refine ⟨h.1, ?_⟩
  rcases hat with e | e
  · rw [e]; exact h.2
  · rw [e]; intro e'; injection e' with e'; omega
theorem cell_one_lit (w : World) (v : Value) (t : TypeId) : ∀ (j : Nat) (u : Value), [v][j]? = some u → (w.alloc (.cells #[v] t)).cell? ((⟨w.heap.size, 0, none⟩ : Addr).add j) = some u := by
  intro j u hj
  have : j = 0 := by have := (List.getElem?_eq_some_iff.1 hj).1; simp at this; exact this
  subst this
  simp at hj
  subst hj
  simp [Addr.add, World.cell?_alloc_new]
end Go.Proofs.Ytadibjjjdbglaaa
