/-
  Slices of parts that are made: append, slices.Clone, slices.Concat.
-/
import Derived.Test.YtcphbncgkemdoaaOpnd
import Derived.Laws.AppendOwnNone
import Derived.Lib.AppendZeros
namespace Go.Proofs.Ytcphbncgkemdoaa
open Go.RowKit
set_option linter.unusedVariables false
set_option maxRecDepth 100000

/-- A slice of parts whose length and capacity are in order; nil is empty. -/
def SL (w : World) (B : Nat) (A : Option Addr) (n c : Nat) (e : List Pt) : Prop := PS w B A n e ∧ n ≤ c ∧ c ≤ maxLen ∧ (A = none → n = 0 ∧ c = 0)
theorem SL.keep {w w' : World} {B B' : Nat} {A : Option Addr} {n c : Nat} {e : List Pt} (h : SL w B A n c e) (hB : B ≤ B') (hk : ∀ b o, b < B → w'.cell? ⟨b, o, none⟩ = w.cell? ⟨b, o, none⟩) : SL w' B' A n c e :=
  ⟨h.1.keep hB hk, h.2⟩
theorem SL.below {w w' : World} {B : Nat} {A : Option Addr} {n c : Nat} {e : List Pt} (h : SL w B A n c e) (hB : B ≤ w.heap.size) (hb : Below w.heap.size w w') : SL w' B A n c e :=
  ⟨h.1.below hB hb, h.2⟩
/-- It is kept where old memory is kept, and may be said of the new memory's end. -/
theorem SL.up {w w' : World} {A : Option Addr} {n c : Nat} {e : List Pt} (h : SL w w.heap.size A n c e) (hb : Below w.heap.size w w') : SL w' w'.heap.size A n c e :=
  h.keep hb.size fun b o hlt => hb.cell (p := ⟨b, o, none⟩) hlt
theorem PS.up {w w' : World} {A : Option Addr} {n : Nat} {e : List Pt} (h : PS w w.heap.size A n e) (hb : Below w.heap.size w w') : PS w' w'.heap.size A n e :=
  h.keep hb.size fun b o hlt => hb.cell (p := ⟨b, o, none⟩) hlt
theorem PS.upA {w : World} {A : Option Addr} {n : Nat} {e : List Pt} (h : PS w w.heap.size A n e) (o : Obj) : PS (w.alloc o) (w.alloc o).heap.size A n e :=
  h.keep (by simp) fun b o' hlt => World.cell?_alloc_lt w o ⟨b, o', none⟩ hlt
theorem SL.tree {w : World} {B : Nat} {A : Option Addr} {n c : Nat} {t : Ex} (h : PS w B A n t.flat) (hc : n ≤ c) (hcm : c ≤ maxLen) : SL w B A n c t.flat := by
  refine ⟨h, hc, hcm, ?_⟩
  rintro rfl
  have hp := Ex.sz_pos t
  have hn := h.len
  obtain ⟨b, off, e, -⟩ := h.addr (by omega)
  cases e
/-- The cells of the new parts, as 'append' wants them. -/
theorem PS.news {w : World} {B b off : Nat} {n : Nat} {e : List Pt} (h : PS w B (some ⟨b, off, none⟩) n e) : ∀ j u, (flatV e)[j]? = some u → w.cell? ((⟨b, off, none⟩ : Addr).add j) = some u := by
  intro j u hj
  have hlt : j < (flatV e).length := (List.getElem?_eq_some_iff.1 hj).1
  rw [flatV_length] at hlt
  have hl := h.1
  obtain ⟨b', off', e1, hb, hc⟩ := h.2 (by omega)
  injection e1 with e1
  injection e1 with e1 e2
  subst e1; subst e2
  have hadd : (⟨b, off, none⟩ : Addr).add j = ⟨b, off + j, none⟩ := by unfold Addr.add; split <;> simp_all
  rw [hadd]
  have hi : j / 2 < e.length := by omega
  have h1 := List.getElem?_eq_getElem hi
  obtain ⟨f1, f2⟩ := flatV_get (k := (e[j / 2]).1) (l := (e[j / 2]).2) h1
  obtain ⟨c1, c2⟩ := hc (j / 2) _ _ h1
  rcases Nat.mod_two_eq_zero_or_one j with hm | hm
  · have ej : j = j / 2 * 2 := by omega
    rw [ej] at hj ⊢
    rw [f1] at hj
    rw [← hj]
    exact c1
  · have ej : j = j / 2 * 2 + 1 := by omega
    rw [ej] at hj ⊢
    rw [f2] at hj
    rw [← hj, ← Nat.add_assoc]
    exact c2
theorem flatV_one (e : List Pt) : ∀ u ∈ flatV e, u.oneCell' = true := by
  induction e with
  | nil => intro u hu; cases hu
  | cons p e ih =>
    intro u hu
    simp only [flatV, List.mem_cons] at hu
    rcases hu with rfl | rfl | hu
    · rfl
    · rfl
    · exact ih u hu
/-- A row of one part, just laid. -/
theorem PS.one (w : World) (B : Nat) (k l : Int) (t : TypeId) (hB : w.heap.size < B) : PS (w.alloc (.cells #[.int .i64 k, .int .i64 l] t)) B (some ⟨w.heap.size, 0, none⟩) 1 [(k, l)] := by
  refine ⟨rfl, fun _ => ⟨_, _, rfl, hB, fun i k' l' hi => ?_⟩⟩
  have : i = 0 := by have := (List.getElem?_eq_some_iff.1 hi).1; simp at this; exact this
  subst this
  simp only [List.getElem?_cons_zero, Option.some.injEq] at hi
  injection hi with h1 h2
  subst h1; subst h2
  exact ⟨by simp [World.cell?_alloc_new], by simp [World.cell?_alloc_new]⟩
/-- A row of no part, just laid. -/
theorem own_empty (w : World) (base : Nat) (t : TypeId) (hb : base ≤ w.heap.size) : (w.alloc (.cells #[] t)).ownsRow base t 2 (.slice (some ⟨w.heap.size, 0, none⟩) 0 0) 0 [] :=
  ⟨rfl, .inr ⟨w.heap.size, 0, #[], rfl, hb, heap_alloc_new w _, Nat.le_refl _, by simp [maxLen], rfl, rfl⟩⟩
theorem own_nil (w : World) (base : Nat) (t : TypeId) : w.ownsRow base t 2 (.slice none 0 0) 0 [] := ⟨rfl, .inl ⟨rfl, rfl⟩⟩
/-- An own row is one slice more that reads as parts. -/
theorem SL_own {w : World} {base n : Nat} {t : TypeId} {v : Value} {e : List Pt} (h : w.ownsRow base t 2 v n (flatV e)) (hn : n ≤ maxLen) : ∃ A c, v = .slice A n c ∧ SL w w.heap.size A n c e := by
  obtain ⟨A, c, rfl, hc, hp⟩ := PS_own h
  refine ⟨A, c, rfl, hp, hc, ?_, ?_⟩
  · rcases h.2 with ⟨h0, _⟩ | ⟨g', cap', cur', e1, e2, e3, e4, e5, -⟩
    · injection h0 with _ _ h1; subst h1; simp [maxLen]
    · injection e1 with _ _ h1; subst h1; exact e5
  · rintro rfl
    rcases h.2 with ⟨h0, _⟩ | ⟨g', cap', cur', e1, -⟩
    · injection h0 with _ h1 h2; exact ⟨h1, h2⟩
    · injection e1 with h1; cases h1

theorem own_len {w : World} {base n : Nat} {t : TypeId} {v : Value} {e : List Pt} (h : w.ownsRow base t 2 v n (flatV e)) : e.length = n := by
  have := h.1; rw [flatV_length] at this; omega
theorem own_block {w : World} {base n size : Nat} {t : TypeId} {v : Value} {xs : List Value} (h : w.ownsRow base t size v n xs) : ∀ k, v.ownBlock = some k → base ≤ k := by
  intro k hk
  rcases h.2 with ⟨rfl, _⟩ | ⟨g', cap', cur', rfl, e2, -⟩
  · cases hk
  · simp only [Value.ownBlock, Option.some.injEq] at hk; omega

/-- 'append(v, x...)' on an own row of parts, x any slice of parts. -/
theorem wpList_append_parts {w : World} {ops : Array Oper} {rest : List Oper} {o : Oper} {a : Act} {Q : Exit → Act → World → Prop} (hgd : o.guard = none) (s x : Operand)
    (ho : o.op = .call { callee := .builtin .append, args := #[s, x], argTypes := #[40, 40] })
    (base B : Nat) (v : Value) (n : Nat) (e1 : List Pt) (hs : a.eval s = v) (hown : w.ownsRow base 26 2 v n (flatV e1))
    (A : Option Addr) (m c : Nat) (e2 : List Pt) (hx : a.eval x = .slice A m c) (hA : A = none → m = 0 ∧ c = 0) (hp : PS w B A m e2)
    (hm : n + m ≤ 1000000000) (hbase : base ≤ w.heap.size)
    (h : ∀ v' w', w'.ownsRow base 26 2 v' (n + m) (flatV (e1 ++ e2)) → w.grownBy w' v.ownBlock → wpList Try.prog ops Q rest (a.put o.dst v') w') : wpList Try.prog ops Q (o :: rest) a w := by
  obtain ⟨i0, hi0, hz0, hz1, hz2⟩ := info_parts part_info
  cases A with
  | none =>
    obtain ⟨rfl, rfl⟩ := hA rfl
    have he : e2 = [] := List.eq_nil_of_length_eq_zero hp.1
    subst he
    refine wpList_append_own_none hgd s x 40 ho base 26 i0 2 Try.underlying40 hi0 v n (flatV e1) hs hown hx ?_
    have := h v w (by rw [List.append_nil]; exact hown) (World.grownBy.refl w _)
    exact this
  | some ad =>
    by_cases hm0 : m = 0
    · subst hm0
      have he : e2 = [] := List.eq_nil_of_length_eq_zero hp.1
      subst he
      refine wpList_append_own w hgd s x 40 ho base 26 i0 (part 0 0) 2 16 Try.underlying40 hi0 hz0 hz1 hz2 rfl (by decide) v n (flatV e1) hs hown ad 0 c [] hx rfl (by simp) (by simp) (by unfold maxLen; omega) (by omega) hbase ?_
      intro v' w' h1 h2 _
      exact h v' w' (by rw [List.append_nil]; rw [List.append_nil] at h1; exact h1) h2
    · obtain ⟨b, off, e, -⟩ := hp.2 (by omega)
      injection e with e
      subst e
      refine wpList_append_own w hgd s x 40 ho base 26 i0 (part 0 0) 2 16 Try.underlying40 hi0 hz0 hz1 hz2 rfl (by decide) v n (flatV e1) hs hown ⟨b, off, none⟩ m c (flatV e2) hx (by rw [flatV_length, hp.1]) hp.news (flatV_one e2) (by unfold maxLen; omega) (by omega) hbase ?_
      intro v' w' h1 h2 _
      exact h v' w' (by rw [flatV_append]; exact h1) h2
/-- What leaves a row of parts of the call's own. -/
def OwnD (w : World) (e : List Pt) (r : Ending) (w' : World) : Prop :=
  ∃ v, r = .returned v ∧ w'.ownsRow w.heap.size 26 2 v e.length (flatV e) ∧ Below w.heap.size w w'
theorem OwnD.sl {w : World} {e : List Pt} {r : Ending} {w' : World} (h : OwnD w e r w') (hl : e.length ≤ 1000000000) : ∃ A c, r = .returned (.slice A e.length c) ∧ SL w' w'.heap.size A e.length c e ∧ w'.ownsRow w.heap.size 26 2 (.slice A e.length c) e.length (flatV e) ∧ Below w.heap.size w w' := by
  obtain ⟨v, rfl, h1, h2⟩ := h
  obtain ⟨A, c, rfl, h3⟩ := SL_own h1 (by unfold maxLen; omega)
  exact ⟨A, c, rfl, h3, h1, h2⟩

end Go.Proofs.Ytcphbncgkemdoaa
