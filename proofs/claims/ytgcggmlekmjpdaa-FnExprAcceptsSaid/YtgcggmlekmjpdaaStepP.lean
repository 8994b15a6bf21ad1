/-
  'append' of parts as a step of a region that draws its order, whatever is appended.
-/
import Derived.Test.YtgcggmlekmjpdaaLists
import Derived.Maps.AppendAt
namespace Go.Proofs.Ytgcggmlekmjpdaa
open Go.RowKit
set_option linter.unusedVariables false
set_option maxRecDepth 100000

theorem step_append_parts_at {w : World} {ops : Array Oper} {o : Oper} {a : Act} {K : Act → World → Prop} {Q : Exit → Act → World → Prop} {E : Prop} (hgd : o.guard = none) (s x : Operand)
    (ho : o.op = .call { callee := .builtin .append, args := #[s, x], argTypes := #[25, 25] })
    (base B : Nat) (v : Value) (n : Nat) (e1 : List Pt) (hs : a.eval s = v) (hown : w.ownsRow base 37 2 v n (flatV e1))
    (A : Option Addr) (m c : Nat) (e2 : List Pt) (hx : a.eval x = .slice A m c) (hA : A = none → m = 0 ∧ c = 0) (hp : PS w B A m e2)
    (hm : n + m ≤ 1000000000) (hbase : base ≤ w.heap.size)
    (h : ∀ v' w', w'.ownsRow base 37 2 v' (n + m) (flatV (e1 ++ e2)) → w.grownBy w' v.ownBlock → (v'.ownBlock = v.ownBlock ∨ v'.ownBlock = some w.heap.size) → K (a.put o.dst v') w') :
    if Region.wanted o (yielded ops a.tmps) = true then Oper.wp Try.prog o a w K Q else E := by
  have hw : Region.wanted o (yielded ops a.tmps) = true := by simp [Region.wanted, hgd]
  rw [if_pos hw]
  obtain ⟨i0, hi0, hz0, hz1, hz2⟩ := info_parts part_info
  cases A with
  | none =>
    obtain ⟨rfl, rfl⟩ := hA rfl
    have he : e2 = [] := List.eq_nil_of_length_eq_zero hp.1
    subst he
    have hrun := run_append_owned_none (P := Try.prog) (w := w) base 25 o.type 37 i0 2 Try.underlying25 hi0 v n (flatV e1) hown
    unfold Oper.wp
    simp [execOp, ho, resolve, invoke, builtin, hs, hx, hrun, Result.andThen]
    exact h v w (by rw [List.append_nil]; exact hown) (World.grownBy.refl w _) (.inl rfl)
  | some ad =>
    have key : ∀ (news : List Value) (hl : news.length = m * 2) (hnews : ∀ j u, news[j]? = some u → w.cell? (ad.add j) = some u) (h1 : ∀ u ∈ news, u.oneCell' = true) (hf : news = flatV e2), Oper.wp Try.prog o a w K Q := by
      intro news hl hnews h1 hf
      obtain ⟨v', w', hr, h2, h3, _, h5⟩ := run_append_own_at (P := Try.prog) w base 25 o.type 37 i0 (part 0 0) 2 16 Try.underlying25 hi0 hz0 hz1 hz2 rfl (by decide) v n (flatV e1) hown ad m c news hl hnews h1 (by unfold maxLen; omega) (by omega) hbase
      unfold Oper.wp execOp
      simp only [ho, resolve, invoke, builtin, Sem.run_bind, Sem.run_pure, Result.andThen_ok, List.map_toArray, List.map_cons, List.map_nil, hs, hx, hr]
      exact h v' w' (by rw [flatV_append, ← hf]; exact h2) h3 h5
    by_cases hm0 : m = 0
    · subst hm0
      have he : e2 = [] := List.eq_nil_of_length_eq_zero hp.1
      subst he
      exact key [] rfl (by simp) (by simp) rfl
    · obtain ⟨b, off, e, -⟩ := hp.2 (by omega)
      injection e with e
      subst e
      exact key (flatV e2) (by rw [flatV_length, hp.1]) hp.news (flatV_one e2) rfl
end Go.Proofs.Ytgcggmlekmjpdaa
