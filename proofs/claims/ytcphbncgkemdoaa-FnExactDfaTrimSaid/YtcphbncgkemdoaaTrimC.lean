/-
  Automata without the states that cannot be reached: memory of the result.
-/
import Derived.Test.YtcphbncgkemdoaaTrimB
namespace Go.Proofs.Ytcphbncgkemdoaa
open Go.RowKit
set_option linter.unusedVariables false
set_option maxRecDepth 100000

/-- 'append' as a step of a region that draws its order. -/
theorem step_own_at {P : Program} {w : World} {ops : Array Oper} {o : Oper} {a : Act} {K : Act → World → Prop} {Q : Exit → Act → World → Prop} {E : Prop} (hgd : o.guard = none) (s x : Operand) (t : TypeId)
    (ho : o.op = .call { callee := .builtin .append, args := #[s, x], argTypes := #[t, t] })
    (base : Nat) (e : TypeId) (i : TypeInfo) (z : Value) (size bytes : Nat) (ht : P.underlying t = some (.slice e)) (hi : P.info? e = some i) (hz : i.zero = some z)
    (hsize : i.size = size) (hby : i.bytes = bytes) (hzs : z.cells.size = size) (hsz : 0 < size)
    (v : Value) (n : Nat) (xs : List Value) (hs : a.eval s = v) (hown : w.ownsRow base e size v n xs)
    (ad : Addr) (m c : Nat) (news : List Value) (hx : a.eval x = .slice (some ad) m c) (hl : news.length = m * size) (hnews : ∀ j u, news[j]? = some u → w.cell? (ad.add j) = some u) (h1 : ∀ u ∈ news, u.oneCell' = true)
    (h63 : n + m ≤ maxLen) (hbytes : (n + m) * bytes ≤ 140737488355328) (hbase : base ≤ w.heap.size)
    (h : ∀ v' w', w'.ownsRow base e size v' (n + m) (xs ++ news) → w.grownBy w' v.ownBlock → (v'.ownBlock = v.ownBlock ∨ v'.ownBlock = some w.heap.size) → K (a.put o.dst v') w') :
    if Region.wanted o (yielded ops a.tmps) = true then Oper.wp P o a w K Q else E := by
  have hw : Region.wanted o (yielded ops a.tmps) = true := by simp [Region.wanted, hgd]
  rw [if_pos hw]
  obtain ⟨v', w', hr, h2, h3, _, h5⟩ := run_append_own_at (P := P) w base t o.type e i z size bytes ht hi hz hsize hby hzs hsz v n xs hown ad m c news hl hnews h1 h63 hbytes hbase
  unfold Oper.wp execOp
  simp only [ho, resolve, invoke, builtin, Sem.run_bind, Sem.run_pure, Result.andThen_ok, List.map_toArray, List.map_cons, List.map_nil, hs, hx, hr]
  exact h v' w' h2 h3 h5
/-- The marks of the first k states of the result. -/
def eRow (O : List Int) (bs : List Bool) (j : Nat) : Bool := bs.getD (O.getD j 0).toNat false
def TrO (f : Nat → Nat) (wr : World) (B g k k2 : Nat) (rows : List (List Int)) (O : List Int) (bs : List Bool) (nv ev : Value) (vs : List Value) : Prop :=
  BoxO f 3 wr g (.cells #[nv, ev] 50) ∧ NextV f wr B nv k ((List.range k).map (tRow rows O)) vs ∧ RowO f 6 wr B 4 ev k2 (((List.range k2).map (eRow O bs)).map Value.bool)
theorem TrO.keep {f f' : Nat → Nat} {wr w' : World} {B g k k2 : Nat} {rows : List (List Int)} {O : List Int} {bs : List Bool} {nv ev : Value} {vs : List Value} {row : Option Nat} (h : TrO f wr B g k k2 rows O bs nv ev vs) (hg : wr.grownBy w' row) (hr : ∀ b, row = some b → f b < 3 ∨ f b = 4 ∨ 7 + k ≤ f b) (hf : ∀ b, b < wr.heap.size → f' b = f b) : TrO f' w' B g k k2 rows O bs nv ev vs :=
  ⟨h.1.keep hg (fun b e => by have := hr b e; omega) hf, h.2.1.keep hg (fun b e => by have := hr b e; omega) hf, h.2.2.keep hg (fun b e => by have := hr b e; omega) hf⟩
theorem none_r {p : Nat → Prop} : ∀ b, (none : Option Nat) = some b → p b := fun _ h => nomatch h
theorem range_snoc {α : Type} (k : Nat) (q : Nat → α) : (List.range (k + 1)).map q = (List.range k).map q ++ [q k] := by rw [List.range_succ, List.map_append]; rfl
/-- One row more, laid into the automaton. -/
theorem TrO.next {f : Nat → Nat} {wA w9 : World} {B g k k2 : Nat} {rows : List (List Int)} {O : List Int} {bs : List Bool} {nv nv' ev rv : Value} {vs : List Value} (h : TrO f wA B g k k2 rows O bs nv ev vs) (hv : RowO f (7 + k) wA B 3 rv 3 ((tRow rows O k).map (Value.int .i64))) (h1 : rv.oneCell' = true)
    (hg : wA.grownBy w9 nv.ownBlock) (hown : w9.ownsRow B 55 1 nv' (k + 1) (vs ++ [rv])) (hat : nv'.ownBlock = nv.ownBlock ∨ nv'.ownBlock = some wA.heap.size) :
    TrO (fset f wA.heap.size 5) (w9.setCell ⟨g, 0, none⟩ nv') B g (k + 1) k2 rows O bs nv' ev (vs ++ [rv]) := by
  obtain ⟨b1, b2, b3⟩ := h
  have hrole : ∀ b, nv.ownBlock = some b → f b = 5 := b2.1.2
  have c1 := b1.keep (f' := fset f wA.heap.size 5) hg (fun b e => by have := hrole b e; omega) fset_lt
  have c2 := b2.snoc (z := tRow rows O k) hv h1 hg hown hat
  have c3 := b3.keep (f' := fset f wA.heap.size 5) hg (fun b e => by have := hrole b e; omega) fset_lt
  have hgs := gr_set w9 ⟨g, 0, none⟩ nv'
  have hro : ∀ b, (some g : Option Nat) = some b → fset f wA.heap.size 5 b = 3 := fun b e => by injection e with e; rw [← e]; exact c1.2
  refine ⟨⟨heap_set c1.1 _ _, c1.2⟩, ?_, c3.keep hgs (fun b e => by have := hro b e; omega) (fun _ _ => rfl)⟩
  rw [range_snoc]
  exact c2.keep hgs (fun b e => by have := hro b e; omega) (fun _ _ => rfl)
/-- One mark more. -/
theorem TrO.ends {f : Nat → Nat} {wA w9 : World} {B g k k2 : Nat} {rows : List (List Int)} {O : List Int} {bs : List Bool} {nv ev ev' : Value} {vs : List Value} (h : TrO f wA B g k k2 rows O bs nv ev vs)
    (hg : wA.grownBy w9 ev.ownBlock) (hown : w9.ownsRow B 4 1 ev' (k2 + 1) (((List.range k2).map (eRow O bs)).map Value.bool ++ [.bool (eRow O bs k2)])) (hat : ev'.ownBlock = ev.ownBlock ∨ ev'.ownBlock = some wA.heap.size) :
    TrO (fset f wA.heap.size 6) (w9.setCell ⟨g, 1, none⟩ ev') B g k (k2 + 1) rows O bs nv ev' vs := by
  obtain ⟨b1, b2, b3⟩ := h
  have hrole : ∀ b, ev.ownBlock = some b → f b = 6 := b3.2
  have c1 := b1.keep (f' := fset f wA.heap.size 6) hg (fun b e => by have := hrole b e; omega) fset_lt
  have c2 := b2.keep (f' := fset f wA.heap.size 6) hg (fun b e => by have := hrole b e; omega) fset_lt
  have c3 := b3.app hown hat
  have hgs := gr_set w9 ⟨g, 1, none⟩ ev'
  have hro : ∀ b, (some g : Option Nat) = some b → fset f wA.heap.size 6 b = 3 := fun b e => by injection e with e; rw [← e]; exact c1.2
  refine ⟨⟨heap_set c1.1 _ _, c1.2⟩, c2.keep hgs (fun b e => by have := hro b e; omega) (fun _ _ => rfl), ?_⟩
  rw [range_snoc, List.map_append]
  exact c3.keep hgs (fun b e => by have := hro b e; omega) (fun _ _ => rfl)
/-- The rows that were made read as rows. -/
theorem NextV.rs {f : Nat → Nat} {w : World} {base : Nat} {nv : Value} {k : Nat} {zs : List (List Int)} {vs : List Value} (h : NextV f w base nv k zs vs) :
    ∃ rs : List RowV, vs = rs.map slV ∧ nums rs = zs ∧ ∀ (j : Nat) (r : RowV), rs[j]? = some r → RowO f (7 + j) w base 3 (slV r) r.2.1 (r.2.2.2.map (Value.int .i64)) ∧ r.2.1 = r.2.2.2.length := by
  obtain ⟨h1, h2, h3, h4, h5⟩ := h
  have key : ∀ j, ∃ r : RowV, j < k → vs[j]? = some (slV r) ∧ zs[j]? = some r.2.2.2 ∧ RowO f (7 + j) w base 3 (slV r) r.2.1 (r.2.2.2.map (Value.int .i64)) ∧ r.2.1 = r.2.2.2.length := by
    intro j
    by_cases hj : j < k
    · obtain ⟨v, e1, e2⟩ := h5 j _ (List.getElem?_eq_getElem (show j < zs.length by omega))
      obtain ⟨A, c, rfl, -⟩ := own_vs e2.1
      exact ⟨(A, _, c, zs[j]'(by omega)), fun _ => ⟨e1, List.getElem?_eq_getElem _, e2, rfl⟩⟩
    · exact ⟨(none, 0, 0, []), fun h => absurd h hj⟩
  let q : Nat → RowV := fun j => Classical.choose (key j)
  have hq : ∀ j, j < k → vs[j]? = some (slV (q j)) ∧ zs[j]? = some (q j).2.2.2 ∧ RowO f (7 + j) w base 3 (slV (q j)) (q j).2.1 ((q j).2.2.2.map (Value.int .i64)) ∧ (q j).2.1 = (q j).2.2.2.length := fun j => Classical.choose_spec (key j)
  refine ⟨(List.range k).map q, ?_, ?_, fun j r hr => ?_⟩
  · apply List.ext_getElem?
    intro j
    by_cases hj : j < k
    · rw [(hq j hj).1]; simp [hj]
    · rw [List.getElem?_eq_none (by omega), List.getElem?_eq_none (by simp; omega)]
  · apply List.ext_getElem?
    intro j
    by_cases hj : j < k
    · rw [(hq j hj).2.1]; simp [nums, hj]
    · rw [List.getElem?_eq_none (by simp [nums]; omega), List.getElem?_eq_none (by omega)]
  · obtain ⟨hlt, he⟩ := List.getElem?_eq_some_iff.1 hr
    simp at hlt he
    subst he
    exact (hq j hlt).2.2
theorem NextV.rs' {f : Nat → Nat} {w : World} {base : Nat} {nv : Value} {k : Nat} {zs : List (List Int)} {vs : List Value} (h : NextV f w base nv k zs vs) :
    ∃ (A : Option Addr) (c : Nat) (rs : List RowV), nv = .slice A k c ∧ vs = rs.map slV ∧ nums rs = zs ∧ RS w w.heap.size A k rs ∧ (∀ (j : Nat) (r : RowV), rs[j]? = some r → RowO f (7 + j) w base 3 (slV r) r.2.1 (r.2.2.2.map (Value.int .i64)) ∧ r.2.1 = r.2.2.2.length) := by
  obtain ⟨rs, e1, e2, e3⟩ := h.rs
  obtain ⟨A, c, rfl, hc, hm, hv, -⟩ := own_vs h.1.1
  rw [e1] at hv
  refine ⟨A, c, rs, rfl, e1, e2, ⟨hv, fun r hr => ?_⟩, e3⟩
  obtain ⟨j, hj, he⟩ := List.mem_iff_getElem.1 hr
  obtain ⟨g1, g2⟩ := e3 j r (by rw [List.getElem?_eq_getElem hj, he])
  obtain ⟨A', c', e', hc', hm', hv', -⟩ := own_vs g1.1
  injection e' with q1 q2 q3
  rw [q1, q3]
  exact ⟨hv', hc', hm'⟩
end Go.Proofs.Ytcphbncgkemdoaa
