/-
  Memory in which each block has one role.
-/
import Derived.Test.YtcphbncgkemdoaaTrim
import Derived.Laws.OwnMore
import Derived.Laws.MakeOwn
import Derived.Maps.OwnSet
import Derived.Maps.AppendAt
namespace Go.Proofs.Ytcphbncgkemdoaa
open Go.RowKit
set_option linter.unusedVariables false
set_option maxRecDepth 100000

theorem blk_lt {w : World} {g : Nat} {o : Obj} (h : w.heap[g]? = some o) : g < w.heap.size := (Array.getElem?_eq_some_iff.1 h).1
theorem bel_gr {w w' : World} (h : Below w.heap.size w w') : w.grownBy w' none := ⟨h.os, h.tape, h.output, h.size, fun k hk _ => h.block k hk⟩
theorem gr_set (w : World) (a : Addr) (u : Value) : w.grownBy (w.setCell a u) (some a.block) :=
  ⟨rfl, rfl, rfl, by simp, fun k _ hk => Below.heap_setCell _ _ _ _ (fun e => hk (by rw [e]))⟩
/-- A value's block has a role. -/
def Rl (f : Nat → Nat) (i : Nat) (o : Option Nat) : Prop := ∀ b, o = some b → f b = i
def RowO (f : Nat → Nat) (i : Nat) (w : World) (base : Nat) (t : TypeId) (v : Value) (n : Nat) (xs : List Value) : Prop := w.ownsRow base t 1 v n xs ∧ Rl f i v.ownBlock
theorem RowO.keep {f f' : Nat → Nat} {i : Nat} {w w' : World} {base : Nat} {t : TypeId} {v : Value} {n : Nat} {xs : List Value} {row : Option Nat} (h : RowO f i w base t v n xs) (hg : w.grownBy w' row) (hr : ∀ b, row = some b → f b ≠ i) (hf : ∀ b, b < w.heap.size → f' b = f b) : RowO f' i w' base t v n xs := by
  refine ⟨h.1.kept hg ?_, fun b e => (hf b (h.1.lt b e).2).trans (h.2 b e)⟩
  rcases e : v.ownBlock with _ | b
  · exact .inl rfl
  · refine .inr fun e' => ?_
    exact hr b e'.symm (h.2 b e)
/-- A new block gets a role. -/
def fset (f : Nat → Nat) (s i : Nat) : Nat → Nat := fun x => if x = s then i else f x
theorem fset_lt {f : Nat → Nat} {s i : Nat} : ∀ b, b < s → fset f s i b = f b := fun b h => if_neg (by omega)
theorem fset_at {f : Nat → Nat} {s i : Nat} : fset f s i s = i := if_pos rfl
theorem RowO.app {f : Nat → Nat} {i : Nat} {w w' : World} {base : Nat} {t : TypeId} {v v' : Value} {n n' : Nat} {xs xs' : List Value} (h : RowO f i w base t v n xs) (hown : w'.ownsRow base t 1 v' n' xs') (hat : v'.ownBlock = v.ownBlock ∨ v'.ownBlock = some w.heap.size) : RowO (fset f w.heap.size i) i w' base t v' n' xs' := by
  refine ⟨hown, fun b e => ?_⟩
  rcases hat with h1 | h1
  · rw [h1] at e
    rw [fset_lt b (h.1.lt b e).2]; exact h.2 b e
  · rw [h1] at e; injection e with e; subst e; exact fset_at
/-- A block with a role. -/
def BoxO (f : Nat → Nat) (i : Nat) (w : World) (g : Nat) (o : Obj) : Prop := w.heap[g]? = some o ∧ f g = i
theorem BoxO.keep {f f' : Nat → Nat} {i : Nat} {w w' : World} {g : Nat} {o : Obj} {row : Option Nat} (h : BoxO f i w g o) (hg : w.grownBy w' row) (hr : ∀ b, row = some b → f b ≠ i) (hf : ∀ b, b < w.heap.size → f' b = f b) : BoxO f' i w' g o :=
  ⟨(hg.block g (blk_lt h.1) (fun e => hr g e.symm h.2)).trans h.1, (hf g (blk_lt h.1)).trans h.2⟩
/-- Rows of numbers, one behind the other. -/
def NextV (f : Nat → Nat) (w : World) (base : Nat) (nv : Value) (k : Nat) (zs : List (List Int)) (vs : List Value) : Prop :=
  RowO f 5 w base 55 nv k vs ∧ zs.length = k ∧ vs.length = k ∧ (∀ u ∈ vs, u.oneCell' = true) ∧ ∀ (j : Nat) (z : List Int), zs[j]? = some z → ∃ v, vs[j]? = some v ∧ RowO f (7 + j) w base 3 v z.length (z.map (Value.int .i64))
theorem NextV.keep {f f' : Nat → Nat} {w w' : World} {base : Nat} {nv : Value} {k : Nat} {zs : List (List Int)} {vs : List Value} {row : Option Nat} (h : NextV f w base nv k zs vs) (hg : w.grownBy w' row) (hr : ∀ b, row = some b → f b < 5 ∨ f b = 6 ∨ 7 + k ≤ f b) (hf : ∀ b, b < w.heap.size → f' b = f b) : NextV f' w' base nv k zs vs := by
  obtain ⟨h1, h2, h3, h4, h5⟩ := h
  refine ⟨h1.keep hg (fun b e => by have := hr b e; omega) hf, h2, h3, h4, fun j z hz => ?_⟩
  obtain ⟨v, e1, e2⟩ := h5 j z hz
  have hj : j < k := by have := (List.getElem?_eq_some_iff.1 hz).1; omega
  exact ⟨v, e1, e2.keep hg (fun b e => by have := hr b e; omega) hf⟩
/-- One row more. -/
theorem NextV.snoc {f : Nat → Nat} {w w' : World} {base : Nat} {nv nv' v : Value} {k : Nat} {zs : List (List Int)} {z : List Int} {vs : List Value} (h : NextV f w base nv k zs vs) (hv : RowO f (7 + k) w base 3 v z.length (z.map (Value.int .i64))) (h1c : v.oneCell' = true) (hg : w.grownBy w' nv.ownBlock)
    (hown : w'.ownsRow base 55 1 nv' (k + 1) (vs ++ [v])) (hat : nv'.ownBlock = nv.ownBlock ∨ nv'.ownBlock = some w.heap.size) : NextV (fset f w.heap.size 5) w' base nv' (k + 1) (zs ++ [z]) (vs ++ [v]) := by
  obtain ⟨h1, h2, h3, h4, h5⟩ := h
  refine ⟨h1.app hown hat, by simp [h2], by simp [h3], fun u hu => ?_, fun j x hx => ?_⟩
  · rcases List.mem_append.1 hu with hu | hu
    · exact h4 u hu
    · simp at hu; subst hu; exact h1c
  · by_cases hj : j < k
    · rw [List.getElem?_append_left (by omega)] at hx
      obtain ⟨u, a, b⟩ := h5 j x hx
      exact ⟨u, by rw [List.getElem?_append_left (by omega)]; exact a, b.keep hg (fun b' e => by have := h1.2 b' e; omega) fset_lt⟩
    · have hlt := (List.getElem?_eq_some_iff.1 hx).1
      rw [List.length_append, List.length_singleton] at hlt
      obtain rfl : j = k := by omega
      rw [List.getElem?_append_right (by omega), h2, Nat.sub_self] at hx
      simp at hx
      subst hx
      exact ⟨v, by rw [List.getElem?_append_right (by omega), h3, Nat.sub_self]; rfl, hv.keep hg (fun b' e => by have := h1.2 b' e; omega) fset_lt⟩
theorem NextV.nil (f : Nat → Nat) (w : World) (base : Nat) : NextV f w base (.slice none 0 0) 0 [] [] :=
  ⟨⟨⟨rfl, .inl ⟨rfl, rfl⟩⟩, fun b e => by simp [Value.ownBlock] at e⟩, rfl, rfl, (fun _ h => nomatch h), fun i e h => by simp at h⟩
theorem RowO.nil (f : Nat → Nat) (i : Nat) (w : World) (base : Nat) (t : TypeId) : RowO f i w base t (.slice none 0 0) 0 [] := ⟨⟨rfl, .inl ⟨rfl, rfl⟩⟩, fun b e => by simp [Value.ownBlock] at e⟩
theorem cell_one_lit (w : World) (v : Value) (t : TypeId) : ∀ (j : Nat) (u : Value), [v][j]? = some u → (w.alloc (.cells #[v] t)).cell? ((⟨w.heap.size, 0, none⟩ : Addr).add j) = some u := by
  intro j u hj
  have : j = 0 := by have := (List.getElem?_eq_some_iff.1 hj).1; simp at this; exact this
  subst this
  simp at hj
  subst hj
  simp [Addr.add, World.cell?_alloc_new]
theorem cell_one_at {w : World} {s : Nat} (hs : w.heap.size = s) (v : Value) (t : TypeId) : ∀ (j : Nat) (u : Value), [v][j]? = some u → (w.alloc (.cells #[v] t)).cell? ((⟨s, 0, none⟩ : Addr).add j) = some u := by subst hs; exact cell_one_lit w v t
/-- A row of numbers reads as a slice. -/
theorem own_vs {w : World} {base n : Nat} {t : TypeId} {v : Value} {xs : List Value} (h : w.ownsRow base t 1 v n xs) : ∃ A c, v = .slice A n c ∧ n ≤ c ∧ c ≤ maxLen ∧ VS w w.heap.size A n xs ∧ (0 < n → ∃ g, A = some ⟨g, 0, none⟩ ∧ base ≤ g) := by
  obtain ⟨A, c, rfl, hc, hA⟩ := own_shape h
  refine ⟨A, c, rfl, hc, ?_, ⟨by have := h.1; omega, fun hn => ?_⟩, fun hn => ?_⟩
  · rcases h.2 with ⟨h0, _⟩ | ⟨g', cap', cur', e1, e2, e3, e4, e5, -⟩
    · injection h0 with _ _ h1; subst h1; simp [maxLen]
    · injection e1 with _ _ h1; subst h1; exact e5
  · obtain ⟨g, rfl⟩ := hA hn
    refine ⟨g, 0, rfl, (h.lt g rfl).2, fun i u hi => ?_⟩
    have hlt := (List.getElem?_eq_some_iff.1 hi).1
    have := h.1
    rw [Nat.zero_add, h.cellAt i (by omega)]
    exact hi
  · obtain ⟨g, rfl⟩ := hA hn
    exact ⟨g, rfl, (h.lt g rfl).1⟩
theorem wpList_insert_own {H : Type} {P : Program} (w : World) {ops : Array Oper} {rest : List Oper} {o : Oper} {a : Act} {Q : Exit → Act → World → Prop}
    (hg : o.guard = none) (m x v : Operand) (t : TypeId) (hop : o.op = Op.insert t m x v)
    (k e : TypeId) (K : Maps.Keyed P k) (ht : P.underlying t = some (.map k e)) (R : Value → Option (DataW H × List MemPlace)) (b n : Nat) (D : DataW H)
    (hm : a.eval m = .map (some b)) (hown : w.ownsMap P k R b n D) (hn : n < maxLen) (key val : Value) (kl : Lit) (hx : a.eval x = key) (hv : a.eval v = val) (hkey : keyOf P k key = some kl)
    (d : DataW H) (ps : List MemPlace) (hval : R val = some (d, ps))
    (hK : ∀ w', w'.ownsMap P k R b (n + 1) (D.put kl d) → w.grownBy w' (some b) → wpList P ops Q rest (a.put o.dst undef) w') :
    wpList P ops Q (o :: rest) a w := by
  refine wpList_plain hg fun K' hK' => ?_
  obtain ⟨w', hrun, r1, r2⟩ := hown.update K ht hn hkey hval
  unfold Oper.wp
  simp [execOp, hop, hm, hx, hv, hrun, Result.andThen]
  exact hK' _ _ (hK w' r1 r2)
/-- A map that tells the places of states. -/
def MapP (D : DataW Unit) (M : List Int) : Prop := ∀ x : Int, Maps.has D (.int .i64 x) = decide (x ∈ M) ∧ (x ∈ M → ∀ z, D.atKey (.int .i64 x) z = .lit (.int .i64 (M.idxOf x)))
def MapO (f : Nat → Nat) (w : World) (gm : Nat) (M : List Int) : Prop := ∃ (n : Nat) (D : DataW Unit), n ≤ M.length ∧ w.ownsMap Try.prog 3 (plainElem Try.prog 3) gm n D ∧ MapP D M ∧ f gm = 1
theorem MapO.keep {f f' : Nat → Nat} {w w' : World} {gm : Nat} {M : List Int} {row : Option Nat} (h : MapO f w gm M) (hg : w.grownBy w' row) (hr : ∀ b, row = some b → f b ≠ 1) (hf : ∀ b, b < w.heap.size → f' b = f b) : MapO f' w' gm M := by
  obtain ⟨n, D, h1, h2, h3, h4⟩ := h
  exact ⟨n, D, h1, h2.kept hg (fun e => hr gm e.symm h4), h3, (hf gm h2.lt).trans h4⟩
theorem key_int (x : Int) : WideAt.IsKeyLit (.int .i64 x) := by simp [WideAt.IsKeyLit]
theorem MapP.put {D : DataW Unit} {M : List Int} (h : MapP D M) (hD : Maps.IsMap D) {x : Int} (hx : ¬ x ∈ M) : MapP (D.put (.int .i64 x) (.lit (.int .i64 (M.length : Int)))) (M ++ [x]) := by
  intro y
  by_cases e : y = x
  · subst e
    refine ⟨by rw [Maps.has_put_same hD (key_int y)]; simp, fun _ z => ?_⟩
    rw [Maps.atKey_put_same hD (key_int y), List.idxOf_append, if_neg hx]
    simp
  · have hne : (Lit.int IntKind.i64 y) ≠ .int .i64 x := fun h => e (by injection h)
    refine ⟨by rw [Maps.has_put_other hne, (h y).1]; simp [e], fun hy z => ?_⟩
    have hy' : y ∈ M := by
      rcases List.mem_append.1 hy with h1 | h1
      · exact h1
      · simp at h1; exact absurd h1 e
    rw [Maps.atKey_put_other hne, (h y).2 hy', List.idxOf_append, if_pos hy']
end Go.Proofs.Ytcphbncgkemdoaa
