/-
  Membership: the walk of spansOf.
-/
import Derived.Test.YtgcggmlekmjpdaaSpans4
import Derived.Laws.OwnMore
namespace Go.Proofs.Ytgcggmlekmjpdaa
open Go.RowKit
set_option linter.unusedVariables false
set_option maxRecDepth 100000

/-- The cells of one tree's array. -/
def oneV (s : List UInt8) (t : Ex) : List Value := (arr (upTo s.length (t.sp s))).toList
theorem oneV_length (s : List UInt8) (t : Ex) : (oneV s t).length = 81 := by rw [oneV, Array.length_toList, arr_size]
def stkV (s : List UInt8) : List Ex → List Value
  | [] => []
  | t :: r => oneV s t ++ stkV s r
theorem stkV_append (s : List UInt8) (a b : List Ex) : stkV s (a ++ b) = stkV s a ++ stkV s b := by
  induction a with
  | nil => rfl
  | cons t a ih => simp [stkV, ih]
theorem stkV_length (s : List UInt8) (a : List Ex) : (stkV s a).length = a.length * 81 := by
  induction a with
  | nil => rfl
  | cons t a ih => simp [stkV, ih, oneV_length]; omega
theorem stkV_one (s : List UInt8) (t : Ex) : stkV s [t] = oneV s t := by simp [stkV]
theorem oneV_one (s : List UInt8) (t : Ex) : ∀ u ∈ oneV s t, u.oneCell' = true := by
  intro u hu
  exact (Array.all_eq_true_iff_forall_mem.1 (arr_one _)) u (by simpa [oneV] using hu)
theorem span_info : (Try.prog.info? 73).map (fun i => (i.zero, i.size, i.bytes)) = some (some (.agg Try.zeroCells73), 81, 81) := by kernel_rfl
/-- One array of the stack. -/
theorem stk_range {w : World} {base g m cap : Nat} {s : List UInt8} {ts : List Ex} {t : Ex} {q : Nat} (h : w.ownsRow base 73 81 (.slice (some ⟨g, 0, none⟩) m cap) m (stkV s ts)) (hm : m = ts.length) (ht : ts[q]? = some t) : w.rangeAt g (q * 81) (oneV s t) := by
  obtain ⟨hq, he⟩ := List.getElem?_eq_some_iff.1 ht
  intro j v hv
  have hj : j < 81 := by have := (List.getElem?_eq_some_iff.1 hv).1; rwa [oneV_length] at this
  rw [h.cellAt (q * 81 + j) (by omega)]
  have e1 : ts = ts.take q ++ t :: ts.drop (q + 1) := by
    rw [← he, List.getElem_cons_drop, List.take_append_drop]
  have hl : (ts.take q).length = q := by rw [List.length_take]; omega
  rw [e1, stkV_append, List.getElem?_append_right (by rw [stkV_length, hl]; omega), stkV_length, hl, show q * 81 + j - q * 81 = j by omega, stkV, List.getElem?_append_left (by rw [oneV_length]; omega), hv]
theorem ok_world {α : Type} {a b : α} {w w' : World} (h : (Result.ok a w : Result α) = .ok b w') : w = w' := by injection h
/-- 'setCells' of a whole array is 'setRow'. -/
theorem setCells_row {w : World} {g : Nat} {old : Array Value} (Q : Nat → Nat → Bool) (hg : w.heap[g]? = some (.cells old 73 (0, 0))) (ho : old.size = 81) : w.setCells g 0 (arr Q).toList = w.setRow g (arr Q) := by
  have h1 := run_storeVar_row (P := Try.prog) w g 73 73 old (arr Q) hg (arr_info Q) (by rw [ho, arr_size]) (arr_one Q)
  have h2 := run_storeVar_mid (P := Try.prog) w g 0 73 (arr Q) (fun j hj => by
    rw [arr_size] at hj
    refine ⟨?_, by simp [World.frozen?, hg]⟩
    rw [cell_of_row w g _ _ _ _ hg, Nat.zero_add, Array.getElem?_eq_getElem (by omega)]; rfl) (arr_info Q) (arr_one Q)
  exact (ok_world (h1.symm.trans h2)).symm
theorem there_box {w : World} {g : Nat} {old : Array Value} (hg : w.heap[g]? = some (.cells old 73 (0, 0))) (ho : old.size = 81) : w.there g 0 81 := fun j hj => by
  refine ⟨?_, by simp [World.frozen?, hg]⟩
  rw [cell_of_row w g _ _ _ _ hg, Nat.zero_add, Array.getElem?_eq_getElem (by omega)]; rfl

/-- A part of a valid list, and the trees that stand there before it and behind it. -/
theorem part_cases {e : List Pt} {i : Nat} {k l : Int} {ts : List Ex} (hv : runD e 0 = some 1) (he : e[i]? = some (k, l)) (hr : runD (e.take i) 0 = some (ts.length : Int)) (hf : flats ts = e.take i) (hg : ∀ t ∈ ts, t.good) :
    (Ex.good (.leaf k l) ∧ needN k = 0 ∧ flats (ts ++ [.leaf k l]) = e.take (i + 1)) ∨
    (∃ us a, ts = us ++ [a] ∧ (k = 7 ∨ k = 8) ∧ l = 0 ∧ needN k = 1 ∧ flats (us ++ [.un k a]) = e.take (i + 1)) ∨
    (∃ us a b, ts = us ++ [a] ++ [b] ∧ (k = 4 ∨ k = 5 ∨ k = 6) ∧ l = 0 ∧ needN k = 2 ∧ flats (us ++ [.bin k a b]) = e.take (i + 1)) := by
  obtain ⟨hlt, hei⟩ := List.getElem?_eq_some_iff.1 he
  have ht : e.take (i + 1) = e.take i ++ [(k, l)] := by rw [List.take_succ_eq_append_getElem hlt, hei]
  obtain ⟨s1, s2⟩ := runD_take_next he hr
  have hn : ¬(pnI k l < 0 ∨ (ts.length : Int) < pnI k l) := by
    intro h; rw [s1 h] at hv; cases hv
  have hp : 0 ≤ pnI k l := by omega
  rw [ht]
  have hnn : pnI k l = needN k := by
    unfold pnI at *
    split
    · rfl
    · rename_i h; rw [if_neg h] at hp; omega
  rcases kind_cases hp with ⟨e0, hgd⟩ | ⟨e1, hk, hl⟩ | ⟨e2, hk, hl⟩
  · exact .inl ⟨hgd, by omega, by rw [flats_append, hf]; simp [flats, Ex.flat]⟩
  · right; left
    have hne : ts ≠ [] := by rintro rfl; simp at hn; omega
    obtain ⟨us, a, rfl⟩ : ∃ ts' t, ts = ts' ++ [t] := ⟨ts.dropLast, ts.getLast hne, (List.dropLast_concat_getLast hne).symm⟩
    refine ⟨us, a, rfl, hk, hl, by omega, ?_⟩
    rw [← hf, flats_append, flats_append, hl]; simp [flats, Ex.flat]
  · right; right
    have hlen : 2 ≤ ts.length := by omega
    have hne : ts ≠ [] := by rintro rfl; simp at hlen
    obtain ⟨ts1, b, rfl⟩ : ∃ ts' t, ts = ts' ++ [t] := ⟨ts.dropLast, ts.getLast hne, (List.dropLast_concat_getLast hne).symm⟩
    have hne1 : ts1 ≠ [] := by rintro rfl; simp at hlen
    obtain ⟨us, a, rfl⟩ : ∃ ts' t, ts1 = ts' ++ [t] := ⟨ts1.dropLast, ts1.getLast hne1, (List.dropLast_concat_getLast hne1).symm⟩
    refine ⟨us, a, b, rfl, hk, hl, by omega, ?_⟩
    rw [← hf, hl]; simp [flats_append, flats, Ex.flat]
/-- 'append' of one array onto the stack, as a step of a region. -/
theorem step_append_span {w : World} {ops : Array Oper} {o : Oper} {a : Act} {K : Act → World → Prop} {Q : Exit → Act → World → Prop} {E : Prop} (hgd : o.guard = none) (s x : Operand)
    (ho : o.op = .call { callee := .builtin .append, args := #[s, x], argTypes := #[85, 85] })
    (base : Nat) (v : Value) (n : Nat) (sl : List UInt8) (ts : List Ex) (hs : a.eval s = v) (hown : w.ownsRow base 73 81 v n (stkV sl ts))
    (g : Nat) (t : Ex) (hx : a.eval x = .slice (some ⟨g, 0, none⟩) 1 1) (hp : w.rangeAt g 0 (oneV sl t))
    (hm : n ≤ 100) (hbase : base ≤ w.heap.size)
    (h : ∀ v' w', w'.ownsRow base 73 81 v' (n + 1) (stkV sl (ts ++ [t])) → w.grownBy w' v.ownBlock → K (a.put o.dst v') w') :
    if Region.wanted o (yielded ops a.tmps) = true then Oper.wp Try.prog o a w K Q else E := by
  have hw : Region.wanted o (yielded ops a.tmps) = true := by simp [Region.wanted, hgd]
  rw [if_pos hw]
  obtain ⟨i0, hi0, hz0, hz1, hz2⟩ := info_parts span_info
  obtain ⟨v', w', hr, h2, h3, _, h5⟩ := run_append_own_at (P := Try.prog) w base 85 o.type 73 i0 (.agg Try.zeroCells73) 81 81 Try.underlying85 hi0 hz0 hz1 hz2 (by show (Try.zeroCells73).size = 81; rw [zero_sp]; simp) (by decide) v n (stkV sl ts) hown ⟨g, 0, none⟩ 1 1 (oneV sl t) (by rw [oneV_length]) (fun j u hj => by rw [Addr.add_mid]; exact hp j u hj) (oneV_one sl t) (by unfold maxLen; omega) (by omega) hbase
  unfold Oper.wp execOp
  simp only [ho, resolve, invoke, builtin, Sem.run_bind, Sem.run_pure, Result.andThen_ok, List.map_toArray, List.map_cons, List.map_nil, hs, hx, hr]
  exact h v' w' (by rw [stkV_append, stkV_one]; exact h2) h3
end Go.Proofs.Ytgcggmlekmjpdaa
