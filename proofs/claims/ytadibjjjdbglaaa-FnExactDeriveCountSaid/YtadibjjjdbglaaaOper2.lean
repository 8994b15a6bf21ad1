/-
  The operands that the reference hands out: the walks. The marks that a law writes and looks for.
-/
import Derived.Test.YtadibjjjdbglaaaOper
namespace Go.Proofs.Ytadibjjjdbglaaa
open Go.RowKit
set_option linter.unusedVariables false
set_option maxRecDepth 100000

theorem SL.empty {w : World} {B g : Nat} : SL w B (some ⟨g, 0, none⟩) 0 0 [] := ⟨PS.nil, Nat.le_refl _, by simp [maxLen], by intro h; cases h⟩
/-- The operands of 'l2Split', one of them: a slice that reads as it. -/
theorem SplitD.opd {w : World} {A : Option Addr} {n c : Nat} {t : Ex} {r : Ending} {w' : World} (hg : t.good) (h : PS w w.heap.size A n t.flat) (hc : n ≤ c) (hcm : c ≤ maxLen) (hd : SplitD w A c t r w') :
    ∃ A1 n1 c1 A2 n2 c2, r = .returned (.tuple #[.slice A1 n1 c1, .slice A2 n2 c2]) ∧ SL w' w'.heap.size A1 n1 c1 (t.opd 0) ∧ SL w' w'.heap.size A2 n2 c2 (t.opd 1) ∧ Below w.heap.size w w' := by
  have hlen := h.len
  cases t with
  | leaf k l =>
    obtain ⟨g1, g2, rfl, hb⟩ := hd
    exact ⟨_, _, _, _, _, _, rfl, SL.empty, SL.empty, hb⟩
  | un k a =>
    obtain ⟨g2, rfl, hb⟩ := hd
    simp only [Ex.sz] at hlen
    exact ⟨_, _, _, _, _, _, rfl, SL.tree ((PS.un h).up hb) (by omega) hcm, SL.empty, hb⟩
  | bin k a b =>
    obtain ⟨ba, off, rfl, rfl, hb⟩ := hd
    simp only [Ex.sz] at hlen
    exact ⟨_, _, _, _, _, _, rfl, SL.tree ((PS.bin h).1.up hb) (by omega) hcm, SL.tree ((PS.bin h).2.up hb) (by omega) (by omega), hb⟩
theorem Ex.opd_len (t : Ex) (k : Nat) : (t.opd k).length ≤ t.sz := by
  cases t with
  | leaf k' l => simp [opd]
  | un k' a => simp only [opd, sz]; split <;> simp [flat_length]
  | bin k' a b => simp only [opd, sz]; split <;> simp [flat_length] <;> omega
theorem own_keep {w w' : World} {base n size : Nat} {t : TypeId} {v : Value} {xs : List Value} (h : w.ownsRow base t size v n xs) (hb : Below w.heap.size w w') : w'.ownsRow base t size v n xs := by
  refine ⟨h.1, ?_⟩
  rcases h.2 with h2 | ⟨g, cap, cur, e1, e2, e3, e4⟩
  · exact .inl h2
  · exact .inr ⟨g, cap, cur, e1, e2, (hb.block g (Array.getElem?_eq_some_iff.1 e3).1).trans e3, e4⟩
theorem own_apart {w w0 : World} {B1 B2 n1 n2 s1 s2 : Nat} {t1 t2 : TypeId} {v1 v2 : Value} {x1 x2 : List Value} (h1 : w.ownsRow B1 t1 s1 v1 n1 x1) (h2 : w0.ownsRow B2 t2 s2 v2 n2 x2) (hB : w0.heap.size ≤ B1) : v1.ownBlock = none ∨ v1.ownBlock ≠ v2.ownBlock := by
  rcases e : v1.ownBlock with _ | k
  · exact .inl rfl
  · right
    intro he
    have h3 := own_block h1 k e
    have h4 := (h2.lt k he.symm).2
    omega
theorem only_set2 {a w : World} {g : Nat} {n c : Nat} (h : a.grownBy w (Value.slice (some ⟨g, 0, none⟩) n c).ownBlock) (i j : Nat) (u v : Value) : a.grownBy ((w.setCell ⟨g, i, none⟩ u).setCell ⟨g, j, none⟩ v) (Value.slice (some ⟨g, 0, none⟩) n c).ownBlock := by
  have e : (Value.slice (some ⟨g, 0, none⟩) n c).ownBlock = some g := rfl
  rw [e] at *
  refine ⟨h.os, h.tape, h.output, by simpa [World.setCell] using h.size, fun k hk hne => ?_⟩
  have hkg : k ≠ g := by rintro rfl; exact hne rfl
  exact (Below.heap_setCell _ _ _ _ hkg).trans ((Below.heap_setCell _ _ _ _ hkg).trans (h.block k hk hne))
/-- The marks from k on. -/
def marks (k : Int) : Nat → List Pt
  | 0 => []
  | n + 1 => (k, k + 1) :: marks (k + 2) n
theorem marks_length (k : Int) (n : Nat) : (marks k n).length = n := by
  induction n generalizing k with
  | zero => rfl
  | succ n ih => simp [marks, ih]
theorem marks_get (k : Int) (n i : Nat) (h : i < n) : (marks k n)[i]? = some (k + 2 * i, k + 2 * i + 1) := by
  induction n generalizing k i with
  | zero => omega
  | succ n ih =>
    cases i with
    | zero => simp [marks]
    | succ i => simp only [marks, List.getElem?_cons_succ]; rw [ih (k + 2) i (by omega)]; simp; omega
/-- What the first i marks make of a row. -/
def markUp (e : List Pt) (i : Nat) : List Pt := marks 1 i ++ e.drop i
theorem flatV_set {e : List Pt} {i : Nat} {k l : Int} (h : i < e.length) : ((flatV e).set (i * 2) (.int .i64 k)).set (i * 2 + 1) (.int .i64 l) = flatV (e.set i (k, l)) := by
  induction e generalizing i with
  | nil => simp at h
  | cons p e ih =>
    cases i with
    | zero => simp [flatV]
    | succ i =>
      have := ih (i := i) (by simpa using h)
      simp only [flatV, List.set_cons_succ, Nat.succ_mul]
      rw [← this]
theorem marks_snoc (k : Int) (n : Nat) : marks k (n + 1) = marks k n ++ [(k + 2 * n, k + 2 * n + 1)] := by
  induction n generalizing k with
  | zero => simp [marks]
  | succ n ih => rw [marks, ih (k + 2), marks]; simp <;> omega
theorem markUp_next {e : List Pt} {i : Nat} (h : i < e.length) : (markUp e i).set i (1 + 2 * (i : Int), 1 + 2 * (i : Int) + 1) = markUp e (i + 1) := by
  unfold markUp
  rw [List.set_append_right _ _ (by rw [marks_length]; exact Nat.le_refl _), marks_length, Nat.sub_self, marks_snoc]
  have hd := List.drop_eq_getElem_cons h
  rw [hd, List.set_cons_zero, List.append_assoc]; rfl
theorem markUp_length {e : List Pt} {i : Nat} (h : i ≤ e.length) : (markUp e i).length = e.length := by
  unfold markUp; rw [List.length_append, marks_length, List.length_drop]; omega
def MarkD (w : World) (base : Nat) (v : Value) (n : Nat) (r : Ending) (w' : World) : Prop :=
  r = .returned (.int .i64 (1 + 2 * (n : Int))) ∧ w'.ownsRow base 45 2 v n (flatV (marks 1 n)) ∧ w.grownBy w' v.ownBlock
set_option maxHeartbeats 1000000 in
theorem markPartS_any (w : World) (base : Nat) (v : Value) (n : Nat) (e : List Pt) (hown : w.ownsRow base 45 2 v n (flatV e)) (hn : n ≤ 1048576) :
    Calls Try.prog 36 #[v, .int .i64 1] w (MarkD w base v n) := by
  have hl := own_len hown
  obtain ⟨A, c, rfl, hc, hA⟩ := own_shape hown
  have HO := hide hown
  have HL := Lib.hid hl
  have HA := hide hA
  clear hown hl hA
  go_enter Try.func36, Try.ntmps36
  go_wp2
  go_loopw [1, 5] (fun kv i wr => ∃ j : Nat, i = .int .i64 j ∧ kv = .int .i64 (1 + 2 * (j : Int)) ∧ j ≤ n ∧ Hid (wr.ownsRow base 45 2 (.slice A n c) n (flatV (markUp e j))) ∧ w.grownBy wr (Value.slice A n c).ownBlock) (fun _ i _ => n - (intOf i).toNat)
  case atStart => exact ⟨0, rfl, rfl, Nat.zero_le _, Lib.hid (by simpa [markUp, marks] using unhide HO), World.grownBy.refl w _⟩
  case round =>
    obtain ⟨j, rfl, rfl, hj, hO, hg⟩ := hrel
    by_cases hlt : j < n
    · obtain ⟨g, rfl⟩ := (unhide HA) (by omega)
      have hO1 := hO.out
      have hlen : (flatV (markUp e j)).length = n * 2 := by rw [flatV_length, markUp_length (by rw [HL.out]; omega), HL.out]
      obtain ⟨v0, h0⟩ : ∃ v0, wr.cell? ⟨g, j * 2, none⟩ = some v0 := ⟨(flatV (markUp e j))[j * 2]'(by omega), by rw [hO1.cellAt _ (by omega)]; exact List.getElem?_eq_getElem (by omega)⟩
      obtain ⟨v1, h1⟩ : ∃ v1, wr.cell? ⟨g, j * 2 + 1, none⟩ = some v1 := ⟨(flatV (markUp e j))[j * 2 + 1]'(by omega), by rw [hO1.cellAt _ (by omega)]; exact List.getElem?_eq_getElem (by omega)⟩
      have f0 := hO1.frozenAt (j * 2)
      have f1 := hO1.frozenAt (j * 2 + 1)
      have hO2 := ((hO1.stored (j * 2) (.int .i64 (1 + 2 * (j : Int)))).1.stored (j * 2 + 1) (.int .i64 (1 + 2 * (j : Int) + 1))).1
      have hgg := only_set2 hg (j * 2) (j * 2 + 1) (.int .i64 (1 + 2 * (j : Int))) (.int .i64 (1 + 2 * (j : Int) + 1))
      rw [flatV_set (by rw [markUp_length (by rw [HL.out]; omega), HL.out]; exact hlt), markUp_next (by rw [HL.out]; exact hlt)] at hO2
      have H2 := hide hO2
      have HG := hide hgg
      clear hO1 hlen hO2 hgg hO
      go_wp2
      go_roundw
      case rel => exact ⟨j + 1, by go_num, by first | rfl | go_num | (congr 1; omega), by omega, Lib.hid (unhide H2), unhide HG⟩
      case measure => simp [intOf]; omega
    · obtain rfl : j = n := by omega
      have hfin : markUp e j = marks 1 j := by unfold markUp; rw [List.drop_eq_nil_of_le (by rw [HL.out]; exact Nat.le_refl _), List.append_nil]
      have HF := Lib.hid hfin
      clear hfin
      go_wp2
      go_ret
      refine ⟨rfl, ?_, hg⟩
      have := hO.out
      rw [HF.out] at this
      exact this
set_option maxHeartbeats 1000000 in
theorem heldPartS_any (w : World) (A : Option Addr) (n c : Nat) (h : PS w w.heap.size A n (marks 1 n)) (hn : n ≤ 1048576) :
    Calls Try.prog 37 #[.slice A n c, .int .i64 1] w fun r w' => r = .returned (.int .i64 (1 + 2 * (n : Int))) ∧ w = w' := by
  have HH := hide h
  clear h
  go_enter Try.func37, Try.ntmps37
  go_wp2
  go_loop [1, 5] (fun kv i => ∃ j : Nat, i = .int .i64 j ∧ kv = .int .i64 (1 + 2 * (j : Int)) ∧ j ≤ n) (fun _ i => n - (intOf i).toNat)
  case atStart => exact ⟨0, rfl, rfl, Nat.zero_le _⟩
  case round =>
    obtain ⟨j, rfl, rfl, hj⟩ := hrel
    by_cases hlt : j < n
    · obtain ⟨b, off, kk, l, rfl, hbB, he, hc0, hc1⟩ := (unhide HH).at hlt
      rw [marks_get 1 n j hlt] at he
      injection he with he
      injection he with he1 he2
      subst he1; subst he2
      go_wp2
      go_round
      case rel => exact ⟨j + 1, by go_num, by first | rfl | go_num | (congr 1; omega), by omega⟩
      case measure => simp [intOf]; omega
    · obtain rfl : j = n := by omega
      go_wp2
      go_ret
      exact ⟨rfl, rfl⟩
end Go.Proofs.Ytadibjjjdbglaaa
