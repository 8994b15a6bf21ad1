/-
  Slices of moves in memory; the laws' own functions on them.
-/
import Derived.Test.YtcphbncgkemdoaaDfaV2
namespace Go.Proofs.Ytcphbncgkemdoaa
open Go.RowKit
set_option linter.unusedVariables false
set_option maxRecDepth 100000

abbrev Mv := Int × Int × Int
abbrev mvV (a b c : Int) : Value := .agg #[.int .i64 a, .int .i64 b, .int .i64 c]
/-- The block in which a move that is handed over lies. -/
abbrev mbox (a b c : Int) : Obj := .cells #[.int .i64 a, .int .i64 b, .int .i64 c] 87
abbrev lmbox (a b c : Int) : Obj := .cells #[.int .i64 a, .int .i64 b, .int .i64 c] 99
/-- A slice that reads as a list of moves, in cells below block B. -/
def MS (w : World) (B : Nat) (A : Option Addr) (n : Nat) (e : List Mv) : Prop :=
  e.length = n ∧ (0 < n → ∃ b off, A = some ⟨b, off, none⟩ ∧ b < B ∧ ∀ i x y z, e[i]? = some (x, y, z) → w.cell? ⟨b, off + i * 3, none⟩ = some (.int .i64 x) ∧ w.cell? ⟨b, off + i * 3 + 1, none⟩ = some (.int .i64 y) ∧ w.cell? ⟨b, off + i * 3 + 2, none⟩ = some (.int .i64 z))
theorem MS.keep {w w' : World} {B B' : Nat} {A : Option Addr} {n : Nat} {e : List Mv} (h : MS w B A n e) (hB : B ≤ B') (hk : ∀ b o, b < B → w'.cell? ⟨b, o, none⟩ = w.cell? ⟨b, o, none⟩) : MS w' B' A n e := by
  refine ⟨h.1, fun hn => ?_⟩
  obtain ⟨b, off, e1, hb, hc⟩ := h.2 hn
  exact ⟨b, off, e1, by omega, fun i x y z hi => by rw [hk _ _ hb, hk _ _ hb, hk _ _ hb]; exact hc i x y z hi⟩
theorem MS.up {w w' : World} {A : Option Addr} {n : Nat} {e : List Mv} (h : MS w w.heap.size A n e) (hb : Below w.heap.size w w') : MS w' w'.heap.size A n e :=
  h.keep hb.size fun b o hlt => hb.cell (p := ⟨b, o, none⟩) hlt
theorem MS.high {w w' : World} {B B' base : Nat} {A : Option Addr} {n : Nat} {e : List Mv} (h : MS w B A n e) (hB : B ≤ B') (hge : ∀ b o, A = some ⟨b, o, none⟩ → base ≤ b) (hk : ∀ b o, base ≤ b → b < B → w'.cell? ⟨b, o, none⟩ = w.cell? ⟨b, o, none⟩) : MS w' B' A n e := by
  refine ⟨h.1, fun hn => ?_⟩
  obtain ⟨b, off, e1, hb, hc⟩ := h.2 hn
  have hg := hge _ _ e1
  exact ⟨b, off, e1, by omega, fun i x y z hi => by rw [hk _ _ hg hb, hk _ _ hg hb, hk _ _ hg hb]; exact hc i x y z hi⟩
theorem MS.at {w : World} {B : Nat} {A : Option Addr} {n : Nat} {e : List Mv} (h : MS w B A n e) {i : Nat} (hi : i < n) :
    ∃ b off x y z, A = some ⟨b, off, none⟩ ∧ b < B ∧ e[i]? = some (x, y, z) ∧ w.cell? ⟨b, off + i * 3, none⟩ = some (.int .i64 x) ∧ w.cell? ⟨b, off + i * 3 + 1, none⟩ = some (.int .i64 y) ∧ w.cell? ⟨b, off + i * 3 + 2, none⟩ = some (.int .i64 z) := by
  obtain ⟨b, off, e1, hb, hc⟩ := h.2 (by omega)
  have hl : i < e.length := by rw [h.1]; exact hi
  exact ⟨b, off, e[i].1, e[i].2.1, e[i].2.2, e1, hb, List.getElem?_eq_getElem hl, hc i _ _ _ (List.getElem?_eq_getElem hl)⟩
/-- The values of some moves. -/
def flatM : List Mv → List Value
  | [] => []
  | p :: r => .int .i64 p.1 :: .int .i64 p.2.1 :: .int .i64 p.2.2 :: flatM r
theorem flatM_length (e : List Mv) : (flatM e).length = e.length * 3 := by
  induction e with
  | nil => rfl
  | cons p e ih => simp [flatM, ih]; omega
theorem flatM_append (a b : List Mv) : flatM (a ++ b) = flatM a ++ flatM b := by
  induction a with
  | nil => rfl
  | cons p a ih => simp [flatM, ih]
theorem flatM_at {e : List Mv} {i : Nat} {x y z : Int} (h : e[i]? = some (x, y, z)) : (flatM e)[i * 3]? = some (.int .i64 x) ∧ (flatM e)[i * 3 + 1]? = some (.int .i64 y) ∧ (flatM e)[i * 3 + 2]? = some (.int .i64 z) := by
  induction e generalizing i with
  | nil => cases h
  | cons p e ih =>
    cases i with
    | zero =>
      simp at h
      subst h
      exact ⟨rfl, rfl, rfl⟩
    | succ i =>
      have h' : e[i]? = some (x, y, z) := by simpa using h
      obtain ⟨h1, h2, h3⟩ := ih h'
      have e1 : (i + 1) * 3 = i * 3 + 1 + 1 + 1 := by omega
      rw [e1]
      exact ⟨h1, h2, h3⟩
/-- Block g is being filled: n moves, the first of them known. -/
def FillM (w : World) (g n : Nat) (e : List Mv) : Prop := ∃ cur : Array Value, w.heap[g]? = some (.cells cur 87 (0, 0)) ∧ cur.size = n * 3 ∧ cur.toList.take (e.length * 3) = flatM e
theorem FillM.ms {w : World} {g n : Nat} {e : List Mv} (h : FillM w g n e) (hl : e.length = n) : MS w w.heap.size (some ⟨g, 0, none⟩) n e := by
  obtain ⟨cur, h1, h2, h3⟩ := h
  refine ⟨hl, fun hn => ⟨g, 0, rfl, (Array.getElem?_eq_some_iff.1 h1).1, fun i x y z hi => ?_⟩⟩
  obtain ⟨hlt, he⟩ := List.getElem?_eq_some_iff.1 hi
  obtain ⟨q1, q2, q3⟩ := flatM_at hi
  rw [← h3] at q1 q2 q3
  rw [List.getElem?_take, if_pos (by omega)] at q1 q2 q3
  refine ⟨?_, ?_, ?_⟩
  · rw [cell_of_row w _ _ _ _ _ h1, ← Array.getElem?_toList, Nat.zero_add]; exact q1
  · rw [cell_of_row w _ _ _ _ _ h1, ← Array.getElem?_toList, Nat.zero_add]; exact q2
  · rw [cell_of_row w _ _ _ _ _ h1, ← Array.getElem?_toList, Nat.zero_add]; exact q3
theorem take_set3 {cur : Array Value} {e : List Mv} {x y z : Int} {i : Nat} (hl : e.length = i) (hi : i * 3 + 2 < cur.size) (h : cur.toList.take (e.length * 3) = flatM e) :
    (((cur.setIfInBounds (i * 3) (.int .i64 x)).setIfInBounds (i * 3 + 1) (.int .i64 y)).setIfInBounds (i * 3 + 2) (.int .i64 z)).toList.take ((e ++ [(x, y, z)]).length * 3) = flatM (e ++ [(x, y, z)]) := by
  subst hl
  have h1 : e.length * 3 + 2 < cur.toList.length := by simpa using hi
  rw [List.length_append, List.length_singleton, flatM_append, ← h]
  simp only [Array.toList_setIfInBounds, flatM]
  apply List.ext_getElem?
  intro j
  rw [List.getElem?_take]
  by_cases hj : j < e.length * 3
  · rw [if_pos (by omega), List.getElem?_set_ne (by omega), List.getElem?_set_ne (by omega), List.getElem?_set_ne (by omega), List.getElem?_append_left (by rw [List.length_take]; omega), List.getElem?_take, if_pos hj]
  · by_cases hj0 : j = e.length * 3
    · subst hj0
      rw [if_pos (by omega), List.getElem?_set_ne (by omega), List.getElem?_set_ne (by omega), List.getElem?_set_self (by omega), List.getElem?_append_right (by rw [List.length_take]; omega)]
      rw [List.length_take, Nat.min_eq_left (by omega)]; simp
    · by_cases hj1 : j = e.length * 3 + 1
      · subst hj1
        rw [if_pos (by omega), List.getElem?_set_ne (by omega), List.getElem?_set_self (by rw [List.length_set]; omega), List.getElem?_append_right (by rw [List.length_take]; omega)]
        rw [List.length_take, Nat.min_eq_left (by omega)]; simp
      · by_cases hj2 : j = e.length * 3 + 2
        · subst hj2
          rw [if_pos (by omega), List.getElem?_set_self (by rw [List.length_set, List.length_set]; omega), List.getElem?_append_right (by rw [List.length_take]; omega)]
          rw [List.length_take, Nat.min_eq_left (by omega)]; simp
        · rw [if_neg (by omega), List.getElem?_append_right (by rw [List.length_take]; omega), List.length_take, Nat.min_eq_left (by omega), List.getElem?_eq_none (by simp; omega)]
theorem take_nextM {e : List Mv} {i : Nat} {p : Mv} (h : e[i]? = some p) : e.take (i + 1) = e.take i ++ [p] := by
  obtain ⟨hlt, he⟩ := List.getElem?_eq_some_iff.1 h
  rw [List.take_succ_eq_append_getElem hlt, he]
theorem szMoveS_any (w : World) (A : Option Addr) (n c : Nat) (left : Int) (hn : n ≤ 9223372036854775807) (h0 : 0 ≤ left) (h1 : left ≤ 1048576) :
    Calls Try.prog 68 #[.slice A n c, .int .i64 left] w fun r w' => r = .returned (.int .i64 (if left < (n : Int) then -1 else left - (n : Int))) ∧ w = w' := by
  by_cases h : left < (n : Int)
  · rw [if_pos h]
    have h' : left - (n : Int) < 0 := by omega
    go_enter Try.func68, Try.ntmps68
    go_wp2
    go_ret
    exact ⟨rfl, rfl⟩
  · rw [if_neg h]
    have h' : ¬ left - (n : Int) < 0 := by omega
    go_enter Try.func68, Try.ntmps68
    go_wp2
    go_ret
    exact ⟨rfl, rfl⟩
theorem toMove_any (a b c : Int) (w : World) :
    Calls Try.prog 86 #[mvV a b c] w fun e w' => e = .returned (mvV a b c) ∧ ((w.alloc (lmbox a b c)).alloc (mbox a b c)).alloc (mbox a b c) = w' := by
  go_enter Try.func86, Try.ntmps86
  go_wp2
  exact bodyPost_ret (v := mvV a b c) (by simp [results, Try.results86, go_sem]) rfl ⟨rfl, rfl⟩
/-- Two moves are equal. -/
def eqM (a b c d e f : Int) : Bool := decide (a = d) && (decide (b = e) && decide (c = f))
theorem eqMove_any (a b c d e f : Int) (w : World) :
    Calls Try.prog 88 #[mvV a b c, mvV d e f] w fun r w' => r = .returned (.bool (eqM a b c d e f)) ∧ (w.alloc (mbox a b c)).alloc (mbox d e f) = w' := by
  by_cases h1 : a = d
  · subst h1
    by_cases h2 : b = e
    · subst h2
      by_cases h3 : c = f
      · subst h3
        go_enter Try.func88, Try.ntmps88
        go_wp2
        go_ret
        exact ⟨ret_bool (by simp [eqM]), rfl⟩
      · have h3n : (c != f) = true := by simpa using h3
        go_enter Try.func88, Try.ntmps88
        go_wp2
        go_ret
        exact ⟨ret_bool (by simp [eqM, h3]), rfl⟩
    · have h2n : (b != e) = true := by simpa using h2
      go_enter Try.func88, Try.ntmps88
      go_wp2
      go_ret
      exact ⟨ret_bool (by simp [eqM, h2]), rfl⟩
  · have h1n : (a != d) = true := by simpa using h1
    go_enter Try.func88, Try.ntmps88
    go_wp2
    go_ret
    exact ⟨ret_bool (by simp [eqM, h1]), rfl⟩
end Go.Proofs.Ytcphbncgkemdoaa
