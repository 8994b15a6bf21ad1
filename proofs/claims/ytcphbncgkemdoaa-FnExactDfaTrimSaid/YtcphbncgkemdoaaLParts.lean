/-
  The laws' own functions on slices of parts: their size, their copy in the program's type, whether two are equal.
-/
import Derived.Test.YtcphbncgkemdoaaLPart
import Derived.Test.YtcphbncgkemdoaaPs
import Derived.Test.YtcphbncgkemdoaaStarts
namespace Go.Proofs.Ytcphbncgkemdoaa
open Go.RowKit
set_option linter.unusedVariables false
set_option maxRecDepth 100000

/-- The cells of a list of parts. -/
def flatV : List Pt → List Value
  | [] => []
  | p :: r => .int .i64 p.1 :: .int .i64 p.2 :: flatV r
theorem flatV_length (e : List Pt) : (flatV e).length = e.length * 2 := by
  induction e with
  | nil => rfl
  | cons p e ih => simp [flatV, ih]; omega
theorem flatV_append (a b : List Pt) : flatV (a ++ b) = flatV a ++ flatV b := by
  induction a with
  | nil => rfl
  | cons p a ih => simp [flatV, ih]
theorem flatV_get {e : List Pt} {i : Nat} {k l : Int} (h : e[i]? = some (k, l)) : (flatV e)[i * 2]? = some (.int .i64 k) ∧ (flatV e)[i * 2 + 1]? = some (.int .i64 l) := by
  induction e generalizing i with
  | nil => simp at h
  | cons p e ih =>
    cases i with
    | zero => simp at h; subst h; simp [flatV]
    | succ i =>
      have := ih (i := i) (by simpa using h)
      simp only [flatV, Nat.succ_mul]
      exact ⟨by simpa using this.1, by simpa using this.2⟩
/-- A row of the call's own that holds parts reads as these parts. -/
theorem PS_own {w : World} {base n : Nat} {t : TypeId} {v : Value} {e : List Pt} (h : w.ownsRow base t 2 v n (flatV e)) : ∃ A c, v = .slice A n c ∧ n ≤ c ∧ PS w w.heap.size A n e := by
  obtain ⟨A, c, rfl, hc, hA⟩ := own_shape h
  refine ⟨A, c, rfl, hc, ?_, fun hn => ?_⟩
  · have := h.1; rw [flatV_length] at this; omega
  · obtain ⟨g, rfl⟩ := hA hn
    refine ⟨g, 0, rfl, ?_, fun i k l hi => ?_⟩
    · rcases h.2 with ⟨h0, _⟩ | ⟨g', cap', cur', e1, e2, e3, -⟩
      · cases h0
      · injection e1 with e1 _ _
        injection e1 with e1
        injection e1 with e1
        subst e1
        exact (Array.getElem?_eq_some_iff.1 e3).1
    · obtain ⟨f1, f2⟩ := flatV_get hi
      have hlt : i < e.length := (List.getElem?_eq_some_iff.1 hi).1
      have hle : e.length = n := by have := h.1; rw [flatV_length] at this; omega
      rw [Nat.zero_add]
      rw [h.cellAt (i * 2) (by omega), h.cellAt (i * 2 + 1) (by omega)]
      exact ⟨f1, f2⟩

theorem szPartS_any (w : World) (A : Option Addr) (n c : Nat) (hn : (n : Int) ≤ 9223372036854775807) :
    Calls Try.prog 30 #[.slice A n c, .int .i64 1048576] w fun r w' => r = .returned (.int .i64 (if 1048576 < n then -1 else 1048576 - (n : Int))) ∧ w = w' := by
  by_cases h : 1048576 < n
  · go_enter Try.func30, Try.ntmps30
    go_wp2
    go_ret
    exact ⟨ret_int (by simp), rfl⟩
  · go_enter Try.func30, Try.ntmps30
    go_wp2
    go_ret
    exact ⟨ret_int (by simp), rfl⟩

/-- Two parts are equal. -/
def eqP (a b c d : Int) : Bool := decide (a = c) && decide (b = d)
theorem eqPart_any (a b c d : Int) (w : World) :
    Calls Try.prog 59 #[part a b, part c d] w fun r w' => r = .returned (.bool (eqP a b c d)) ∧ (w.alloc (pbox a b)).alloc (pbox c d) = w' := by
  rcases h1 : (a == c)
  · have h1' : ¬ a = c := by simpa using h1
    have h1n : (a != c) = true := by simpa using h1'
    clear h1
    go_enter Try.func59, Try.ntmps59
    go_wp2
    go_ret
    exact ⟨ret_bool (by simp [eqP, h1']), rfl⟩
  · have h1' : a = c := by simpa using h1
    subst h1'
    clear h1
    rcases h2 : (b == d)
    · have h2' : ¬ b = d := by simpa using h2
      have h2n : (b != d) = true := by simpa using h2'
      clear h2
      go_enter Try.func59, Try.ntmps59
      go_wp2
      go_ret
      exact ⟨ret_bool (by simp [eqP, h2']), rfl⟩
    · have h2' : b = d := by simpa using h2
      subst h2'
      clear h2
      go_enter Try.func59, Try.ntmps59
      go_wp2
      go_ret
      exact ⟨ret_bool (by simp [eqP]), rfl⟩

theorem part_info : (Try.prog.info? 26).map (fun i => (i.zero, i.size, i.bytes)) = some (some (part 0 0), 2, 16) := by kernel_rfl

/-- Block g is being filled: n parts, the first of them known. -/
def Fill (w : World) (g n : Nat) (e : List Pt) : Prop := ∃ cur : Array Value, w.heap[g]? = some (.cells cur 26 (0, 0)) ∧ cur.size = n * 2 ∧ cur.toList.take (e.length * 2) = flatV e
theorem Fill.own {w : World} {g n base : Nat} {e : List Pt} (h : Fill w g n e) (hn : e.length = n) (hb : base ≤ g) (hm : n ≤ maxLen) : w.ownsRow base 26 2 (.slice (some ⟨g, 0, none⟩) n n) n (flatV e) := by
  obtain ⟨cur, h1, h2, h3⟩ := h
  exact ⟨by rw [flatV_length, hn], .inr ⟨g, n, cur, rfl, hb, h1, Nat.le_refl _, hm, h2, by rw [← hn]; exact h3⟩⟩
theorem take_set2 {cur : Array Value} {e : List Pt} {k l : Int} {i : Nat} (hl : e.length = i) (hi : i * 2 + 1 < cur.size) (h : cur.toList.take (e.length * 2) = flatV e) :
    ((cur.setIfInBounds (i * 2) (.int .i64 k)).setIfInBounds (i * 2 + 1) (.int .i64 l)).toList.take ((e ++ [(k, l)]).length * 2) = flatV (e ++ [(k, l)]) := by
  subst hl
  have h1 : e.length * 2 + 1 < cur.toList.length := by simpa using hi
  rw [List.length_append, List.length_singleton, flatV_append, ← h]
  simp only [Array.toList_setIfInBounds, flatV]
  apply List.ext_getElem?
  intro j
  rw [List.getElem?_take]
  by_cases hj : j < e.length * 2
  · rw [if_pos (by omega), List.getElem?_set_ne (by omega), List.getElem?_set_ne (by omega), List.getElem?_append_left (by rw [List.length_take]; omega), List.getElem?_take, if_pos hj]
  · by_cases hj1 : j = e.length * 2
    · subst hj1
      rw [if_pos (by omega), List.getElem?_set_ne (by omega), List.getElem?_set_self (by omega), List.getElem?_append_right (by rw [List.length_take]; omega)]
      rw [List.length_take, Nat.min_eq_left (by omega)]; simp
    · by_cases hj2 : j = e.length * 2 + 1
      · subst hj2
        rw [if_pos (by omega), List.getElem?_set_self (by rw [List.length_set]; omega), List.getElem?_append_right (by rw [List.length_take]; omega)]
        rw [List.length_take, Nat.min_eq_left (by omega)]; simp
      · rw [if_neg (by omega), List.getElem?_append_right (by rw [List.length_take]; omega), List.length_take, Nat.min_eq_left (by omega), List.getElem?_eq_none (by simp; omega)]

theorem heap_set {w : World} {g : Nat} {cur : Array Value} {t : TypeId} {fr : Nat × Nat} (h : w.heap[g]? = some (.cells cur t fr)) (a : Nat) (u : Value) : (w.setCell ⟨g, a, none⟩ u).heap[g]? = some (.cells (cur.setIfInBounds a u) t fr) := by
  simp only [World.setCell]
  rw [Array.getElem?_modify, if_pos rfl, h]
  rfl
theorem size_set (w : World) (a : Addr) (u : Value) : (w.setCell a u).heap.size = w.heap.size := by simp [World.setCell]
theorem take_next {e : List Pt} {i : Nat} {p : Pt} (h : e[i]? = some p) : e.take (i + 1) = e.take i ++ [p] := by
  obtain ⟨hlt, he⟩ := List.getElem?_eq_some_iff.1 h
  rw [List.take_succ_eq_append_getElem hlt, he]
/-- What a copy leaves: the same parts in a new row. -/
def CopyD (w : World) (n : Nat) (e : List Pt) (r : Ending) (w' : World) : Prop :=
  r = .returned (.slice (some ⟨w.heap.size, 0, none⟩) n n) ∧ w'.ownsRow w.heap.size 26 2 (.slice (some ⟨w.heap.size, 0, none⟩) n n) n (flatV e) ∧ Below w.heap.size w w'
set_option maxHeartbeats 2000000 in
theorem toPartS_any (w : World) (A : Option Addr) (n c : Nat) (e : List Pt) (h : PS w w.heap.size A n e) (hn : n ≤ 1048576) :
    Calls Try.prog 32 #[.slice A n c] w (CopyD w n e) := by
  obtain ⟨i0, hi0, hz0, hz1, hz2⟩ := info_parts part_info
  have hmk := fun W => run_make_rowN (P := Try.prog) 40 26 i0 (part 0 0) Try.underlying40 hi0 hz0 .i64 .i64 n n (Nat.le_refl _) (by rw [hz2]; omega) (by omega) W
  have hlen := h.1
  have HL := Lib.hid hlen
  have HN := hide h
  clear hlen h
  go_enter Try.func32, Try.ntmps32
  go_wp2
  clear hmk
  go_loopw [4] (fun i wr => ∃ k : Nat, i = .int .i64 k ∧ k ≤ n ∧ Fill wr w.heap.size n (e.take k) ∧ Below w.heap.size w wr) (fun i _ => n - (intOf i).toNat)
  case atStart =>
    exact ⟨0, rfl, Nat.zero_le _, ⟨_, heap_alloc_new w _, by simp [madeCells], rfl⟩, (Below.refl _ _).alloc (Nat.le_refl _) _⟩
  case round =>
    obtain ⟨i, rfl, hi, hF, hb⟩ := hrel
    by_cases hlt : i < n
    · obtain ⟨b, off, k, l, rfl, hbB, he, hc0, hc1⟩ := ((unhide HN).below (Nat.le_refl _) hb).at hlt
      have hz := hb.size
      obtain ⟨cur, f1, f2, f3⟩ := hF
      have hwz : w.heap.size < wr.heap.size := (Array.getElem?_eq_some_iff.1 f1).1
      have o0 : wr.cell? ⟨w.heap.size, i * 2, none⟩ = some (cur[i * 2]'(by omega)) := by
        rw [cell_of_row wr _ _ _ _ _ f1]; exact Array.getElem?_eq_getElem (by omega)
      have o1 : wr.cell? ⟨w.heap.size, i * 2 + 1, none⟩ = some (cur[i * 2 + 1]'(by omega)) := by
        rw [cell_of_row wr _ _ _ _ _ f1]; exact Array.getElem?_eq_getElem (by omega)
      have p0 : ∀ j, wr.frozen? ⟨w.heap.size, j, none⟩ = false := fun j => by simp [World.frozen?, f1]
      have HE := Lib.hid he
      have F1 := Lib.hid f1
      have F2 := Lib.hid f2
      have F3 := Lib.hid f3
      have x0 : ∀ a b c : Obj, (((wr.alloc a).alloc b).alloc c).cell? ⟨w.heap.size, i * 2, none⟩ = some (cur[i * 2]'(by omega)) := fun a b c => by
        rw [World.cell?_alloc_lt _ _ _ (by show w.heap.size < _; simp; omega), World.cell?_alloc_lt _ _ _ (by show w.heap.size < _; simp; omega), World.cell?_alloc_lt _ _ _ hwz]; exact o0
      have x1 : ∀ a b c : Obj, (((wr.alloc a).alloc b).alloc c).cell? ⟨w.heap.size, i * 2 + 1, none⟩ = some (cur[i * 2 + 1]'(by omega)) := fun a b c => by
        rw [World.cell?_alloc_lt _ _ _ (by show w.heap.size < _; simp; omega), World.cell?_alloc_lt _ _ _ (by show w.heap.size < _; simp; omega), World.cell?_alloc_lt _ _ _ hwz]; exact o1
      have y0 : ∀ (a b c : Obj) (j : Nat), (((wr.alloc a).alloc b).alloc c).frozen? ⟨w.heap.size, j, none⟩ = false := fun a b c j => by
        rw [World.frozen?_alloc_old _ _ _ (by show w.heap.size ≠ _; simp; omega), World.frozen?_alloc_old _ _ _ (by show w.heap.size ≠ _; simp; omega), World.frozen?_alloc_old _ _ _ (by show w.heap.size ≠ _; omega)]; exact p0 j
      clear he f1 f3 o0 o1 p0
      generalize cur[i * 2]'_ = v0 at x0
      generalize cur[i * 2 + 1]'_ = v1 at x1
      clear f2
      go_wp2_with (go_at_call 16; refine (toPart_any _ _ _).mono ?_; rintro e w' ⟨rfl, rfl⟩)
      go_roundw
      case rel =>
        have hcs := F2.out
        have hel := HL.out
        refine ⟨i + 1, by go_num, by omega, ⟨(cur.setIfInBounds (i * 2) (.int .i64 k)).setIfInBounds (i * 2 + 1) (.int .i64 l), ?_, by simp; exact hcs, ?_⟩, ?_⟩
        · refine heap_set (heap_set ?_ _ _) _ _
          rw [Below.heap_alloc _ _ _ (by simp; omega), Below.heap_alloc _ _ _ (by simp; omega), Below.heap_alloc _ _ _ (by omega)]
          exact F1.out
        · rw [take_next HE.out]
          exact take_set2 (by rw [List.length_take]; omega) (by omega) F3.out
        · exact ((((hb.alloc hz _).alloc (by simp; omega) _).alloc (by simp; omega) _).setCell (Nat.le_refl _) _).setCell (Nat.le_refl _) _
      case measure => simp [intOf]; omega
    · obtain rfl : i = n := by omega
      have hel := HL.out
      have hF' : Fill wr w.heap.size i e := by rw [List.take_of_length_le (by omega)] at hF; exact hF
      go_wp2
      go_ret
      exact ⟨rfl, hF'.own hel (Nat.le_refl _) (by unfold maxLen; omega), hb⟩

set_option maxHeartbeats 2000000 in
theorem eqPartS_any (w : World) (A A2 : Option Addr) (n c n2 c2 : Nat) (e f : List Pt) (h : PS w w.heap.size A n e) (h2 : PS w w.heap.size A2 n2 f) (hn : n ≤ 1048576) (hn2 : n2 ≤ 1048576) :
    Calls Try.prog 34 #[.slice A n c, .slice A2 n2 c2] w fun r w' => r = .returned (.bool (decide (e = f))) ∧ Below w.heap.size w w' := by
  have hl := h.1
  have hl2 := h2.1
  by_cases hnn : n = n2
  · subst hnn
    have HN := hide h
    have HN2 := hide h2
    have HL := Lib.hid hl
    have HL2 := Lib.hid hl2
    clear h h2 hl hl2
    go_enter Try.func34, Try.ntmps34
    go_wp2
    go_loopw [5] (fun i wr => ∃ k : Nat, i = .int .i64 k ∧ k ≤ n ∧ Hid (e.take k = f.take k) ∧ Below w.heap.size w wr) (fun i _ => n - (intOf i).toNat)
    case atStart => exact ⟨0, rfl, Nat.zero_le _, Lib.hid rfl, Below.refl _ _⟩
    case round =>
      obtain ⟨i, rfl, hi, hq, hb⟩ := hrel
      by_cases hlt : i < n
      · obtain ⟨b, off, k, l, rfl, hbB, he, hc0, hc1⟩ := ((unhide HN).below (Nat.le_refl _) hb).at hlt
        obtain ⟨b2, off2, k2, l2, rfl, hbB2, he2, hd0, hd1⟩ := ((unhide HN2).below (Nat.le_refl _) hb).at hlt
        have hz := hb.size
        have HE := Lib.hid he
        have HE2 := Lib.hid he2
        clear he he2
        have hS0 : wr.cell? ⟨b, off + i * 2, none⟩ = some (.int .i64 k) ∧ wr.cell? ⟨b, off + i * 2 + 1, none⟩ = some (.int .i64 l) ∧ wr.cell? ⟨b2, off2 + i * 2, none⟩ = some (.int .i64 k2) ∧ wr.cell? ⟨b2, off2 + i * 2 + 1, none⟩ = some (.int .i64 l2) := ⟨hc0, hc1, hd0, hd1⟩
        have hS2 : ∀ o o' : Obj, ((wr.alloc o).alloc o').drew.cell? ⟨b, off + i * 2, none⟩ = some (.int .i64 k) ∧ ((wr.alloc o).alloc o').drew.cell? ⟨b, off + i * 2 + 1, none⟩ = some (.int .i64 l) ∧ ((wr.alloc o).alloc o').drew.cell? ⟨b2, off2 + i * 2, none⟩ = some (.int .i64 k2) ∧ ((wr.alloc o).alloc o').drew.cell? ⟨b2, off2 + i * 2 + 1, none⟩ = some (.int .i64 l2) := fun o o' => by
          have far : ∀ a x, a < wr.heap.size → (((wr.alloc o).alloc o').drew).cell? ⟨a, x, none⟩ = wr.cell? ⟨a, x, none⟩ := fun a x h => by
            show ((wr.alloc o).alloc o').cell? ⟨a, x, none⟩ = _
            rw [World.cell?_alloc_lt _ _ _ (by show a < _; simp; omega), World.cell?_alloc_lt _ _ _ h]
          exact ⟨(far _ _ (by omega)).trans hc0, (far _ _ (by omega)).trans hc1, (far _ _ (by omega)).trans hd0, (far _ _ (by omega)).trans hd1⟩
        have hdec := Lib.hid (show eqP k l k2 l2 = decide ((k, l) = (k2, l2)) by simp [eqP, Bool.decide_and])
        rcases hkl : eqP k l k2 l2
        · go_wp2
          go_region_held3 (fun w' => w'.cell? ⟨b, off + i * 2, none⟩ = some (.int .i64 k) ∧ w'.cell? ⟨b, off + i * 2 + 1, none⟩ = some (.int .i64 l) ∧ w'.cell? ⟨b2, off2 + i * 2, none⟩ = some (.int .i64 k2) ∧ w'.cell? ⟨b2, off2 + i * 2 + 1, none⟩ = some (.int .i64 l2)) (first | exact hS0 | exact hS2 _ _)
            (first | (go_at_call 59; refine (eqPart_any _ _ _ _ _).mono ?_; rintro e w' ⟨rfl, rfl⟩))
          go_wp2
          go_ret
          refine ⟨ret_bool ?_, (((hb.alloc hz _).alloc (by simp; omega) _).drew)⟩
          rw [hdec.out] at hkl
          have : e ≠ f := by
            rintro rfl
            have h1 := HE.out
            rw [HE2.out] at h1
            injection h1 with h1
            simp [h1] at hkl
          simp [this]
        · go_wp2
          go_region_held3 (fun w' => w'.cell? ⟨b, off + i * 2, none⟩ = some (.int .i64 k) ∧ w'.cell? ⟨b, off + i * 2 + 1, none⟩ = some (.int .i64 l) ∧ w'.cell? ⟨b2, off2 + i * 2, none⟩ = some (.int .i64 k2) ∧ w'.cell? ⟨b2, off2 + i * 2 + 1, none⟩ = some (.int .i64 l2)) (first | exact hS0 | exact hS2 _ _)
            (first | (go_at_call 59; refine (eqPart_any _ _ _ _ _).mono ?_; rintro e w' ⟨rfl, rfl⟩))
          go_wp2
          go_roundw
          case rel =>
            rw [hdec.out] at hkl
            have h1 : (k, l) = (k2, l2) := by simpa using hkl
            exact ⟨i + 1, by go_num, by omega, Lib.hid (by rw [take_next HE.out, take_next HE2.out, hq.out, h1]), (((hb.alloc hz _).alloc (by simp; omega) _).drew)⟩
          case measure => simp [intOf]; omega
      · obtain rfl : i = n := by omega
        go_wp2
        go_ret
        refine ⟨ret_bool ?_, hb⟩
        have h1 := hq.out
        rw [List.take_of_length_le (by rw [HL.out]; omega), List.take_of_length_le (by rw [HL2.out]; omega)] at h1
        simp [h1]
  · have hne : ((n : Int) != (n2 : Int)) = true := by simp; omega
    have hef : ¬ e = f := by rintro rfl; omega
    clear hl hl2
    go_enter Try.func34, Try.ntmps34
    go_wp2
    go_ret
    exact ⟨ret_bool (by simp [hef]), Below.refl _ _⟩
end Go.Proofs.Ytcphbncgkemdoaa
