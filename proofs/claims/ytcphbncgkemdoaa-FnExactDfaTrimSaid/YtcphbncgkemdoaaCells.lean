/-
  Slices of one-cell elements in memory; the laws' own functions on them.
-/
import Derived.Test.YtcphbncgkemdoaaLParts
import Derived.Test.YtcphbncgkemdoaaLists
import Derived.Deep.QuietTactic
import Derived.BigQuiet
namespace Go.Proofs.Ytcphbncgkemdoaa
open Go.RowKit
set_option linter.unusedVariables false
set_option maxRecDepth 100000

/-- A slice that reads as some one-cell values, below block B. -/
def VS (w : World) (B : Nat) (A : Option Addr) (n : Nat) (vs : List Value) : Prop :=
  vs.length = n ∧ (0 < n → ∃ b off, A = some ⟨b, off, none⟩ ∧ b < B ∧ ∀ i v, vs[i]? = some v → w.cell? ⟨b, off + i, none⟩ = some v)
theorem VS.keep {w w' : World} {B B' : Nat} {A : Option Addr} {n : Nat} {vs : List Value} (h : VS w B A n vs) (hB : B ≤ B') (hk : ∀ b o, b < B → w'.cell? ⟨b, o, none⟩ = w.cell? ⟨b, o, none⟩) : VS w' B' A n vs := by
  refine ⟨h.1, fun hn => ?_⟩
  obtain ⟨b, off, e1, hb, hc⟩ := h.2 hn
  exact ⟨b, off, e1, by omega, fun i v hi => by rw [hk _ _ hb]; exact hc i v hi⟩
theorem VS.up {w w' : World} {A : Option Addr} {n : Nat} {vs : List Value} (h : VS w w.heap.size A n vs) (hb : Below w.heap.size w w') : VS w' w'.heap.size A n vs :=
  h.keep hb.size fun b o hlt => hb.cell (p := ⟨b, o, none⟩) hlt
theorem VS.at {w : World} {B : Nat} {A : Option Addr} {n : Nat} {vs : List Value} (h : VS w B A n vs) {i : Nat} (hi : i < n) :
    ∃ b off v, A = some ⟨b, off, none⟩ ∧ b < B ∧ vs[i]? = some v ∧ w.cell? ⟨b, off + i, none⟩ = some v := by
  obtain ⟨b, off, e1, hb, hc⟩ := h.2 (by omega)
  have hl : i < vs.length := by rw [h.1]; exact hi
  exact ⟨b, off, vs[i], e1, hb, List.getElem?_eq_getElem hl, hc i _ (List.getElem?_eq_getElem hl)⟩
/-- Block g is being filled: n cells, the first of them known. -/
def FillV (w : World) (g n : Nat) (t : TypeId) (vs : List Value) : Prop := ∃ cur : Array Value, w.heap[g]? = some (.cells cur t (0, 0)) ∧ cur.size = n ∧ cur.toList.take vs.length = vs
theorem FillV.vs {w : World} {g n : Nat} {t : TypeId} {vs : List Value} (h : FillV w g n t vs) (hl : vs.length = n) : VS w w.heap.size (some ⟨g, 0, none⟩) n vs := by
  obtain ⟨cur, h1, h2, h3⟩ := h
  refine ⟨hl, fun hn => ⟨g, 0, rfl, (Array.getElem?_eq_some_iff.1 h1).1, fun i v hi => ?_⟩⟩
  obtain ⟨hlt, he⟩ := List.getElem?_eq_some_iff.1 hi
  rw [Nat.zero_add, cell_of_row w _ _ _ _ _ h1, ← Array.getElem?_toList]
  rw [← h3, List.getElem?_take, if_pos hlt] at hi
  exact hi
theorem FillV.own {w : World} {g n base : Nat} {t : TypeId} {vs : List Value} (h : FillV w g n t vs) (hn : vs.length = n) (hb : base ≤ g) (hm : n ≤ maxLen) : w.ownsRow base t 1 (.slice (some ⟨g, 0, none⟩) n n) n vs := by
  obtain ⟨cur, h1, h2, h3⟩ := h
  exact ⟨by rw [Nat.mul_one]; exact hn, .inr ⟨g, n, cur, rfl, hb, h1, Nat.le_refl _, hm, by omega, by rw [Nat.mul_one, ← hn]; exact h3⟩⟩
theorem take_set1 {cur : Array Value} {vs : List Value} {v : Value} {i : Nat} (hl : vs.length = i) (hi : i < cur.size) (h : cur.toList.take vs.length = vs) :
    (cur.setIfInBounds i v).toList.take (vs ++ [v]).length = vs ++ [v] := by
  subst hl
  have h1 : vs.length < cur.toList.length := by simpa using hi
  rw [List.length_append, List.length_singleton, Array.toList_setIfInBounds]
  apply List.ext_getElem?
  intro j
  rw [List.getElem?_take]
  by_cases hj : j < vs.length
  · rw [if_pos (by omega), List.getElem?_set_ne (by omega), List.getElem?_append_left hj]
    have h2 : (cur.toList.take vs.length)[j]? = vs[j]? := by rw [h]
    rw [List.getElem?_take, if_pos hj] at h2
    exact h2
  · by_cases hj1 : j = vs.length
    · subst hj1
      rw [if_pos (by omega), List.getElem?_set_self (by omega), List.getElem?_append_right (by omega)]; simp
    · rw [if_neg (by omega), List.getElem?_append_right (by omega), List.getElem?_eq_none (by simp; omega)]
theorem take_nextV {vs : List Value} {i : Nat} {v : Value} (h : vs[i]? = some v) : vs.take (i + 1) = vs.take i ++ [v] := by
  obtain ⟨hlt, he⟩ := List.getElem?_eq_some_iff.1 h
  rw [List.take_succ_eq_append_getElem hlt, he]
/-- What a copy leaves. -/
def CopyV (w : World) (t : TypeId) (n : Nat) (vs : List Value) (r : Ending) (w' : World) : Prop :=
  r = .returned (.slice (some ⟨w.heap.size, 0, none⟩) n n) ∧ w'.ownsRow w.heap.size t 1 (.slice (some ⟨w.heap.size, 0, none⟩) n n) n vs ∧ VS w' w'.heap.size (some ⟨w.heap.size, 0, none⟩) n vs ∧ Below w.heap.size w w'
theorem szIntS_any (w : World) (A : Option Addr) (n c : Nat) (left : Int) (hn : n ≤ 9223372036854775807) (h0 : 0 ≤ left) (h1 : left ≤ 1048576) :
    Calls Try.prog 69 #[.slice A n c, .int .i64 left] w fun r w' => r = .returned (.int .i64 (if left < (n : Int) then -1 else left - (n : Int))) ∧ w = w' := by
  by_cases h : left < (n : Int)
  · rw [if_pos h]
    have h' : left - (n : Int) < 0 := by omega
    go_enter Try.func69, Try.ntmps69
    go_wp2
    go_ret
    exact ⟨rfl, rfl⟩
  · rw [if_neg h]
    have h' : ¬ left - (n : Int) < 0 := by omega
    go_enter Try.func69, Try.ntmps69
    go_wp2
    go_ret
    exact ⟨rfl, rfl⟩
theorem intc_info : (Try.prog.info? 3).map (fun i => (i.zero, i.size, i.bytes)) = some (some (.int .i64 0), 1, 8) := by kernel_rfl
set_option maxHeartbeats 2000000 in
theorem toIntS_any (w : World) (A : Option Addr) (n c : Nat) (zs : List Int) (h : VS w w.heap.size A n (zs.map (Value.int .i64))) (hn : n ≤ 1048576) :
    Calls Try.prog 72 #[.slice A n c] w (CopyV w 3 n (zs.map (Value.int .i64))) := by
  obtain ⟨i0, hi0, hz0, hz1, hz2⟩ := info_parts intc_info
  have hmk := fun W => run_make_rowN (P := Try.prog) 55 3 i0 (.int .i64 0) Try.underlying55 hi0 hz0 .i64 .i64 n n (Nat.le_refl _) (by rw [hz2]; omega) (by omega) W
  have HL := Lib.hid h.1
  have HN := hide h
  clear h
  go_enter Try.func72, Try.ntmps72
  go_wp2
  clear hmk
  go_loopw [4] (fun i wr => ∃ k : Nat, i = .int .i64 k ∧ k ≤ n ∧ Hid (FillV wr w.heap.size n 3 ((zs.map (Value.int .i64)).take k)) ∧ Below w.heap.size w wr) (fun i _ => n - (intOf i).toNat)
  case atStart =>
    exact ⟨0, rfl, Nat.zero_le _, Lib.hid ⟨_, heap_alloc_new w _, by simp [madeCells], rfl⟩, (Below.refl _ _).alloc (Nat.le_refl _) _⟩
  case round =>
    obtain ⟨i, rfl, hi, hF, hb⟩ := hrel
    by_cases hlt : i < n
    · obtain ⟨b, off, v, rfl, hbB, he, hc0⟩ := ((unhide HN).keep (Nat.le_refl _) (fun b o hb' => hb.cell (p := ⟨b, o, none⟩) hb')).at hlt
      have hz := hb.size
      obtain ⟨z, rfl⟩ : ∃ z, v = .int .i64 z := by
        rw [List.getElem?_map] at he
        cases hzz : zs[i]? with
        | none => rw [hzz] at he; cases he
        | some z => rw [hzz] at he; injection he with he; exact ⟨z, he.symm⟩
      obtain ⟨cur, f1, f2, f3⟩ := hF.out
      have hwz : w.heap.size < wr.heap.size := (Array.getElem?_eq_some_iff.1 f1).1
      have o0 : wr.cell? ⟨w.heap.size, i, none⟩ = some (cur[i]'(by omega)) := by
        rw [cell_of_row wr _ _ _ _ _ f1]; exact Array.getElem?_eq_getElem (by omega)
      have p0 : wr.frozen? ⟨w.heap.size, i, none⟩ = false := by simp [World.frozen?, f1]
      have HE := Lib.hid he
      have F1 := Lib.hid f1
      have F2 := Lib.hid f2
      have F3 := Lib.hid f3
      clear he f1 f3
      generalize cur[i]'_ = v0 at o0
      clear f2
      go_wp2
      go_roundw
      case rel =>
        have hcs := F2.out
        have hel := HL.out
        refine ⟨i + 1, by go_num, by omega, Lib.hid ⟨cur.setIfInBounds i (.int .i64 z), heap_set F1.out _ _, by simp; exact hcs, ?_⟩, hb.setCell (Nat.le_refl _) _⟩
        rw [take_nextV HE.out]
        exact take_set1 (by rw [List.length_take]; omega) (by omega) F3.out
      case measure => simp [intOf]; omega
    · obtain rfl : i = n := by omega
      have hel := HL.out
      have hF' : FillV wr w.heap.size i 3 (zs.map (Value.int .i64)) := by have := hF.out; rw [List.take_of_length_le (by omega)] at this; exact this
      go_wp2
      go_ret
      exact ⟨rfl, hF'.own hel (Nat.le_refl _) (by unfold maxLen; omega), hF'.vs hel, hb⟩
set_option maxHeartbeats 2000000 in
theorem eqIntS_any (w : World) (A A2 : Option Addr) (n c n2 c2 : Nat) (zs ys : List Int) (h : VS w w.heap.size A n (zs.map (Value.int .i64))) (h2 : VS w w.heap.size A2 n2 (ys.map (Value.int .i64))) (hn : n ≤ 1048576) (hn2 : n2 ≤ 1048576) :
    Calls Try.prog 77 #[.slice A n c, .slice A2 n2 c2] w fun r w' => r = .returned (.bool (decide (zs = ys))) ∧ Below w.heap.size w w' := by
  have hl := h.1
  have hl2 := h2.1
  rw [List.length_map] at hl hl2
  by_cases hnn : n = n2
  · subst hnn
    have HL := Lib.hid hl
    have HL2 := Lib.hid hl2
    have HN := hide h
    have HN2 := hide h2
    clear hl hl2 h h2
    go_enter Try.func77, Try.ntmps77
    go_wp2
    go_loopw [5] (fun i wr => ∃ k : Nat, i = .int .i64 k ∧ k ≤ n ∧ Hid (zs.take k = ys.take k) ∧ Below w.heap.size w wr) (fun i _ => n - (intOf i).toNat)
    case atStart => exact ⟨0, rfl, Nat.zero_le _, Lib.hid rfl, Below.refl _ _⟩
    case round =>
      obtain ⟨i, rfl, hi, hT, hb⟩ := hrel
      by_cases hlt : i < n
      · obtain ⟨b, off, v, rfl, hbB, he, hc0⟩ := ((unhide HN).keep (Nat.le_refl _) (fun b o hb' => hb.cell (p := ⟨b, o, none⟩) hb')).at hlt
        obtain ⟨b2, off2, v2, rfl, hbB2, he2, hc2⟩ := ((unhide HN2).keep (Nat.le_refl _) (fun b o hb' => hb.cell (p := ⟨b, o, none⟩) hb')).at hlt
        obtain ⟨z, hz, rfl⟩ : ∃ z, zs[i]? = some z ∧ v = .int .i64 z := by
          rw [List.getElem?_map] at he
          cases hzz : zs[i]? with
          | none => rw [hzz] at he; cases he
          | some z => rw [hzz] at he; injection he with he; exact ⟨z, rfl, he.symm⟩
        obtain ⟨y, hy, rfl⟩ : ∃ y, ys[i]? = some y ∧ v2 = .int .i64 y := by
          rw [List.getElem?_map] at he2
          cases hzz : ys[i]? with
          | none => rw [hzz] at he2; cases he2
          | some z => rw [hzz] at he2; injection he2 with he2; exact ⟨z, rfl, he2.symm⟩
        have HZ := Lib.hid hz
        have HY := Lib.hid hy
        have hzs := hb.size
        have i0 : (0 : Int) ≤ (i : Int) := Int.natCast_nonneg _
        clear he he2 hz hy
        by_cases hzy : z = y
        · subst hzy
          go_wp2
          go_quiet (fail)
          go_wp2
          go_roundw
          case rel =>
            refine ⟨i + 1, by go_num, by omega, Lib.hid ?_, by first | exact hb | exact hb.drew | (refine ⟨hb.os, hb.tape, hb.output, hb.size, hb.block⟩)⟩
            have hzl := (List.getElem?_eq_some_iff.1 HZ.out)
            have hyl := (List.getElem?_eq_some_iff.1 HY.out)
            obtain ⟨p1, p2⟩ := hzl
            obtain ⟨q1, q2⟩ := hyl
            rw [List.take_succ_eq_append_getElem p1, List.take_succ_eq_append_getElem q1, hT.out, p2, q2]
          case measure => simp [intOf]; omega
        · have hne : decide (zs = ys) = false := by
            simp only [decide_eq_false_iff_not]
            rintro rfl
            have h1 := HZ.out
            rw [HY.out] at h1
            injection h1 with h1
            exact hzy h1.symm
          have HNE := Lib.hid hne
          clear hne
          have hzy' : (z != y) = true := by simpa using hzy
          all_goals
            go_wp2
            go_quiet (fail)
            go_wp2
            go_ret
            first | exact ⟨ret_bool HNE.out.symm, hb⟩ | exact ⟨ret_bool HNE.out.symm, hb.drew⟩ | exact ⟨ret_bool HNE.out.symm, ⟨hb.os, hb.tape, hb.output, hb.size, hb.block⟩⟩
      · obtain rfl : i = n := by omega
        have heq : decide (zs = ys) = true := by
          have h1 := hT.out
          rw [List.take_of_length_le (by have := HL.out; omega), List.take_of_length_le (by have := HL2.out; omega)] at h1
          simpa using h1
        have HEQ := Lib.hid heq
        clear heq
        go_wp2
        go_ret
        exact ⟨ret_bool HEQ.out.symm, hb⟩
  · have hne : decide (zs = ys) = false := by
      simp only [decide_eq_false_iff_not]
      rintro rfl
      exact hnn (hl.symm.trans hl2)
    rw [hne]
    have hnn' : ((n : Int) == (n2 : Int)) = false := by simp; omega
    have hnn2 : ¬ (n : Int) = (n2 : Int) := by omega
    clear hl hl2 h h2
    go_enter Try.func77, Try.ntmps77
    go_wp2
    go_ret
    exact ⟨rfl, Below.refl _ _⟩
theorem szBoolS_any (w : World) (A : Option Addr) (n c : Nat) (left : Int) (hn : n ≤ 9223372036854775807) (h0 : 0 ≤ left) (h1 : left ≤ 1048576) :
    Calls Try.prog 61 #[.slice A n c, .int .i64 left] w fun r w' => r = .returned (.int .i64 (if left < (n : Int) then -1 else left - (n : Int))) ∧ w = w' := by
  by_cases h : left < (n : Int)
  · rw [if_pos h]
    have h' : left - (n : Int) < 0 := by omega
    go_enter Try.func61, Try.ntmps61
    go_wp2
    go_ret
    exact ⟨rfl, rfl⟩
  · rw [if_neg h]
    have h' : ¬ left - (n : Int) < 0 := by omega
    go_enter Try.func61, Try.ntmps61
    go_wp2
    go_ret
    exact ⟨rfl, rfl⟩
theorem boolc_info : (Try.prog.info? 4).map (fun i => (i.zero, i.size, i.bytes)) = some (some (.bool false), 1, 1) := by kernel_rfl
set_option maxHeartbeats 2000000 in
theorem toBoolS_any (w : World) (A : Option Addr) (n c : Nat) (zs : List Bool) (h : VS w w.heap.size A n (zs.map Value.bool)) (hn : n ≤ 1048576) :
    Calls Try.prog 63 #[.slice A n c] w (CopyV w 4 n (zs.map Value.bool)) := by
  obtain ⟨i0, hi0, hz0, hz1, hz2⟩ := info_parts boolc_info
  have hmk := fun W => run_make_rowN (P := Try.prog) 45 4 i0 (.bool false) Try.underlying45 hi0 hz0 .i64 .i64 n n (Nat.le_refl _) (by rw [hz2]; omega) (by omega) W
  have HL := Lib.hid h.1
  have HN := hide h
  clear h
  go_enter Try.func63, Try.ntmps63
  go_wp2
  clear hmk
  go_loopw [4] (fun i wr => ∃ k : Nat, i = .int .i64 k ∧ k ≤ n ∧ Hid (FillV wr w.heap.size n 4 ((zs.map Value.bool).take k)) ∧ Below w.heap.size w wr) (fun i _ => n - (intOf i).toNat)
  case atStart =>
    exact ⟨0, rfl, Nat.zero_le _, Lib.hid ⟨_, heap_alloc_new w _, by simp [madeCells], rfl⟩, (Below.refl _ _).alloc (Nat.le_refl _) _⟩
  case round =>
    obtain ⟨i, rfl, hi, hF, hb⟩ := hrel
    by_cases hlt : i < n
    · obtain ⟨b, off, v, rfl, hbB, he, hc0⟩ := ((unhide HN).keep (Nat.le_refl _) (fun b o hb' => hb.cell (p := ⟨b, o, none⟩) hb')).at hlt
      have hz := hb.size
      obtain ⟨z, rfl⟩ : ∃ z, v = .bool z := by
        rw [List.getElem?_map] at he
        cases hzz : zs[i]? with
        | none => rw [hzz] at he; cases he
        | some z => rw [hzz] at he; injection he with he; exact ⟨z, he.symm⟩
      obtain ⟨cur, f1, f2, f3⟩ := hF.out
      have hwz : w.heap.size < wr.heap.size := (Array.getElem?_eq_some_iff.1 f1).1
      have o0 : wr.cell? ⟨w.heap.size, i, none⟩ = some (cur[i]'(by omega)) := by
        rw [cell_of_row wr _ _ _ _ _ f1]; exact Array.getElem?_eq_getElem (by omega)
      have p0 : wr.frozen? ⟨w.heap.size, i, none⟩ = false := by simp [World.frozen?, f1]
      have HE := Lib.hid he
      have F1 := Lib.hid f1
      have F2 := Lib.hid f2
      have F3 := Lib.hid f3
      clear he f1 f3
      generalize cur[i]'_ = v0 at o0
      clear f2
      go_wp2
      go_roundw
      case rel =>
        have hcs := F2.out
        have hel := HL.out
        refine ⟨i + 1, by go_num, by omega, Lib.hid ⟨cur.setIfInBounds i (.bool z), heap_set F1.out _ _, by simp; exact hcs, ?_⟩, hb.setCell (Nat.le_refl _) _⟩
        rw [take_nextV HE.out]
        exact take_set1 (by rw [List.length_take]; omega) (by omega) F3.out
      case measure => simp [intOf]; omega
    · obtain rfl : i = n := by omega
      have hel := HL.out
      have hF' : FillV wr w.heap.size i 4 (zs.map Value.bool) := by have := hF.out; rw [List.take_of_length_le (by omega)] at this; exact this
      go_wp2
      go_ret
      exact ⟨rfl, hF'.own hel (Nat.le_refl _) (by unfold maxLen; omega), hF'.vs hel, hb⟩
set_option maxHeartbeats 2000000 in
theorem eqBoolS_any (w : World) (A A2 : Option Addr) (n c n2 c2 : Nat) (zs ys : List Bool) (h : VS w w.heap.size A n (zs.map Value.bool)) (h2 : VS w w.heap.size A2 n2 (ys.map Value.bool)) (hn : n ≤ 1048576) (hn2 : n2 ≤ 1048576) :
    Calls Try.prog 67 #[.slice A n c, .slice A2 n2 c2] w fun r w' => r = .returned (.bool (decide (zs = ys))) ∧ Below w.heap.size w w' := by
  have hl := h.1
  have hl2 := h2.1
  rw [List.length_map] at hl hl2
  by_cases hnn : n = n2
  · subst hnn
    have HL := Lib.hid hl
    have HL2 := Lib.hid hl2
    have HN := hide h
    have HN2 := hide h2
    clear hl hl2 h h2
    go_enter Try.func67, Try.ntmps67
    go_wp2
    go_loopw [5] (fun i wr => ∃ k : Nat, i = .int .i64 k ∧ k ≤ n ∧ Hid (zs.take k = ys.take k) ∧ Below w.heap.size w wr) (fun i _ => n - (intOf i).toNat)
    case atStart => exact ⟨0, rfl, Nat.zero_le _, Lib.hid rfl, Below.refl _ _⟩
    case round =>
      obtain ⟨i, rfl, hi, hT, hb⟩ := hrel
      by_cases hlt : i < n
      · obtain ⟨b, off, v, rfl, hbB, he, hc0⟩ := ((unhide HN).keep (Nat.le_refl _) (fun b o hb' => hb.cell (p := ⟨b, o, none⟩) hb')).at hlt
        obtain ⟨b2, off2, v2, rfl, hbB2, he2, hc2⟩ := ((unhide HN2).keep (Nat.le_refl _) (fun b o hb' => hb.cell (p := ⟨b, o, none⟩) hb')).at hlt
        obtain ⟨z, hz, rfl⟩ : ∃ z, zs[i]? = some z ∧ v = .bool z := by
          rw [List.getElem?_map] at he
          cases hzz : zs[i]? with
          | none => rw [hzz] at he; cases he
          | some z => rw [hzz] at he; injection he with he; exact ⟨z, rfl, he.symm⟩
        obtain ⟨y, hy, rfl⟩ : ∃ y, ys[i]? = some y ∧ v2 = .bool y := by
          rw [List.getElem?_map] at he2
          cases hzz : ys[i]? with
          | none => rw [hzz] at he2; cases he2
          | some z => rw [hzz] at he2; injection he2 with he2; exact ⟨z, rfl, he2.symm⟩
        have HZ := Lib.hid hz
        have HY := Lib.hid hy
        have hzs := hb.size
        have i0 : (0 : Int) ≤ (i : Int) := Int.natCast_nonneg _
        clear he he2 hz hy
        by_cases hzy : z = y
        · subst hzy
          go_wp2
          go_quiet (fail)
          go_wp2
          go_roundw
          case rel =>
            refine ⟨i + 1, by go_num, by omega, Lib.hid ?_, by first | exact hb | exact hb.drew | (refine ⟨hb.os, hb.tape, hb.output, hb.size, hb.block⟩)⟩
            have hzl := (List.getElem?_eq_some_iff.1 HZ.out)
            have hyl := (List.getElem?_eq_some_iff.1 HY.out)
            obtain ⟨p1, p2⟩ := hzl
            obtain ⟨q1, q2⟩ := hyl
            rw [List.take_succ_eq_append_getElem p1, List.take_succ_eq_append_getElem q1, hT.out, p2, q2]
          case measure => simp [intOf]; omega
        · have hne : decide (zs = ys) = false := by
            simp only [decide_eq_false_iff_not]
            rintro rfl
            have h1 := HZ.out
            rw [HY.out] at h1
            injection h1 with h1
            exact hzy h1.symm
          have HNE := Lib.hid hne
          clear hne
          rcases z with _ | _ <;> rcases y with _ | _
          all_goals try (exact absurd rfl hzy)
          all_goals
            go_wp2
            go_quiet (fail)
            go_wp2
            go_ret
            first | exact ⟨ret_bool HNE.out.symm, hb⟩ | exact ⟨ret_bool HNE.out.symm, hb.drew⟩ | exact ⟨ret_bool HNE.out.symm, ⟨hb.os, hb.tape, hb.output, hb.size, hb.block⟩⟩
      · obtain rfl : i = n := by omega
        have heq : decide (zs = ys) = true := by
          have h1 := hT.out
          rw [List.take_of_length_le (by have := HL.out; omega), List.take_of_length_le (by have := HL2.out; omega)] at h1
          simpa using h1
        have HEQ := Lib.hid heq
        clear heq
        go_wp2
        go_ret
        exact ⟨ret_bool HEQ.out.symm, hb⟩
  · have hne : decide (zs = ys) = false := by
      simp only [decide_eq_false_iff_not]
      rintro rfl
      exact hnn (hl.symm.trans hl2)
    rw [hne]
    have hnn' : ((n : Int) == (n2 : Int)) = false := by simp; omega
    have hnn2 : ¬ (n : Int) = (n2 : Int) := by omega
    clear hl hl2 h h2
    go_enter Try.func67, Try.ntmps67
    go_wp2
    go_ret
    exact ⟨rfl, Below.refl _ _⟩
end Go.Proofs.Ytcphbncgkemdoaa
