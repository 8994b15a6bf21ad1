/-
  Membership: arrays of spans that are joined and repeated.
-/
import Derived.Test.YtgcggmlekmjpdaaSpans
import Derived.Test.YtgcggmlekmjpdaaLang
namespace Go.Proofs.Ytgcggmlekmjpdaa
open Go.RowKit
set_option linter.unusedVariables false
set_option maxRecDepth 100000

/-- An array of spans, cell by cell. -/
def arr (Q : Nat → Nat → Bool) : Array Value := Array.ofFn (n := 81) fun k => .bool (Q (k.1 / 9) (k.1 % 9))
theorem arr_size (Q : Nat → Nat → Bool) : (arr Q).size = 81 := by simp [arr]
theorem arr_get (Q : Nat → Nat → Bool) (i : Nat) (h : i < 81) : (arr Q)[i]? = some (.bool (Q (i / 9) (i % 9))) := by
  rw [Array.getElem?_eq_getElem (by rw [arr_size]; exact h)]
  simp [arr]
theorem arr_at (Q : Nat → Nat → Bool) {a b : Nat} (ha : a < 9) (hb : b < 9) : (arr Q)[a * 9 + b]? = some (.bool (Q a b)) := by
  rw [arr_get Q _ (by omega)]
  rw [show (a * 9 + b) / 9 = a by omega, show (a * 9 + b) % 9 = b by omega]
theorem arr_one (Q : Nat → Nat → Bool) : (arr Q).all (·.oneCell') = true := sp_one (arr_size Q) (fun a b ha hb => arr_at Q ha hb)
theorem SpV.eq {v : Value} {Q : Nat → Nat → Bool} (h : SpV v Q) : v = .agg (arr Q) := by
  obtain ⟨cs, rfl, h1, h2⟩ := h
  suffices he : cs = arr Q by rw [he]
  apply Array.ext_getElem?
  intro i
  by_cases hi : i < 81
  · have e := h2 (i / 9) (i % 9) (by omega) (by omega)
    rw [show i / 9 * 9 + i % 9 = i by omega] at e
    rw [e, arr_get Q i hi]
  · rw [Array.getElem?_eq_none (by omega), Array.getElem?_eq_none (by rw [arr_size]; omega)]
theorem arr_congr {P Q : Nat → Nat → Bool} (h : ∀ a b, a < 9 → b < 9 → P a b = Q a b) : arr P = arr Q := by
  apply Array.ext_getElem?
  intro i
  by_cases hi : i < 81
  · rw [arr_get P i hi, arr_get Q i hi, h _ _ (by omega) (by omega)]
  · rw [Array.getElem?_eq_none (by rw [arr_size]; omega), Array.getElem?_eq_none (by rw [arr_size]; omega)]
theorem upTo_congr {n : Nat} {P Q : Nat → Nat → Bool} (h : ∀ i j, i ≤ j → j ≤ n → P i j = Q i j) : upTo n P = upTo n Q := by
  funext i j
  unfold upTo
  by_cases hh : i ≤ j ∧ j ≤ n
  · rw [h i j hh.1 hh.2]
  · simp [hh]
theorem upTo_at {n : Nat} {P : Nat → Nat → Bool} {i j : Nat} (h : i ≤ j) (hj : j ≤ n) : upTo n P i j = P i j := by simp [upTo, h, hj]
theorem arr_info (Q : Nat → Nat → Bool) : (Try.prog.info? 73).map (·.size) = some (arr Q).size := by rw [arr_size]; kernel_rfl
theorem zero_size : (Try.zeroCells73).size = (arr fun _ _ => false).size := by rw [zero_sp, arr_size]; simp
/-- A block that holds an array of spans. -/
def ArrB (w : World) (g : Nat) (Q : Nat → Nat → Bool) : Prop := w.heap[g]? = some (.cells (arr Q) 73 (0, 0))
theorem ArrB.cell {w : World} {g : Nat} {Q : Nat → Nat → Bool} (h : ArrB w g Q) {a b : Nat} (ha : a < 9) (hb : b < 9) : w.cell? ⟨g, a * 9 + b, none⟩ = some (.bool (Q a b)) := by
  rw [cell_of_row w g _ _ _ _ h, arr_at Q ha hb]
theorem ArrB.lt {w : World} {g : Nat} {Q : Nat → Nat → Bool} (h : ArrB w g Q) : g < w.heap.size := (Array.getElem?_eq_some_iff.1 h).1
theorem ArrB.below {w w' : World} {B g : Nat} {Q : Nat → Nat → Bool} (h : ArrB w g Q) (hg : g < B) (hb : Below B w w') : ArrB w' g Q := (hb.block g hg).trans h
theorem ArrB.up {w w' : World} {g : Nat} {Q : Nat → Nat → Bool} (h : ArrB w g Q) (hb : Below w.heap.size w w') : ArrB w' g Q := h.below h.lt hb
theorem ArrB.new (w : World) (Q : Nat → Nat → Bool) : ArrB (w.alloc (.cells (arr Q) 73)) w.heap.size Q := heap_alloc_new w _
theorem ArrB.alloc {w : World} {g : Nat} {Q : Nat → Nat → Bool} (h : ArrB w g Q) (o : Obj) : ArrB (w.alloc o) g Q := (Below.heap_alloc w o g h.lt).trans h
theorem ArrB.drew {w : World} {g : Nat} {Q : Nat → Nat → Bool} (h : ArrB w g Q) : ArrB w.drew g Q := h
/-- A store of a whole array. -/
theorem store_arr {w : World} {g : Nat} {old : Array Value} (Q : Nat → Nat → Bool) (hg : w.heap[g]? = some (.cells old 73 (0, 0))) (ho : old.size = 81) :
    (storeCells ⟨g, 0, none⟩ (arr Q).toList 0).run Try.prog w = .ok () (w.setRow g (arr Q)) :=
  run_storeCells_row w g 73 old (arr Q) hg (arr_info Q) (by rw [ho, arr_size]) (arr_one Q)
theorem ArrB.store {w : World} {g : Nat} {P : Nat → Nat → Bool} (Q : Nat → Nat → Bool) (h : ArrB w g P) : (storeCells ⟨g, 0, none⟩ (arr Q).toList 0).run Try.prog w = .ok () (w.setRow g (arr Q)) := store_arr Q h (arr_size P)
theorem ArrB.row {w : World} {g : Nat} {old : Array Value} (Q : Nat → Nat → Bool) (hg : w.heap[g]? = some (.cells old 73 (0, 0))) : ArrB (w.setRow g (arr Q)) g Q := heap_setRow hg
theorem setRow_far {w : World} {g k : Nat} {cs : Array Value} (h : k ≠ g) : (w.setRow g cs).heap[k]? = w.heap[k]? := by
  simp only [World.setRow, Array.getElem?_modify]; rw [if_neg (by omega)]
theorem ArrB.far {w : World} {g k : Nat} {Q : Nat → Nat → Bool} {cs : Array Value} (h : ArrB w k Q) (hne : k ≠ g) : ArrB (w.setRow g cs) k Q := (setRow_far hne).trans h
theorem size_setRow {w : World} {g : Nat} {cs : Array Value} : (w.setRow g cs).heap.size = w.heap.size := by simp [World.setRow]
/-- What leaves an array of spans as a value. -/
def ArrD (w : World) (Q : Nat → Nat → Bool) (r : Ending) (w' : World) : Prop := r = .returned (.agg (arr Q)) ∧ Below w.heap.size w w'
theorem FillD.arr {w : World} {Q : Nat → Nat → Bool} {r : Ending} {w' : World} (h : FillD w Q r w') : ArrD w Q r w' := by
  obtain ⟨v, rfl, h1, h2⟩ := h
  rw [SpV.eq h1]; exact ⟨rfl, h2⟩

theorem any_next {P Q : Nat → Nat → Bool} {i j m : Nat} (h : ∀ x, i ≤ x → x < m → (P i x && Q x j) = false) (h1 : (P i m && Q m j) = false) : ∀ x, i ≤ x → x < m + 1 → (P i x && Q x j) = false := by
  intro x hx hm
  by_cases e : x = m
  · subst e; exact h1
  · exact h x hx (by omega)
theorem join_no {P Q : Nat → Nat → Bool} {i j : Nat} (h : ∀ x, i ≤ x → x < j + 1 → (P i x && Q x j) = false) : joinB P Q i j = false := by
  rw [Bool.eq_false_iff]
  intro hh
  obtain ⟨m, h1, h2, h3, h4⟩ := joinB_iff.1 hh
  have := h m h1 (by omega)
  rw [h3, h4] at this; cases this
theorem join_yes {P Q : Nat → Nat → Bool} {i j m : Nat} (h1 : i ≤ m) (h2 : m ≤ j) (h3 : P i m = true) (h4 : Q m j = true) : joinB P Q i j = true := joinB_iff.2 ⟨m, h1, h2, h3, h4⟩
set_option maxHeartbeats 400000 in
theorem joined1_any (w : World) (ga gb i j : Nat) (P Q : Nat → Nat → Bool) (hij : i ≤ j) (hj : j ≤ 8) (ha : ArrB w ga P) (hb : ArrB w gb Q) :
    Calls Try.prog 82 #[.int .i64 i, .int .i64 j, .pointer (some ⟨ga, 0, none⟩), .pointer (some ⟨gb, 0, none⟩)] w fun r w' => r = .returned (.bool (joinB P Q i j)) ∧ w = w' := by
  have HA := hide ha
  have HB := hide hb
  clear ha hb
  have i0 : (0 : Int) ≤ (i : Int) := Int.natCast_nonneg _
  have i1 : (i : Int) < 9 := by omega
  have j0 : (0 : Int) ≤ (j : Int) := Int.natCast_nonneg _
  have j1 : (j : Int) < 9 := by omega
  go_enter Try.func82, Try.ntmps82
  go_wp2
  go_loop [7] (fun k => ∃ m : Nat, i ≤ m ∧ m ≤ j + 1 ∧ k = .int .i64 m ∧ Hid (∀ x, i ≤ x → x < m → (P i x && Q x j) = false)) (fun k => j + 1 - (intOf k).toNat)
  case atStart => exact ⟨i, Nat.le_refl _, by omega, rfl, Lib.hid fun x h1 h2 => by omega⟩
  case round =>
    obtain ⟨m, him, hm, rfl, H⟩ := hrel
    by_cases hlt : m ≤ j
    · have c1 := (unhide HA).cell (a := i) (b := m) (by omega) (by omega)
      have c2 := (unhide HB).cell (a := m) (b := j) (by omega) (by omega)
      have m0 : (0 : Int) ≤ (m : Int) := Int.natCast_nonneg _
      have m1 : (m : Int) < 9 := by omega
      rcases h1 : P i m
      · rw [h1] at c1
        go_wp2
        go_round
        case rel => exact ⟨m + 1, by omega, by omega, by go_num, Lib.hid (any_next H.out (by rw [h1]; rfl))⟩
        case measure => simp [intOf]; omega
      · rw [h1] at c1
        rcases h2 : Q m j
        · rw [h2] at c2
          go_wp2
          go_round
          case rel => exact ⟨m + 1, by omega, by omega, by go_num, Lib.hid (any_next H.out (by rw [h1, h2]; rfl))⟩
          case measure => simp [intOf]; omega
        · rw [h2] at c2
          go_wp2
          go_ret
          exact ⟨ret_bool (join_yes him hlt h1 h2).symm, rfl⟩
    · obtain rfl : m = j + 1 := by omega
      go_wp2
      go_ret
      exact ⟨ret_bool (join_no H.out).symm, rfl⟩
theorem enter_joined (args : Array Value) (W : World) : (callFunc 82 args).run Try.prog W = .ok (.enter 82 args) W := rfl
theorem app22 (a b c d : Value) : (#[a, b] : Array Value) ++ #[c, d] = #[a, b, c, d] := by simp
theorem app21 (a b c : Value) : (#[a, b] : Array Value) ++ #[c] = #[a, b, c] := by simp
theorem app20 (a b : Value) : (#[a, b] : Array Value) ++ #[] = #[a, b] := by simp
theorem hmf_any (fn : Fn) (first cap : Array Value) (w : World) : (Instr.makeFunc fn first cap).run Try.prog w = .ok (.func fn first cap) w := rfl
theorem ret_arr {p : Tmp} {fn : Func} (h : fn.results = #[.cell p 73]) (tmps : Array Value) (w : World) (g : Nat) (Q : Nat → Nat → Bool) (hp : tmps.getD p undef = .pointer (some ⟨g, 0, none⟩)) (hg : ArrB w g Q) :
    (results fn tmps).run Try.prog w = .ok (.agg (arr Q)) w :=
  results_cell_row (p := p) (ty := 73) h _ _ g 73 (arr Q) (0, 0) _ hp hg Try.underlying73 rfl (arr_info Q)
theorem store_pack {w : World} {g : Nat} {old : Array Value} (Q : Nat → Nat → Bool) (hg : w.heap[g]? = some (.cells old 73 (0, 0))) (ho : old.size = 81) :
    ∃ C, Hid (arr Q = C) ∧ C.size = 81 ∧ (storeCells ⟨g, 0, none⟩ C.toList 0).run Try.prog w = .ok () (w.setRow g C) ∧ Hid (ArrB (w.setRow g C) g Q) :=
  ⟨_, Lib.hid rfl, arr_size Q, store_arr Q hg ho, Lib.hid (ArrB.row Q hg)⟩
theorem ret_pack {p : Tmp} {fn : Func} {Q : Nat → Nat → Bool} {C : Array Value} (h : fn.results = #[.cell p 73]) (hC : Hid (arr Q = C)) (tmps : Array Value) (w : World) (g : Nat) (hp : tmps.getD p undef = .pointer (some ⟨g, 0, none⟩)) (hg : ArrB w g Q) :
    (results fn tmps).run Try.prog w = .ok (.agg C) w := by
  have := hC.out
  subst this
  exact ret_arr h tmps w g Q hp hg
/-- Three blocks, two arrays and a result's room. -/
theorem three_new (w : World) (P Q : Nat → Nat → Bool) (W : World) (hW : ((w.alloc (.cells (arr P) 73)).alloc (.cells (arr Q) 73)).alloc (.cells Try.zeroCells73 73) = W) :
    ArrB W w.heap.size P ∧ ArrB W (w.heap.size + 1) Q ∧ W.heap[w.heap.size + 1 + 1]? = some (.cells Try.zeroCells73 73 (0, 0)) ∧ Below w.heap.size w W := by
  subst hW
  refine ⟨((ArrB.new w P).alloc _).alloc _, ?_, ?_, (by repeat (first | exact Below.refl _ _ | assumption | (refine Below.alloc ?_ (by first | omega | (simp; done) | (simp; omega)) _) | (refine Below.drew ?_) | (refine Below.trans ?_ (Below.mono (by assumption) (by first | omega | (simp; done) | (simp; omega))))))⟩
  · have h := (ArrB.new (w.alloc (.cells (arr P) 73)) Q).alloc (.cells Try.zeroCells73 73)
    rwa [World.size_alloc] at h
  · have h := heap_alloc_new ((w.alloc (.cells (arr P) 73)).alloc (.cells (arr Q) 73)) (.cells Try.zeroCells73 73)
    rwa [World.size_alloc, World.size_alloc] at h
theorem joinedSp_any (n : Nat) (P Q : Nat → Nat → Bool) (w : World) (hn : n ≤ 8) : Calls Try.prog 76 #[.int .i64 n, .agg (arr P), .agg (arr Q)] w (ArrD w (upTo n (joinB P Q))) := by
  have hmf := hmf_any
  go_enter Try.func76, Try.ntmps76
  go_wp2_with fail
  generalize hW : World.alloc _ _ = W
  obtain ⟨F0, F1, F2, F3⟩ := three_new w P Q W hW
  clear hW
  have hz := F3.size
  refine (filled_any n 82 (joinB P Q) #[.pointer (some ⟨w.heap.size, 0, none⟩), .pointer (some ⟨w.heap.size + 1, 0, none⟩)] _ hn enter_joined (fun W' hW i j hij hj => (app22 _ _ _ _).symm ▸ joined1_any W' _ _ i j P Q hij (by omega) (F0.up hW) (F1.up hW))).mono ?_
  rintro r w1 hd
  obtain ⟨rfl, hb⟩ := FillD.arr hd
  have G2 : w1.heap[w.heap.size + 1 + 1]? = some (.cells Try.zeroCells73 73 (0, 0)) := (hb.block _ (Array.getElem?_eq_some_iff.1 F2).1).trans F2
  obtain ⟨C, hC, hCs, hst, HR⟩ := store_pack (upTo n (joinB P Q)) G2 (by rw [zero_sp]; simp)
  have hbb := F3.trans (hb.mono hz)
  rw [hC.out]
  clear F0 F1 F2 F3 hb hd G2
  go_wp2
  exact bodyPost_ret (v := .agg C) (ret_pack (p := 6) rfl hC _ _ (w.heap.size + 1 + 1) rfl (unhide HR)) rfl ⟨by rw [hC.out], below_setRow hbb (by omega) _⟩
end Go.Proofs.Ytgcggmlekmjpdaa
