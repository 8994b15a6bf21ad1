/-
  Membership: the arrays of spans.
-/
import Derived.Test.YtgcggmlekmjpdaaStarts
import Derived.Laws.Rows
import Derived.Laws.Tables
import Derived.Deep.RegionHeld3
namespace Go.Proofs.Ytgcggmlekmjpdaa
open Go.RowKit
set_option linter.unusedVariables false
set_option maxRecDepth 100000

theorem spEmpty_any (i j : Int) (w : World) : Calls Try.prog 74 #[.int .i64 i, .int .i64 j] w fun r w' => r = .returned (.bool (decide (i = j))) ∧ w = w' := by
  rcases h : (i == j)
  all_goals
    go_enter Try.func74, Try.ntmps74
    go_wp2
    go_ret
    exact ⟨ret_bool (by simp at h ⊢; exact h), rfl⟩
/-- The cells of an array of spans: 9 rows of 9. -/
def SpB (w : World) (g : Nat) (P : Nat → Nat → Bool) : Prop :=
  ∃ cur : Array Value, w.heap[g]? = some (.cells cur 73 (0, 0)) ∧ cur.size = 81 ∧ ∀ a b, a < 9 → b < 9 → cur[a * 9 + b]? = some (.bool (P a b))
theorem box_lt2 {w : World} {g : Nat} {o : Obj} (h : w.heap[g]? = some o) : g < w.heap.size := by
  obtain ⟨h, -⟩ := Array.getElem?_eq_some_iff.1 h; exact h
theorem SpB.at {w : World} {g a b : Nat} {P : Nat → Nat → Bool} (h : SpB w g P) (ha : a < 9) (hb : b < 9) : ∃ q, w.cell? ⟨g, a * 9 + b, none⟩ = some (.bool q) ∧ w.frozen? ⟨g, a * 9 + b, none⟩ = false := by
  obtain ⟨cur, h1, h2, h3⟩ := h
  refine ⟨P a b, ?_, ?_⟩
  · simp [World.cell?, h1, h3 a b ha hb]
  · simp [World.frozen?, h1]
/-- What is filled in when row a is at place b. -/
def fillP (n : Nat) (P : Nat → Nat → Bool) (a b : Nat) (x y : Nat) : Bool := decide (x ≤ y ∧ y ≤ n ∧ (x < a ∨ (x = a ∧ y < b))) && P x y
theorem SpB.congr {w : World} {g : Nat} {P Q : Nat → Nat → Bool} (h : SpB w g P) (e : ∀ x y, P x y = Q x y) : SpB w g Q := by
  obtain ⟨cur, h1, h2, h3⟩ := h
  exact ⟨cur, h1, h2, fun a b ha hb => by rw [h3 a b ha hb, e]⟩
theorem SpB.set {w : World} {g a b : Nat} {P : Nat → Nat → Bool} (h : SpB w g P) (ha : a < 9) (hb : b < 9) (v : Bool) : SpB ((w.setCell ⟨g, a * 9 + b, none⟩ (.bool v)).drew) g fun x y => if x = a ∧ y = b then v else P x y := by
  obtain ⟨cur, h1, h2, h3⟩ := h
  refine ⟨cur.setIfInBounds (a * 9 + b) (.bool v), ?_, by simpa using h2, fun x y hx hy => ?_⟩
  · show (w.setCell ⟨g, a * 9 + b, none⟩ (.bool v)).heap[g]? = _
    have hlt := box_lt2 h1
    obtain ⟨hg, he⟩ := Array.getElem?_eq_some_iff.1 h1
    simp [World.setCell, hlt, Array.getElem_modify, he]
  · rw [Array.getElem?_setIfInBounds]
    by_cases he : x = a ∧ y = b
    · obtain ⟨rfl, rfl⟩ := he
      simp [h2]; omega
    · have hne : a * 9 + b ≠ x * 9 + y := by omega
      rw [if_neg hne, h3 x y hx hy]
      show _ = some (Value.bool (if x = a ∧ y = b then v else P x y))
      rw [if_neg he]
theorem fill_next {n : Nat} {P : Nat → Nat → Bool} {a b x y : Nat} (hab : a ≤ b) (hb : b ≤ n) : (if x = a ∧ y = b then P a b else fillP n P a b x y) = fillP n P a (b + 1) x y := by
  unfold fillP
  by_cases he : x = a ∧ y = b
  · obtain ⟨rfl, rfl⟩ := he
    simp [hab, hb]
  · rw [if_neg he]
    congr 1
    apply decide_eq_decide.2
    omega
theorem fill_start {n : Nat} {P : Nat → Nat → Bool} {a x y : Nat} : fillP n P a 0 x y = fillP n P a a x y := by
  unfold fillP
  congr 1
  apply decide_eq_decide.2
  omega
theorem fill_row {n : Nat} {P : Nat → Nat → Bool} {a x y : Nat} : fillP n P a (n + 1) x y = fillP n P (a + 1) 0 x y := by
  unfold fillP
  congr 1
  apply decide_eq_decide.2
  omega
/-- The spans up to n. -/
def upTo (n : Nat) (P : Nat → Nat → Bool) (x y : Nat) : Bool := decide (x ≤ y ∧ y ≤ n) && P x y
theorem fill_end {n : Nat} {P : Nat → Nat → Bool} {x y : Nat} : fillP n P (n + 1) 0 x y = upTo n P x y := by
  unfold fillP upTo
  congr 1
  apply decide_eq_decide.2
  omega
theorem zero_sp : Try.zeroCells73 = Array.replicate 81 (.bool false) := by kernel_rfl
theorem SpB.zero {w : World} {g n : Nat} {P : Nat → Nat → Bool} (h : w.heap[g]? = some (.cells Try.zeroCells73 73 (0, 0))) : SpB w g (fillP n P 0 0) := by
  refine ⟨_, h, by rw [zero_sp]; simp, fun a b ha hb => ?_⟩
  rw [zero_sp]
  have e : fillP n P 0 0 a b = false := by unfold fillP; simp
  rw [e]
  simp [Array.getElem?_replicate]; omega
theorem run_storeCells_row {P : Program} (w : World) (g : Nat) (t : TypeId) (old cells : Array Value) (hg : w.heap[g]? = some (.cells old t (0, 0))) (hi : (P.info? t).map (·.size) = some cells.size) (ho : old.size = cells.size) (h1 : cells.all (·.oneCell') = true) :
    (storeCells ⟨g, 0, none⟩ cells.toList 0).run P w = .ok () (w.setRow g cells) := by
  have := run_storeVar_row (P := P) w g t t old cells hg hi ho h1
  cases hq : P.info? t with
  | none => simp [hq] at hi
  | some i =>
    have hs : cells.size = i.size := by simp [hq] at hi; omega
    simpa [storeVar, sizeOf, typeInfo, hq, Value.cells, hs] using this
theorem sp_one {cur : Array Value} {Q : Nat → Nat → Bool} (h2 : cur.size = 81) (h3 : ∀ a b, a < 9 → b < 9 → cur[a * 9 + b]? = some (.bool (Q a b))) : cur.all (·.oneCell') = true := by
  rw [Array.all_eq_true]
  intro i hi
  have h := h3 (i / 9) (i % 9) (by omega) (by omega)
  rw [show i / 9 * 9 + i % 9 = i by omega, Array.getElem?_eq_getElem hi] at h
  injection h with h
  rw [h]; rfl
theorem below_setRow {B g : Nat} {a w : World} (h : Below B a w) (hg : B ≤ g) (cs : Array Value) : Below B a (w.setRow g cs) :=
  h.trans ⟨rfl, rfl, rfl, by simp [World.setRow], fun k hk => by simp only [World.setRow, Array.getElem?_modify]; rw [if_neg (by omega)]⟩
theorem heap_setRow {w : World} {g : Nat} {old cs : Array Value} {t : TypeId} (h : w.heap[g]? = some (.cells old t (0, 0))) : (w.setRow g cs).heap[g]? = some (.cells cs t (0, 0)) := by
  simp [World.setRow, Array.getElem?_modify, h]
theorem SpB.lt {w : World} {g : Nat} {P : Nat → Nat → Bool} (h : SpB w g P) : g < w.heap.size := by
  obtain ⟨cur, h1, -⟩ := h; exact box_lt2 h1
theorem SpB.drew {w : World} {g : Nat} {P : Nat → Nat → Bool} (h : SpB w g P) : SpB w.drew g P := h
theorem SpB.below {w w' : World} {g : Nat} {P : Nat → Nat → Bool} (h : SpB w g P) (hb : Below w.heap.size w w') : SpB w' g P := by
  have hl := h.lt
  obtain ⟨cur, h1, h2⟩ := h
  exact ⟨cur, (hb.block _ hl).trans h1, h2⟩
theorem SpB.set0 {w : World} {g a b : Nat} {P : Nat → Nat → Bool} (h : SpB w g P) (ha : a < 9) (hb : b < 9) (v : Bool) : SpB (w.setCell ⟨g, a * 9 + b, none⟩ (.bool v)) g fun x y => if x = a ∧ y = b then v else P x y := SpB.set h ha hb v
/-- What 'filled' leaves: an array of spans as a value. -/
def SpV (v : Value) (Q : Nat → Nat → Bool) : Prop := ∃ cs : Array Value, v = .agg cs ∧ cs.size = 81 ∧ ∀ a b, a < 9 → b < 9 → cs[a * 9 + b]? = some (.bool (Q a b))
def FillD (w : World) (Q : Nat → Nat → Bool) (r : Ending) (w' : World) : Prop := ∃ v, r = .returned v ∧ SpV v Q ∧ Below w.heap.size w w'
set_option maxHeartbeats 400000 in
theorem filled_below (n K : Nat) (P : Nat → Nat → Bool) (cap : Array Value) (w : World) (hn : n ≤ 8) (hK : ∀ (args : Array Value) (W : World), (callFunc K args).run Try.prog W = .ok (.enter K args) W)
    (hf : ∀ (W : World), Below w.heap.size w W → ∀ i j : Nat, i ≤ j → j ≤ n → Calls Try.prog K (#[.int .i64 i, .int .i64 j] ++ cap) W fun r W' => r = .returned (.bool (P i j)) ∧ Below W.heap.size W W') :
    Calls Try.prog 73 #[.int .i64 n, .func (.func K) #[] cap] w (FillD w (upTo n P)) := by
  have HF := hide hf
  clear hf
  go_enter Try.func73, Try.ntmps73
  go_wp2
  go_loopw [6, 7] (fun i j wr => ∃ a : Nat, a ≤ n + 1 ∧ i = .int .i64 a ∧ Hid (SpB wr (w.heap.size + 1) (fillP n P a 0)) ∧ Hid (wr.heap[w.heap.size]? = some (.cells Try.zeroCells73 73 (0, 0))) ∧ Below w.heap.size w wr) (fun i _ _ => n + 1 - (intOf i).toNat)
  case atStart => exact ⟨0, by omega, rfl, Lib.hid (SpB.zero (by have := heap_alloc_new (w.alloc (.cells Try.zeroCells73 73)) (.cells Try.zeroCells73 73); rwa [World.size_alloc] at this)), Lib.hid ((Below.heap_alloc _ _ _ (by simp)).trans (heap_alloc_new _ _)), ((Below.refl _ _).alloc (Nat.le_refl _) _).alloc (by simp) _⟩
  case round =>
    obtain ⟨a, ha, rfl, hsp, hz, hb⟩ := hrel
    by_cases hlt : a ≤ n
    · go_wp2
      go_loopw [7] (fun j wr => ∃ b : Nat, a ≤ b ∧ b ≤ n + 1 ∧ j = .int .i64 b ∧ Hid (SpB wr (w.heap.size + 1) (fillP n P a b)) ∧ Hid (wr.heap[w.heap.size]? = some (.cells Try.zeroCells73 73 (0, 0))) ∧ Below w.heap.size w wr) (fun j _ => n + 1 - (intOf j).toNat)
      case atStart => exact ⟨a, Nat.le_refl _, by omega, rfl, Lib.hid (SpB.congr hsp fun x y => fill_start), hz, hb⟩
      case round =>
        obtain ⟨b, hab, hbn, rfl, hsp, hz, hb⟩ := hrel
        by_cases hlt2 : b ≤ n
        · have i0 : (0 : Int) ≤ (a : Int) := Int.natCast_nonneg _
          have i1 : (a : Int) < 9 := by omega
          have j0 : (0 : Int) ≤ (b : Int) := Int.natCast_nonneg _
          have j1 : (b : Int) < 9 := by omega
          go_wp2
          go_wp2
          have hbd : Below w.heap.size w wr.drew := hb.drew
          obtain ⟨q, hc, hfz⟩ := SpB.at hsp (a := a) (b := b) (by omega) (by omega)
          have hlt1 := SpB.lt hsp
          have hcd : wr.drew.cell? ⟨w.heap.size + 1, a * 9 + b, none⟩ = some (.bool q) := hc
          have hfd : wr.drew.frozen? ⟨w.heap.size + 1, a * 9 + b, none⟩ = false := hfz
          have hlW : w.heap.size + 1 < wr.drew.heap.size := hlt1
          go_region_held3 (fun w' => True) (trivial) (first | (with_reducible refine ((unhide HF) _ hbd a b hab hlt2).mono ?_; (rintro r W' ⟨rfl, hbW⟩; have hcd' := (hbW.cell (p := ⟨w.heap.size + 1, a * 9 + b, none⟩) hlW).trans hcd; have hfd' := (hbW.frozen (p := ⟨w.heap.size + 1, a * 9 + b, none⟩) hlW).trans hfd)))
          go_wp2
          go_roundw
          case rel => exact ⟨b + 1, by omega, by omega, by go_num, Lib.hid ((SpB.set0 (SpB.below (SpB.drew hsp) hbW) (by omega) (by omega) (P a b)).congr fun x y => fill_next hab hlt2), Lib.hid ((Below.heap_setCell _ _ _ _ (by simp)).trans ((hbW.block _ (by show w.heap.size < wr.heap.size; omega)).trans hz)), (hb.drew.trans (hbW.mono (by show w.heap.size ≤ wr.heap.size; omega))).setCell (by simp) _⟩
          case measure => simp [intOf]; omega
        · obtain rfl : b = n + 1 := by omega
          go_wp2
          go_roundw
          case rel => exact ⟨a + 1, by omega, by go_num, Lib.hid (SpB.congr hsp fun x y => fill_row), hz, hb⟩
          case measure => simp [intOf]; omega
    · obtain rfl : a = n + 1 := by omega
      have HE := hide (SpB.congr hsp fun x y => fill_end)
      go_wp2
      obtain ⟨cur, h1, h2, h3⟩ := unhide HE
      refine wp_load_row 73 (.tmp 5) rfl (w.heap.size + 1) rfl _ cur (0, 0) _ h1 Try.underlying73 rfl (by rw [h2]; kernel_rfl) ?_
      have hst := run_storeCells_row (P := Try.prog) wr w.heap.size 73 _ cur hz (by rw [h2]; kernel_rfl) (by rw [zero_sp, h2]; simp) (sp_one h2 h3)
      have HZ := hide hz
      have H1 := hide h1
      have H2 := Lib.hid h2
      have H3 := hide h3
      clear hz h1 h2 h3 hsp HE
      go_wp2
      exact bodyPost_ret (v := .agg cur) (results_cell_row (p := 4) (ty := 73) rfl _ _ w.heap.size 73 cur (0, 0) _ rfl (heap_setRow (unhide HZ)) Try.underlying73 rfl (by rw [H2.out]; kernel_rfl)) rfl ⟨_, rfl, ⟨cur, rfl, H2.out, unhide H3⟩, below_setRow hb (Nat.le_refl _) cur⟩
theorem filled_any (n K : Nat) (P : Nat → Nat → Bool) (cap : Array Value) (w : World) (hn : n ≤ 8) (hK : ∀ (args : Array Value) (W : World), (callFunc K args).run Try.prog W = .ok (.enter K args) W)
    (hf : ∀ (W : World), Below w.heap.size w W → ∀ i j : Nat, i ≤ j → j ≤ n → Calls Try.prog K (#[.int .i64 i, .int .i64 j] ++ cap) W fun r W' => r = .returned (.bool (P i j)) ∧ W = W') :
    Calls Try.prog 73 #[.int .i64 n, .func (.func K) #[] cap] w (FillD w (upTo n P)) :=
  filled_below n K P cap w hn hK fun W hW i j h1 h2 => (hf W hW i j h1 h2).mono fun r W' h => ⟨h.1, by rw [h.2]; exact Below.refl _ _⟩
end Go.Proofs.Ytgcggmlekmjpdaa
