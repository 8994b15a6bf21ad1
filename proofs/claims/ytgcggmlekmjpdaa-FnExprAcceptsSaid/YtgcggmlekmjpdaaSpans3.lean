/-
  Membership: repeated spans.
-/
import Derived.Test.YtgcggmlekmjpdaaSpans2
namespace Go.Proofs.Ytgcggmlekmjpdaa
open Go.RowKit
set_option linter.unusedVariables false
set_option maxRecDepth 100000

theorem enter_star1 (args : Array Value) (W : World) : (callFunc 83 args).run Try.prog W = .ok (.enter 83 args) W := rfl
theorem enter_star2 (args : Array Value) (W : World) : (callFunc 84 args).run Try.prog W = .ok (.enter 84 args) W := rfl
theorem star1_any (i j : Int) (w : World) : Calls Try.prog 83 #[.int .i64 i, .int .i64 j] w fun r w' => r = .returned (.bool (decide (i = j))) ∧ w = w' := by
  rcases h : (i == j)
  all_goals
    go_enter Try.func83, Try.ntmps83
    go_wp2
    go_ret
    exact ⟨ret_bool (by simp at h ⊢; exact h), rfl⟩
theorem star2_any (w : World) (ga gb i j : Nat) (P Q : Nat → Nat → Bool) (hij : i ≤ j) (hj : j ≤ 8) (ha : ArrB w ga P) (hb : ArrB w gb Q) :
    Calls Try.prog 84 #[.int .i64 i, .int .i64 j, .pointer (some ⟨ga, 0, none⟩), .pointer (some ⟨gb, 0, none⟩)] w fun r w' => r = .returned (.bool (P i j || Q i j)) ∧ w = w' := by
  have c1 := ha.cell (a := i) (b := j) (by omega) (by omega)
  have c2 := hb.cell (a := i) (b := j) (by omega) (by omega)
  clear ha hb
  have i0 : (0 : Int) ≤ (i : Int) := Int.natCast_nonneg _
  have i1 : (i : Int) < 9 := by omega
  have j0 : (0 : Int) ≤ (j : Int) := Int.natCast_nonneg _
  have j1 : (j : Int) < 9 := by omega
  rcases h1 : P i j
  all_goals
    rw [h1] at c1
    go_enter Try.func84, Try.ntmps84
    go_wp2
    go_ret
    exact ⟨ret_bool (by simp), rfl⟩
theorem wp_load_arr {o : Oper} {a : Act} {w : World} {K : Act → World → Prop} {Q' : Exit → Act → World → Prop} (x : Operand) (ho : o.op = .load 73 x)
    (g : Nat) (hx : a.eval x = .pointer (some ⟨g, 0, none⟩)) (C : Array Value) (Q : Nat → Nat → Bool) (hC : Hid (arr Q = C)) (hg : ArrB w g Q) (h : K (a.put o.dst (.agg C)) w) : o.wp Try.prog a w K Q' := by
  have := hC.out
  subst this
  exact wp_load_row 73 x ho g hx 73 (arr Q) (0, 0) _ hg Try.underlying73 rfl (arr_info Q) h
theorem wpList_load_arr {ops : Array Oper} {rest : List Oper} {o : Oper} {a : Act} {w : World} {Q' : Exit → Act → World → Prop} (hgd : o.guard = none) (x : Operand) (ho : o.op = .load 73 x)
    (g : Nat) (hx : a.eval x = .pointer (some ⟨g, 0, none⟩)) (C : Array Value) (Q : Nat → Nat → Bool) (hC : Hid (arr Q = C)) (hg : ArrB w g Q) (h : wpList Try.prog ops Q' rest (a.put o.dst (.agg C)) w) : wpList Try.prog ops Q' (o :: rest) a w := by
  have := hC.out
  subst this
  exact wpList_load_row hgd 73 x ho g hx 73 (arr Q) (0, 0) _ hg Try.underlying73 rfl (arr_info Q) h
theorem load_arr {w : World} {g : Nat} {C : Array Value} {Q : Nat → Nat → Bool} (hC : Hid (arr Q = C)) (hg : ArrB w g Q) : (loadVar 73 ⟨g, 0, none⟩).run Try.prog w = .ok (.agg C) w := by
  have := hC.out
  subst this
  exact run_loadVar_row w g 73 73 (arr Q) (0, 0) _ hg Try.underlying73 rfl (arr_info Q)
theorem arr_pack (Q : Nat → Nat → Bool) : ∃ C, Hid (arr Q = C) ∧ C.size = 81 := ⟨_, Lib.hid rfl, arr_size Q⟩
theorem join_up {n : Nat} {P P' Q Q' : Nat → Nat → Bool} (hp : ∀ i j, i ≤ j → j ≤ n → P i j = P' i j) (hq : ∀ i j, i ≤ j → j ≤ n → Q i j = Q' i j) : ∀ i j, i ≤ j → j ≤ n → joinB P Q i j = joinB P' Q' i j := by
  intro i j hij hj
  rw [Bool.eq_iff_iff, joinB_iff, joinB_iff]
  constructor
  · rintro ⟨m, h1, h2, h3, h4⟩
    exact ⟨m, h1, h2, by rw [← hp i m h1 (by omega)]; exact h3, by rw [← hq m j h2 hj]; exact h4⟩
  · rintro ⟨m, h1, h2, h3, h4⟩
    exact ⟨m, h1, h2, by rw [hp i m h1 (by omega)]; exact h3, by rw [hq m j h2 hj]; exact h4⟩
theorem star_up {n : Nat} {P P' : Nat → Nat → Bool} (hp : ∀ i j, i ≤ j → j ≤ n → P i j = P' i j) (k : Nat) : ∀ i j, i ≤ j → j ≤ n → starN P k i j = starN P' k i j := by
  induction k with
  | zero => intros; rfl
  | succ k ih =>
    intro i j hij hj
    simp only [starN]
    rw [ih i j hij hj, join_up ih hp i j hij hj]
theorem star_step (n k : Nat) (P : Nat → Nat → Bool) : upTo n (fun i j => upTo n (starN P k) i j || upTo n (joinB (upTo n (starN P k)) P) i j) = upTo n (starN P (k + 1)) := by
  apply upTo_congr
  intro i j hij hj
  rw [upTo_at hij hj, upTo_at hij hj, starN]
  congr 1
  exact join_up (fun i j h1 h2 => upTo_at h1 h2) (fun _ _ _ _ => rfl) i j hij hj

/-- The same, with the array under a name of its own. -/
def ArrC (w : World) (Q : Nat → Nat → Bool) (r : Ending) (w' : World) : Prop := ∃ C, r = .returned (.agg C) ∧ Hid (arr Q = C) ∧ C.size = 81 ∧ Below w.heap.size w w'
theorem ArrD.pack {w : World} {Q : Nat → Nat → Bool} {r : Ending} {w' : World} (h : ArrD w Q r w') : ArrC w Q r w' := ⟨_, h.1, Lib.hid rfl, arr_size Q, h.2⟩
theorem filled_pack (n K : Nat) (P : Nat → Nat → Bool) (cap : Array Value) (w : World) (hn : n ≤ 8) (hK : ∀ (args : Array Value) (W : World), (callFunc K args).run Try.prog W = .ok (.enter K args) W)
    (hf : ∀ (W : World), Below w.heap.size w W → ∀ i j : Nat, i ≤ j → j ≤ n → Calls Try.prog K (#[.int .i64 i, .int .i64 j] ++ cap) W fun r W' => r = .returned (.bool (P i j)) ∧ W = W') :
    Calls Try.prog 73 #[.int .i64 n, .func (.func K) #[] cap] w (ArrC w (upTo n P)) := (filled_any n K P cap w hn hK hf).mono fun r w' h => (FillD.arr h).pack
theorem joined_pack (n : Nat) (P Q : Nat → Nat → Bool) (C D : Array Value) (hC : Hid (arr P = C)) (hD : Hid (arr Q = D)) (w : World) (hn : n ≤ 8) : Calls Try.prog 76 #[.int .i64 n, .agg C, .agg D] w (ArrC w (upTo n (joinB P Q))) := by
  have h1 := hC.out
  have h2 := hD.out
  subst h1; subst h2
  exact (joinedSp_any n P Q w hn).mono fun r w' h => ArrD.pack h
/-- A new block, and what is stored there. -/
theorem new_pack (w : World) {Q : Nat → Nat → Bool} {C : Array Value} (hC : Hid (arr Q = C)) :
    (storeCells ⟨w.heap.size, 0, none⟩ C.toList 0).run Try.prog (w.alloc (.cells Try.zeroCells73 73)) = .ok () ((w.alloc (.cells Try.zeroCells73 73)).setRow w.heap.size C) ∧
    Hid (ArrB ((w.alloc (.cells Try.zeroCells73 73)).setRow w.heap.size C) w.heap.size Q) ∧ Below w.heap.size w ((w.alloc (.cells Try.zeroCells73 73)).setRow w.heap.size C) ∧
    ((w.alloc (.cells Try.zeroCells73 73)).setRow w.heap.size C).heap.size = w.heap.size + 1 := by
  have := hC.out
  subst this
  have h := heap_alloc_new w (.cells Try.zeroCells73 73)
  exact ⟨store_arr Q h (by rw [zero_sp]; simp), Lib.hid (ArrB.row Q h), below_setRow ((Below.refl _ _).alloc (Nat.le_refl _) _) (Nat.le_refl _) _, by rw [size_setRow, World.size_alloc]⟩
theorem over_pack {w : World} {g : Nat} {P Q : Nat → Nat → Bool} {C : Array Value} (hC : Hid (arr Q = C)) (h : ArrB w g P) :
    (storeCells ⟨g, 0, none⟩ C.toList 0).run Try.prog w = .ok () (w.setRow g C) ∧ Hid (ArrB (w.setRow g C) g Q) := by
  have := hC.out
  subst this
  exact ⟨store_arr Q h (arr_size P), Lib.hid (ArrB.row Q h)⟩

set_option maxHeartbeats 1000000 in
theorem starSp_any (n : Nat) (P : Nat → Nat → Bool) (CP : Array Value) (hCP : Hid (arr P = CP)) (w : World) (hn : n ≤ 8) : Calls Try.prog 80 #[.int .i64 n, .agg CP] w (ArrC w (upTo n (starN P n))) := by
  have hmf := hmf_any
  go_enter Try.func80, Try.ntmps80
  go_wp2_with fail
  generalize hW : World.alloc _ _ = W
  have HF : ArrB W w.heap.size P ∧ W.heap[w.heap.size + 1]? = some (.cells Try.zeroCells73 73 (0, 0)) ∧ Below w.heap.size w W ∧ W.heap.size = w.heap.size + 2 := by
    rw [← hW, ← hCP.out]
    refine ⟨(ArrB.new w P).alloc _, ?_, (by repeat (first | exact Below.refl _ _ | assumption | (refine Below.alloc ?_ (by first | omega | (simp; done) | (simp; omega)) _) | (refine Below.drew ?_) | (refine Below.trans ?_ (Below.mono (by assumption) (by first | omega | (simp; done) | (simp; omega)))))), by simp⟩
    have h := heap_alloc_new (w.alloc (.cells (arr P) 73)) (.cells Try.zeroCells73 73)
    rwa [World.size_alloc] at h
  clear hW
  obtain ⟨F0, F1, F3, F4⟩ := HF
  refine (filled_pack n 83 (fun i j => decide (i = j)) #[] _ hn enter_star1 (fun W' hW i j hij hj => (app20 _ _).symm ▸ ((star1_any i j W').mono fun r w' h => ⟨by rw [h.1]; exact ret_bool (by simp; omega), h.2⟩))).mono ?_
  rintro r w1 ⟨C1, rfl, hC1, hC1s, hb⟩
  have hz := hb.size
  obtain ⟨hst1, HR1, hb1, hs1⟩ := new_pack w1 hC1
  have G0 := hide ((F0.up hb).up hb1)
  have G1 := hide ((hb1.block (w.heap.size + 1) (by omega)).trans ((hb.block _ (by omega)).trans F1))
  have G3 := F3.trans ((hb.mono F3.size).trans (hb1.mono (by omega)))
  clear F0 F1 F3 hb hb1
  go_wp2
  generalize hg5 : w1.heap.size = g5 at *
  generalize hW2 : World.setRow _ _ _ = W2 at *
  have hg : w.heap.size + 2 ≤ g5 := by omega
  clear hg5 hW2 hz F4
  go_loopw [11] (fun c wr => ∃ k : Nat, k ≤ n ∧ c = .int .i64 k ∧ Hid (ArrB wr g5 (upTo n (starN P k))) ∧ Hid (ArrB wr w.heap.size P) ∧ Hid (wr.heap[w.heap.size + 1]? = some (.cells Try.zeroCells73 73 (0, 0))) ∧ Below w.heap.size w wr) (fun c _ => n - (intOf c).toNat)
  case atStart => exact ⟨0, by omega, rfl, HR1, G0, G1, G3⟩
  case round =>
    clear HR1 G0 G1 G3 hst1 hs1
    obtain ⟨k, hk, rfl, H5, H0, H1, hb⟩ := hrel
    by_cases hlt : k < n
    · obtain ⟨C5, hC5, hC5s⟩ := arr_pack (upTo n (starN P k))
      go_wp2_with (first | (refine wpList_load_arr rfl (.tmp 5) rfl g5 rfl C5 _ hC5 (unhide H5) ?_) | (refine wpList_load_arr rfl (.tmp 3) rfl w.heap.size rfl CP _ hCP (unhide H0) ?_))
      refine (joined_pack n _ _ _ _ hC5 hCP _ hn).mono ?_
      rintro r w3 ⟨C6, rfl, hC6, hC6s, hb3⟩
      obtain ⟨hst6, HR6, hb6, hs6⟩ := new_pack w3 hC6
      have hz3 := hb3.size
      have l5 := (unhide H5).lt
      have hb36 := hb3.trans (hb6.mono hz3)
      have J5 := hide ((unhide H5).up hb36)
      have BB := hb.trans (hb36.mono hb.size)
      generalize hg6 : w3.heap.size = g6 at *
      generalize hW6 : World.setRow _ _ _ = W6 at *
      obtain ⟨hst7, HR7, hb7, hs7⟩ := new_pack W6 hC5
      have HS6 := Lib.hid hs6
      have HS7 := Lib.hid hs7
      clear hs6 hs7
      go_wp2_with (refine wpList_load_arr rfl (.tmp 5) rfl g5 rfl C5 _ hC5 (unhide J5) ?_)
      have hs6 := HS6.out
      generalize hg7 : W6.heap.size = g7 at *
      generalize hW7 : World.setRow _ _ _ = W7 at *
      have K6 := hide ((unhide HR6).below (B := g7) (by omega) hb7)
      have K5 := hide ((unhide J5).below (B := g7) (by omega) hb7)
      refine (filled_pack n 84 (fun i j => upTo n (starN P k) i j || upTo n (joinB (upTo n (starN P k)) P) i j) #[.pointer (some ⟨g7, 0, none⟩), .pointer (some ⟨g6, 0, none⟩)] _ hn enter_star2 (fun W' hW i j hij hj => (app22 _ _ _ _).symm ▸ star2_any W' _ _ i j _ _ hij (by omega) ((unhide HR7).up hW) ((unhide K6).up hW))).mono ?_
      rintro r w8 ⟨C8, rfl, hC8, hC8s, hb8⟩
      obtain ⟨hst8, HR8⟩ := over_pack hC8 ((unhide K5).up hb8)
      have e8 := star_step n k P
      rw [e8] at HR8
      have hz7 := hb7.size
      have hzz := HS7.out
      have hbA : Below w.heap.size w w8 := (BB.trans (hb7.mono (by have := BB.size; omega))).trans (hb8.mono (by have := BB.size; omega))
      have hbB : Below wr.heap.size wr w8 := (hb36.trans (hb7.mono (by have := hb36.size; omega))).trans (hb8.mono (by have := hb36.size; omega))
      have L0 := hide (((unhide H0).up hbB).far (g := g5) (cs := C8) (by omega))
      have L1 := hide ((setRow_far (w := w8) (g := g5) (cs := C8) (k := w.heap.size + 1) (by omega)).trans ((hbB.block _ (by omega)).trans (unhide H1)))
      go_wp2
      go_roundw
      case rel => exact ⟨k + 1, by omega, by go_num, HR8, L0, L1, below_setRow hbA (by omega) C8⟩
      case measure => simp [intOf]; omega
    · obtain rfl : k = n := by omega
      obtain ⟨C5, hC5, hC5s⟩ := arr_pack (upTo k (starN P k))
      obtain ⟨C9, hC9, hC9s, hst, HR⟩ := store_pack (upTo k (starN P k)) (unhide H1) (by rw [zero_sp]; simp)
      obtain rfl : C5 = C9 := hC5.out.symm.trans hC9.out
      go_wp2_with (refine wpList_load_arr rfl (.tmp 5) rfl g5 rfl C5 _ hC5 (unhide H5) ?_)
      exact bodyPost_ret (v := .agg C5) (ret_pack (p := 4) rfl hC5 _ _ (w.heap.size + 1) rfl (unhide HR)) rfl ⟨_, rfl, hC5, hC5s, below_setRow hb (by omega) _⟩
end Go.Proofs.Ytgcggmlekmjpdaa
