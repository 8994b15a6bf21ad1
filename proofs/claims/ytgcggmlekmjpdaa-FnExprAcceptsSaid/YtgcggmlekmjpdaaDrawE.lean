/-
  The drawn expressions: some list of parts of bounded length, in memory of the call's own; nothing else is said of it.
-/
import Derived.Test.YtgcggmlekmjpdaaDrawB
import Derived.Test.YtgcggmlekmjpdaaLists
namespace Go.Proofs.Ytgcggmlekmjpdaa
open Go.RowKit
set_option linter.unusedVariables false
set_option maxRecDepth 100000

def mkLen : Nat → Nat
  | 0 => 1
  | d + 1 => 2 * mkLen d + 1
def mkQ : Nat → Int
  | 0 => 3
  | d + 1 => 2 * mkQ d + 3
theorem mkLen_pos (d : Nat) : 1 ≤ mkLen d := by cases d <;> simp [mkLen]
theorem mkLen_bd {d : Nat} (h : d ≤ 3) : mkLen d ≤ 15 := by
  have : d = 0 ∨ d = 1 ∨ d = 2 ∨ d = 3 := by omega
  rcases this with rfl | rfl | rfl | rfl <;> decide
theorem mkQ_bd {d : Nat} (h : d ≤ 3) : 3 ≤ mkQ d ∧ mkQ d ≤ 45 := by
  have : d = 0 ∨ d = 1 ∨ d = 2 ∨ d = 3 := by omega
  rcases this with rfl | rfl | rfl | rfl <;> decide
theorem grown_own {w w3 w4 : World} {R : Nat} {row : Option Nat} (h : w.grownBy w3 (some R)) (hg : w3.grownBy w4 row) (hr : ∀ k, row = some k → w.heap.size ≤ k) : w.grownBy w4 (some R) :=
  ⟨hg.os.trans h.os, hg.tape.trans h.tape, hg.output.trans h.output, Nat.le_trans h.size hg.size, fun i hi hne => (hg.block i (Nat.lt_of_lt_of_le hi h.size) (fun e => by have := hr i e.symm; omega)).trans (h.block i hi hne)⟩
theorem Rd.own {w w' : World} {B R : Nat} {p : Int} {row : Option Nat} (h : Rd w B R p) (hg : w.grownBy w' row) (hr : ∀ k, row = some k → R < k) : Rd w' B R p :=
  h.keep fun i hi => hg.block i (by have := h.lt; omega) (fun e => by have := hr i e.symm; omega)
/-- An own row is kept by what writes the reader alone. -/
theorem own_reader {w w' : World} {base n size R : Nat} {t : TypeId} {v : Value} {xs : List Value} (h : w.ownsRow base t size v n xs) (hg : w.grownBy w' (some R)) (hR : R < base) : w'.ownsRow base t size v n xs :=
  h.kept hg (by
    rcases e : v.ownBlock with _ | k
    · exact .inl rfl
    · right; intro he; injection he with he; have := own_block h k e; omega)
/-- What a drawn expression leaves. -/
def MakeD (w : World) (B R : Nat) (p : Int) (m : Nat) (q0 : Int) (r : Ending) (w' : World) : Prop :=
  ∃ (e : List Pt) (v : Value) (q : Int), r = .returned v ∧ 1 ≤ e.length ∧ e.length ≤ m ∧ w'.ownsRow w.heap.size 37 2 v e.length (flatV e) ∧ p ≤ q ∧ q ≤ p + q0 ∧ Rd w' B R q ∧ w.grownBy w' (some R)
theorem le_alloc' {a : Nat} {w : World} {o : Obj} (h : a ≤ w.heap.size) : a ≤ (w.alloc o).heap.size := by simp; omega
theorem own_len_eq {w : World} {base n m size : Nat} {t : TypeId} {v : Value} {xs : List Value} (hnm : m = n) (h : w.ownsRow base t size v n xs) : w.ownsRow base t size v m xs := hnm ▸ h
theorem own_low {w : World} {base base' n size : Nat} {t : TypeId} {v : Value} {xs : List Value} (h : w.ownsRow base t size v n xs) (hb : base' ≤ base) : w.ownsRow base' t size v n xs := by
  refine ⟨h.1, ?_⟩
  rcases h.2 with h2 | ⟨g, cap, cur, e1, e2, e4⟩
  · exact .inl h2
  · exact .inr ⟨g, cap, cur, e1, by omega, e4⟩
theorem own_one (w : World) (base : Nat) (k l : Int) (hb : base ≤ w.heap.size) : (w.alloc (.cells #[.int .i64 k, .int .i64 l] 37)).ownsRow base 37 2 (.slice (some ⟨w.heap.size, 0, none⟩) 1 1) 1 (flatV [(k, l)]) := by
  have h := World.ownsRow_lit (base := base) (e := 37) (size := 2) w #[.int .i64 k, .int .i64 l] 1 hb (by simp [maxLen]) rfl
  exact h

theorem make_end {w W w5 : World} {B R : Nat} {q : Int} {v : Value} {n : Nat} {e : List Pt} {o : Obj} (hlt : R < w.heap.size) (hown : W.ownsRow w.heap.size 37 2 v n (flatV e)) (hR : Rd W B R q) (hg : w.grownBy W (some R)) (hgrow : (W.alloc o).grownBy w5 v.ownBlock) :
    Rd w5 B R q ∧ w.grownBy w5 (some R) :=
  ⟨(hR.alloc o).own hgrow (fun k hk => by have := own_block hown k hk; omega), grown_own (only_alloc hg o) hgrow (fun k hk => own_block hown k hk)⟩
set_option maxHeartbeats 4000000 in
theorem l20Make_any (d : Nat) (hd : d ≤ 3) : ∀ (w : World) (B R : Nat) (p : Int) (h : Rd w B R p) (hp : p + mkQ d ≤ 100000000),
    Calls Try.prog 64 #[.pointer (some ⟨R, 0, none⟩), .int .i64 (d : Int), .bool false] w (MakeD w B R p (mkLen d) (mkQ d)) := by
  induction d with
  | zero =>
    intro w B R p h hp
    simp only [mkQ] at hp
    have hlt := h.lt
    go_enter Try.func64, Try.ntmps64
    go_wp2_with fail
    refine (pick_any _ B R p 9 h (by omega) (by omega)).mono ?_
    rintro r w1 ⟨k, rfl, k0, k1, hR1, hg1⟩
    have hz1 := hg1.size
    by_cases hk0 : k = 0
    · subst hk0
      go_wp2
      go_ret
      exact ⟨[(2, 0)], _, p + 1, rfl, by simp, by simp [mkLen], own_one _ _ _ _ hz1, by omega, by simp only [mkQ]; omega, hR1.alloc _, only_alloc hg1 _⟩
    · have e0 : (k == 0) = false := by simpa using hk0
      by_cases hk1 : k = 1
      · subst hk1
        go_wp2_with fail
        refine (pick_any _ B R (p + 1) 3 (hR1.alloc _) (by omega) (by omega)).mono ?_
        rintro r w2 ⟨j, rfl, j0, j1, hR2, hg2⟩
        have j2 := j1 (by omega)
        clear j1
        have hz2 := hg2.size
        simp only [World.size_alloc] at hz2
        have hfar := fun o => only_far hg2 (b := w1.heap.size) o (by simp) (by omega)
        have hgg := only_trans (only_alloc hg1 _) hg2
        rcases (show j = 0 ∨ j = 1 ∨ j = 2 by omega) with rfl | rfl | rfl
        all_goals
          go_wp2
          go_ret
          exact ⟨[_], _, p + 1 + 1, rfl, by simp, by simp [mkLen], own_one _ _ _ _ (by omega), by omega, by simp only [mkQ]; omega, hR2.alloc _, only_alloc hgg _⟩
      · have e1 : (k == 1) = false := by simpa using hk1
        go_wp2_with fail
        refine (pick_any _ B R (p + 1) 3 hR1 (by omega) (by omega)).mono ?_
        rintro r w2 ⟨j, rfl, j0, j1, hR2, hg2⟩
        have hz2 := hg2.size
        go_wp2
        go_ret
        exact ⟨[_], _, p + 1 + 1, rfl, by simp, by simp [mkLen], own_one _ _ _ _ (by omega), by omega, by simp only [mkQ]; omega, hR2.alloc _, only_alloc (only_trans hg1 hg2) _⟩
  | succ d ih =>
    intro w B R p h hp
    have hlt := h.lt
    have hmk := mkLen_bd (show d ≤ 3 by omega)
    have hmp := mkLen_pos d
    obtain ⟨hq0, hq1⟩ := mkQ_bd (show d ≤ 3 by omega)
    simp only [mkQ] at hp
    have hd1 : ((d + 1 : Nat) : Int) = (d : Int) + 1 := by omega
    rw [hd1]
    have hne : ((d : Int) + 1 == 0) = false := by simp; omega
    clear hd1
    go_enter Try.func64, Try.ntmps64
    go_wp2_with fail
    refine (pick_any _ B R p 4 h (by omega) (by omega)).mono ?_
    rintro r wa ⟨kk, rfl, kk0, -, hRa, hga⟩
    have hza := hga.size
    by_cases hkk : kk = 0
    · subst hkk
      go_wp2_with fail
      refine (pick_any _ B R (p + 1) 9 hRa (by omega) (by omega)).mono ?_
      rintro r w1 ⟨k, rfl, k0, k1, hR1, hg1'⟩
      have hg1 := only_trans hga hg1'
      have hz1 := hg1.size
      by_cases hk0 : k = 0
      · subst hk0
        go_wp2
        go_ret
        exact ⟨[(2, 0)], _, p + 1 + 1, rfl, by simp, by simp [mkLen], own_one _ _ _ _ hz1, by omega, by simp only [mkQ]; omega, hR1.alloc _, only_alloc hg1 _⟩
      · have e0 : (k == 0) = false := by simpa using hk0
        by_cases hk1 : k = 1
        · subst hk1
          go_wp2_with fail
          refine (pick_any _ B R (p + 1 + 1) 3 (hR1.alloc _) (by omega) (by omega)).mono ?_
          rintro r w2 ⟨j, rfl, j0, j1, hR2, hg2⟩
          have j2 := j1 (by omega)
          clear j1
          have hz2 := hg2.size
          simp only [World.size_alloc] at hz2
          have hfar := fun o => only_far hg2 (b := w1.heap.size) o (by simp) (by omega)
          have hgg := only_trans (only_alloc hg1 _) hg2
          rcases (show j = 0 ∨ j = 1 ∨ j = 2 by omega) with rfl | rfl | rfl
          all_goals
            go_wp2
            go_ret
            exact ⟨[_], _, p + 1 + 1 + 1, rfl, by simp, by simp [mkLen], own_one _ _ _ _ (by omega), by omega, by simp only [mkQ]; omega, hR2.alloc _, only_alloc hgg _⟩
        · have e1 : (k == 1) = false := by simpa using hk1
          go_wp2_with fail
          refine (pick_any _ B R (p + 1 + 1) 3 hR1 (by omega) (by omega)).mono ?_
          rintro r w2 ⟨j, rfl, j0, j1, hR2, hg2⟩
          have hz2 := hg2.size
          go_wp2
          go_ret
          exact ⟨[_], _, p + 1 + 1 + 1, rfl, by simp, by simp [mkLen], own_one _ _ _ _ (by omega), by omega, by simp only [mkQ]; omega, hR2.alloc _, only_alloc (only_trans hg1 hg2) _⟩
    · have ekk : (kk == 0) = false := by simpa using hkk
      go_wp2_with fail
      refine (pick_any _ B R (p + 1) 9 (hRa.alloc _) (by omega) (by omega)).mono ?_
      rintro r w1 ⟨k, rfl, k0, k1, hR1, hg1'⟩
      have k2 := k1 (by omega)
      clear k1
      have hg1 := only_trans (only_alloc hga _) hg1'
      have hz1 := hg1.size
      obtain ⟨kn, rfl⟩ := Int.eq_ofNat_of_zero_le k0
      have hkn : kn < 9 := by omega
      have hz1' := hg1'.size
      simp only [World.size_alloc] at hz1'
      obtain ⟨kv, hkv, hcell⟩ : ∃ kv : Int, (kv = 4 ∨ kv = 5 ∨ kv = 6 ∨ kv = 7 ∨ kv = 8) ∧ w1.cell? ⟨wa.heap.size, kn, none⟩ = some (.int .i64 kv) := by
        have hrow := (hg1'.block wa.heap.size (by simp) (by intro e; injection e; omega)).trans (heap_alloc_new wa _)
        have : kn = 0 ∨ kn = 1 ∨ kn = 2 ∨ kn = 3 ∨ kn = 4 ∨ kn = 5 ∨ kn = 6 ∨ kn = 7 ∨ kn = 8 := by omega
        rcases this with rfl | rfl | rfl | rfl | rfl | rfl | rfl | rfl | rfl
        all_goals exact ⟨_, by decide, (cell_of_row w1 _ _ _ _ _ hrow).trans rfl⟩
      clear hg1'
      go_wp2_with fail
      refine (ih (by omega) w1 B R (p + 1 + 1) hR1 (by omega)).mono ?_
      rintro r w2 ⟨e, v, q, rfl, he1, he2, hown, hq2, hq3, hR2, hg2⟩
      have hgg := only_trans hg1 hg2
      have hO := own_low hown hz1
      clear hown hg1 hg2
      rcases (show ((kv != 8) = true ∧ (kv != 7) = true) ∨ kv = 8 ∨ kv = 7 by rcases hkv with rfl | rfl | rfl | rfl | rfl <;> decide) with ⟨k8, k7⟩ | rfl | rfl
      · go_wp2_with fail
        refine (pick_any _ B R q 9 hR2 (by omega) (by omega)).mono ?_
        rintro r w3 ⟨j, rfl, j0, -, hR3, hg3⟩
        have hgg3 := only_trans hgg hg3
        have hO3 := own_reader hO hg3 hlt
        obtain ⟨A, c, rfl, hSL⟩ := SL_own hO3 (by unfold maxLen; omega)
        have HSL := hide hSL
        have HO3 := hide hO3
        have hz3 := hgg3.size
        clear hO hSL hO3
        by_cases hj : j = 0
        · subst hj
          go_wp2_with (first
            | (at_builtin; refine wpList_append_parts rfl (.tmp 63) (.tmp 64) rfl w.heap.size w3.heap.size (.slice A e.length c) e.length e rfl (unhide HO3) A e.length c e rfl (unhide HSL).2.2.2 (unhide HSL).1 ?_ ?_ ?_; go_must (omega); go_must (exact hz3); (intro v4 w4 hown4 hgrow4; have HO4 := hide hown4; have hR4 := hR3.own hgrow4 (fun k hk => Nat.lt_of_lt_of_le hlt (own_block (unhide HO3) k hk)); have hgg4 := grown_own hgg3 hgrow4 (own_block (unhide HO3)); clear hown4))
            | (at_builtin; refine wpList_append_parts rfl (.tmp 73) (.tmp 76) rfl w.heap.size (w4.heap.size + 1) v4 (e.length + e.length) (e ++ e) rfl ((unhide HO4).alloc _) (some ⟨w4.heap.size, 0, none⟩) 1 1 [(kv, 0)] rfl (fun h => nomatch h) (PS.one _ _ _ _ _ (Nat.lt_succ_self _)) ?_ ?_ ?_; go_must (omega); go_must (exact le_alloc' hgg4.size); (intro v5 w5 hown5 hgrow5)))
          go_ret
          obtain ⟨r1, r2⟩ := make_end hlt (unhide HO4) hR4 hgg4 hgrow5
          exact ⟨e ++ e ++ [(kv, 0)], v5, q + 1, rfl, by simp <;> omega, by simp [mkLen]; omega, own_len_eq (by simp <;> omega) hown5, by omega, by simp only [mkQ]; omega, r1, r2⟩
        · have ej : (j == 0) = false := by simpa using hj
          go_wp2_with fail
          refine (ih (by omega) w3 B R (q + 1) hR3 (by omega)).mono ?_
          rintro r w4 ⟨e2, v2, q2, rfl, hf1, hf2, hown2, hq4, hq5, hR4, hg4⟩
          have hgg4 := only_trans hgg3 hg4
          have hO4 := own_reader (unhide HO3) hg4 hlt
          obtain ⟨A2, c2, rfl, hSL2⟩ := SL_own hown2 (by unfold maxLen; omega)
          have HSL2 := hide hSL2
          have HO4 := hide hO4
          have hz4 := hgg4.size
          clear hown2 hSL2 hO4
          go_wp2_with (first
            | (at_builtin; refine wpList_append_parts rfl (.tmp 66) (.tmp 71) rfl w.heap.size w4.heap.size (.slice A e.length c) e.length e rfl (unhide HO4) A2 e2.length c2 e2 rfl (unhide HSL2).2.2.2 (unhide HSL2).1 ?_ ?_ ?_; go_must (omega); go_must (exact hz4); (intro v5 w5 hown5 hgrow5; have HO5 := hide hown5; have hR5 := hR4.own hgrow5 (fun k hk => Nat.lt_of_lt_of_le hlt (own_block (unhide HO4) k hk)); have hgg5 := grown_own hgg4 hgrow5 (own_block (unhide HO4)); clear hown5))
            | (at_builtin; refine wpList_append_parts rfl (.tmp 73) (.tmp 76) rfl w.heap.size (w5.heap.size + 1) v5 (e.length + e2.length) (e ++ e2) rfl ((unhide HO5).alloc _) (some ⟨w5.heap.size, 0, none⟩) 1 1 [(kv, 0)] rfl (fun h => nomatch h) (PS.one _ _ _ _ _ (Nat.lt_succ_self _)) ?_ ?_ ?_; go_must (omega); go_must (exact le_alloc' hgg5.size); (intro v6 w6 hown6 hgrow6)))
          go_ret
          obtain ⟨r1, r2⟩ := make_end hlt (unhide HO5) hR5 hgg5 hgrow6
          exact ⟨e ++ e2 ++ [(kv, 0)], v6, q2, rfl, by simp <;> omega, by simp [mkLen]; omega, own_len_eq (by simp <;> omega) hown6, by omega, by simp only [mkQ]; omega, r1, r2⟩
      all_goals
        have HO := hide hO
        clear hO
        go_wp2_with (at_builtin; refine wpList_append_parts rfl (.tmp 73) (.tmp 76) rfl w.heap.size (w2.heap.size + 1) v e.length e rfl ((unhide HO).alloc _) (some ⟨w2.heap.size, 0, none⟩) 1 1 [(_, 0)] rfl (fun h => nomatch h) (PS.one _ _ _ _ _ (Nat.lt_succ_self _)) ?_ ?_ ?_; go_must (omega); go_must (exact le_alloc' hgg.size); (intro v5 w5 hown5 hgrow5))
        go_ret
        obtain ⟨r1, r2⟩ := make_end hlt (unhide HO) hR2 hgg hgrow5
        exact ⟨e ++ [(_, 0)], v5, q, rfl, by simp, by simp [mkLen]; omega, own_len_eq (by simp) hown5, by omega, by simp only [mkQ]; omega, r1, r2⟩
end Go.Proofs.Ytgcggmlekmjpdaa
