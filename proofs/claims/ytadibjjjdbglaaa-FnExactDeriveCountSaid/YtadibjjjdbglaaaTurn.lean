/-
  Turned expressions: the walks.
-/
import Derived.Test.YtadibjjjdbglaaaOper2
import Derived.LoopN
import Derived.Deep.AppendLies
import Derived.BigRegion
namespace Go.Proofs.Ytadibjjjdbglaaa
open Go.RowKit
set_option linter.unusedVariables false
set_option maxRecDepth 100000

/-- 'append(v, x...)' on an own row of parts, as a step of a region that draws its order. -/
theorem step_append_parts {w : World} {ops : Array Oper} {o : Oper} {a : Act} {K : Act → World → Prop} {Q : Exit → Act → World → Prop} {E : Prop} (hgd : o.guard = none) (s x : Operand)
    (ho : o.op = .call { callee := .builtin .append, args := #[s, x], argTypes := #[23, 23] })
    (base B : Nat) (v : Value) (n : Nat) (e1 : List Pt) (hs : a.eval s = v) (hown : w.ownsRow base 45 2 v n (flatV e1))
    (b off m c : Nat) (e2 : List Pt) (hx : a.eval x = .slice (some ⟨b, off, none⟩) m c) (hp : PS w B (some ⟨b, off, none⟩) m e2)
    (hm0 : 0 < m) (hm : n + m ≤ 1000000000) (hbase : base ≤ w.heap.size)
    (h : ∀ v' w', w'.ownsRow base 45 2 v' (n + m) (flatV (e1 ++ e2)) → w.grownBy w' v.ownBlock → K (a.put o.dst v') w') :
    if Region.wanted o (yielded ops a.tmps) = true then Oper.wp Try.prog o a w K Q else E := by
  obtain ⟨i0, hi0, hz0, hz1, hz2⟩ := info_parts part_info
  refine step_append_lies w hgd s x 23 ho base 45 i0 (part 0 0) 2 16 Try.underlying23 hi0 hz0 hz1 hz2 rfl (by decide) v n (flatV e1) hs hown ⟨b, off, none⟩ m c (flatV e2) hx (by rw [flatV_length, hp.1]) hp.news (flatV_one e2) hm0 (by unfold maxLen; omega) (by omega) hbase _ rfl ?_
  intro g cap w' h1 h2 _ _
  exact h _ _ (by rw [flatV_append]; exact h1) h2
theorem le_alloc {a : Nat} {w : World} {o : Obj} (h : a ≤ w.heap.size) : a ≤ (w.alloc o).heap.size := by simp; omega
theorem lt_alloc (w : World) (o : Obj) : w.heap.size < (w.alloc o).heap.size := by simp
theorem le_allocd (w : World) (o : Obj) : w.heap.size ≤ (w.alloc o).drew.heap.size := by show w.heap.size ≤ (w.alloc o).heap.size; simp
theorem small3 {m : Nat} (h : m ≤ 1000 := by omega) : m ≤ 1000 := h
theorem small4 : 500000000 + 1 ≤ 1000000000 := by omega
theorem own_base {w : World} {base base' n size : Nat} {t : TypeId} {v : Value} {xs : List Value} (h : w.ownsRow base t size v n xs) (hb : base' ≤ base) : w.ownsRow base' t size v n xs := by
  refine ⟨h.1, ?_⟩
  rcases h.2 with h2 | ⟨g, cap, cur, e1, e2, e4⟩
  · exact .inl h2
  · exact .inr ⟨g, cap, cur, e1, by omega, e4⟩
/-- Two ways to one end: a row is made and a part laid, in either order; the part is put behind the row. -/
theorem fin_row {w W0 w2 w' : World} {x : List Pt} {p : Pt} {v v' : Value} {o : Obj} {n : Nat} (hb : Below w.heap.size w W0) (h1 : w2.ownsRow W0.heap.size 45 2 v n (flatV x)) (hb2 : Below W0.heap.size W0 w2)
    (h3 : w'.ownsRow W0.heap.size 45 2 v' (n + 1) (flatV (x ++ [p]))) (hg : (w2.alloc o).grownBy w' v.ownBlock) : OwnD w (x ++ [p]) (.returned v') w' := by
  refine ⟨v', rfl, ?_, (((hb.trans (hb2.mono hb.size)).alloc (by have := hb.size; have := hb2.size; omega) o).grown hg (by have := hb.size; have := hb2.size; simp; omega) (fun k hk => by have := own_block h1 k hk; have := hb.size; omega))⟩
  have := own_base h3 hb.size
  rw [← own_len h3] at this
  exact this
theorem fin_part {w W0 w2 w' : World} {x : List Pt} {p : Pt} {v v' : Value} {o : Obj} {n : Nat} (hb : Below w.heap.size w W0) (h1 : w2.ownsRow (W0.alloc o).drew.heap.size 45 2 v n (flatV x)) (hb2 : Below (W0.alloc o).drew.heap.size (W0.alloc o).drew w2)
    (h3 : w'.ownsRow (W0.alloc o).drew.heap.size 45 2 v' (n + 1) (flatV (x ++ [p]))) (hg : w2.grownBy w' v.ownBlock) : OwnD w (x ++ [p]) (.returned v') w' := by
  have hz : W0.heap.size ≤ (W0.alloc o).drew.heap.size := le_allocd W0 o
  have hz1 := hb.size
  have hz2 := hb2.size
  refine ⟨v', rfl, ?_, (((hb.alloc hz1 o).drew).trans (hb2.mono (by omega))).grown hg (by omega) (fun k hk => by have := own_block h1 k hk; omega)⟩
  have := own_base (base' := w.heap.size) h3 (by omega)
  rw [← own_len h3] at this
  exact this
/-- A row of two slices, seen from later worlds. -/
theorem RowS.two {W : World} {g : Nat} {A1 A2 : Option Addr} {N1 N2 c1 c2 : Nat} {e1 e2 : List Pt} {t : TypeId} {fr : Nat × Nat} (hrow : W.heap[g]? = some (.cells #[.slice A1 N1 c1, .slice A2 N2 c2] t fr)) (h1 : SL W W.heap.size A1 N1 c1 e1) (h2 : SL W W.heap.size A2 N2 c2 e2) :
    ∀ W', Below W.heap.size W W' → RowS W' W'.heap.size (some ⟨g, 0, none⟩) 2 [(A1, N1, c1, e1), (A2, N2, c2, e2)] := fun W' hW' =>
  ⟨rfl, fun _ => ⟨g, 0, rfl, by have := hW'.size; have := (Array.getElem?_eq_some_iff.1 hrow).1; omega, fun i A n c e hi => by
    have hlt := (List.getElem?_eq_some_iff.1 hi).1
    have hr := (hW'.block g (Array.getElem?_eq_some_iff.1 hrow).1).trans hrow
    have : i = 0 ∨ i = 1 := by simp at hlt; omega
    rcases this with rfl | rfl
    · simp only [List.getElem?_cons_zero, Option.some.injEq, Prod.mk.injEq] at hi
      obtain ⟨rfl, rfl, rfl, rfl⟩ := hi
      exact ⟨by rw [cell_of_row W' _ _ _ _ _ hr]; rfl, h1.up hW'⟩
    · simp only [List.getElem?_cons_succ, List.getElem?_cons_zero, Option.some.injEq, Prod.mk.injEq] at hi
      obtain ⟨rfl, rfl, rfl, rfl⟩ := hi
      exact ⟨by rw [cell_of_row W' _ _ _ _ _ hr]; rfl, h2.up hW'⟩⟩⟩
set_option maxHeartbeats 8000000 in
theorem turnedExpr_any (t : Ex) : ∀ (w : World) (A : Option Addr) (n c : Nat) (hg : t.good) (h : PS w w.heap.size A n t.flat) (hn : n ≤ 60) (hc : n ≤ c) (hcm : c ≤ maxLen),
    Calls Try.prog 74 #[.slice A n c] w (OwnD w t.turn.flat) := by
  induction t with
  | leaf kd l =>
    intro w A n c hg h hn hc hcm
    obtain ⟨b, off, m, rfl, hbB, hnm, hm, hk, hl⟩ := h.last
    simp only [Ex.kind, Ex.lett] at hk hl
    have hops := operands_any w _ n c _ hg h hn hc hcm
    have n1 : 1 ≤ n := by omega
    have HNM := Lib.hid hnm
    have hkd : ¬ kd = 4 := by rcases hg with ⟨h | h, _⟩ | ⟨h, _⟩ <;> omega
    have hkd4 : (kd == 4) = false := by simpa using hkd
    clear hkd
    clear h hnm
    go_enter Try.func74, Try.ntmps74
    go_wp2_with fail
    refine hops.mono ?_
    rintro r W ⟨rfl, hbW⟩
    have HK := hide hk
    have HL := hide hl
    clear hk hl hops
    go_wp2
    refine wp_loop_rounds 1 ?_
    rw [rounds_succ]
    go_wp2
    have RS : ∀ W', Below W.heap.size W W' → RowS W' W'.heap.size none 0 [] := fun _ _ => RowS.nil
    have HCL : (cats []).length ≤ 500000000 := by simp [cats]
    have hb1 : Below w.heap.size w W.drew := hbW.drew
    have hS : ∀ W, Below w.heap.size w W → W.cell? ⟨b, off + m * 2, none⟩ = some (.int .i64 kd) ∧ W.cell? ⟨b, off + m * 2 + 1, none⟩ = some (.int .i64 l) := fun W hW => ⟨(hW.cell (p := ⟨b, off + m * 2, none⟩) hbB).trans (unhide HK), (hW.cell (p := ⟨b, off + m * 2 + 1, none⟩) hbB).trans (unhide HL)⟩
    have P2 : ∀ w2, Below (W.alloc (pbox kd l)).drew.heap.size (W.alloc (pbox kd l)).drew w2 → PS w2 w2.heap.size (some ⟨W.heap.size, 0, none⟩) 1 [(kd, l)] := fun w2 h => PS.up (w := (W.alloc (pbox kd l)).drew) (PS.one W _ _ _ _ (lt_alloc _ _)) h
    have BD1 : Below W.heap.size W W.drew := (Below.refl _ _).drew
    have BD2 : Below W.heap.size W (W.alloc (pbox kd l)).drew := ((Below.refl _ _).alloc (Nat.le_refl _) _).drew
    obtain ⟨hW0, hW1⟩ := hS W hbW
    have jw : IntKind.i64.wrap (m : Int) = (m : Int) := IntWalk.i64_in _ (by omega)
    have hm0 : (0 : Int) ≤ (m : Int) := by omega
    have hm1 : (m : Int) < (n : Int) := by omega
    have hbw : b < W.heap.size := by have := hbW.size; omega
    go_region_held3 (fun w' => w'.cell? ⟨b, off + m * 2, none⟩ = some (.int .i64 kd) ∧ w'.cell? ⟨b, off + m * 2 + 1, none⟩ = some (.int .i64 l))
      (first
        | (refine hS _ ?_; exact hb1)
        | (refine hS _ ?_; exact (hbW.alloc hbW.size _).drew)
        | (refine hS _ ?_; exact hb1.trans (hb2.mono hb1.size))
        | (refine hS _ ?_; exact ((hbW.alloc hbW.size _).drew).trans (hb2.mono (Nat.le_trans hbW.size (le_allocd _ _))))
        | (refine hS _ ?_; exact (hb1.trans (hb2.mono hb1.size)).alloc (Nat.le_trans hb1.size hb2.size) _)
        | (refine hS _ ?_; exact ((hb1.trans (hb2.mono hb1.size)).alloc (Nat.le_trans hb1.size hb2.size) _).grown hgrow (le_alloc (Nat.le_trans hb1.size hb2.size)) (fun k hk => Nat.le_trans hb1.size (own_block hown k hk)))
        | (refine hS _ ?_; exact (((hbW.alloc hbW.size _).drew).trans (hb2.mono (Nat.le_trans hbW.size (le_allocd _ _)))).grown hgrow (Nat.le_trans (Nat.le_trans hbW.size (le_allocd _ _)) hb2.size) (fun k hk => Nat.le_trans (Nat.le_trans hbW.size (le_allocd _ _)) (own_block hown k hk))))
      (first
        | (go_at_call 100; refine (concat_any _ none 0 0 [] (RS _ BD1) (by omega) HCL).mono ?_; rintro r w2 ⟨v, rfl, hown, hb2⟩)
        | (go_at_call 100; refine (concat_any _ none 0 0 [] (RS _ BD2) (by omega) HCL).mono ?_; rintro r w2 ⟨v, rfl, hown, hb2⟩)
        | (refine step_append_parts rfl (.tmp 42) (.tmp 49) rfl W.heap.size (w2.heap.size + 1) v (cats []).length (cats []) rfl (hown.alloc _) w2.heap.size 0 1 1 [(kd, l)] rfl ?_ ?_ ?_ ?_ ?_; exact PS.one _ _ _ _ _ (Nat.lt_succ_self _); exact Nat.one_pos; exact Nat.le_trans (Nat.succ_le_succ HCL) small4; exact le_alloc hb2.size; intro v' w' hown' hgrow)
        | (refine step_append_parts rfl (.tmp 42) (.tmp 49) rfl (W.alloc (pbox kd l)).drew.heap.size w2.heap.size v (cats []).length (cats []) rfl hown W.heap.size 0 1 1 [(kd, l)] rfl ?_ ?_ ?_ ?_ ?_; exact P2 _ hb2; exact Nat.one_pos; exact Nat.le_trans (Nat.succ_le_succ HCL) small4; exact hb2.size; intro v' w' hown' hgrow))
    all_goals
      go_wp2
      go_ret
    · have := fin_row (p := (kd, l)) hb1 hown hb2 hown' hgrow
      simpa [Ex.turn, Ex.flat, cats] using this
    · have := fin_part (p := (kd, l)) hbW hown hb2 hown' hgrow
      simpa [Ex.turn, Ex.flat, cats] using this
  | un kd a ih =>
    intro w A n c hg h hn hc hcm
    obtain ⟨b, off, m, rfl, hbB, hnm, hm, hk, hl⟩ := h.last
    obtain ⟨l, hl0⟩ : ∃ l, (Ex.un kd a).lett = l := ⟨_, rfl⟩
    rw [hl0] at hl
    have hl1 : l = 0 := hl0.symm
    have HL0 := Lib.hid hl1
    clear hl0 hl1
    simp only [Ex.kind] at hk
    have hops := operands_any w _ n c _ hg h hn hc hcm
    have n1 : 1 ≤ n := by omega
    have HNM := Lib.hid hnm
    have HPA := hide (PS.un h)
    have hla := h.len
    simp only [Ex.sz] at hla
    have a1 : a.sz ≤ 60 := by omega
    have a2 : a.sz ≤ c := by omega
    have hkd : ¬ kd = 4 := by have := hg.1; omega
    have hkd4 : (kd == 4) = false := by simpa using hkd
    clear hkd hla
    clear h hnm
    go_enter Try.func74, Try.ntmps74
    go_wp2_with fail
    refine hops.mono ?_
    rintro r w1 ⟨g, rfl, hgw, hcell, hb⟩
    have HK := hide hk
    have HL := hide hl
    have hcr : w1.cell? ⟨g, 0, none⟩ = some (.slice (some ⟨b, off, none⟩) a.sz c) := by rw [cell_of_row w1 _ 0 _ _ _ hcell]; rfl
    clear hk hl hops
    go_wp2
    refine wp_loop_rounds 2 ?_
    rw [rounds_succ]
    go_wp2_with fail
    have HC := Lib.hid hcell
    clear hcell
    refine (ih _ _ _ _ hg.2 ((unhide HPA).up hb) a1 a2 hcm).mono ?_
    intro r w2 hd
    have hal : a.turn.flat.length ≤ 1000 := by rw [Ex.flat_length, Ex.turn_sz]; omega
    obtain ⟨A1, c1, rfl, -, hown, hb2⟩ := hd.sl (by omega)
    have HAL := Lib.hid hal
    clear hal hd
    obtain ⟨N1, hN1⟩ : ∃ N1, a.turn.flat.length = N1 := ⟨_, rfl⟩
    have HN1 := Lib.hid hN1
    rw [hN1] at hown ⊢
    clear hN1
    have hbb := hb.trans (hb2.mono hb.size)
    have hg1 : g < w1.heap.size := (Array.getElem?_eq_some_iff.1 HC.out).1
    have hcell2 := (hb2.block g hg1).trans HC.out
    have hc20 : w2.cell? ⟨g, 0, none⟩ = some (.slice (some ⟨b, off, none⟩) a.sz c) := by rw [cell_of_row w2 _ 0 _ _ _ hcell2]; rfl
    have hf20 : w2.frozen? ⟨g, 0, none⟩ = false := by simp [World.frozen?, hcell2]
    have HO := hide hown
    have HC2 := Lib.hid hcell2
    clear hcell2 hown hcr
    go_wp2
    rw [rounds_succ]
    go_wp2
    have hgb := hb2.size
    have hrow := hide (heap_set HC2.out 0 (.slice A1 N1 c1))
    have hbW0 := hbb.setCell (p := ⟨g, 0, none⟩) hgw (.slice A1 N1 c1)
    have hownW := ownsRow_setCell_other (a := ⟨g, 0, none⟩) (unhide HO) (by intro h; have := own_block (unhide HO) g h; omega) (.slice A1 N1 c1)
    generalize hWe : w2.setCell ⟨g, 0, none⟩ (.slice A1 N1 c1) = W at hrow hbW0 hownW ⊢
    clear hWe
    have hbW := hbW0
    obtain ⟨A1', c1', hvv, hSL⟩ := SL_own hownW (by have := HAL.out; have := HN1.out; unfold maxLen; omega)
    injection hvv with q1 q2 q3
    subst q1; subst q3
    obtain rfl := HN1.out
    have RS : ∀ W', Below W.heap.size W W' → RowS W' W'.heap.size (some ⟨g, 0, none⟩) 1 [(A1, a.turn.flat.length, c1, a.turn.flat)] := fun W' hW' =>
      ⟨rfl, fun _ => ⟨g, 0, rfl, by have := hW'.size; have := (Array.getElem?_eq_some_iff.1 (unhide hrow)).1; omega, fun i A n c e hi => by
        have hlt := (List.getElem?_eq_some_iff.1 hi).1
        have : i = 0 := by simp at hlt; exact hlt
        subst this
        simp only [List.getElem?_cons_zero, Option.some.injEq, Prod.mk.injEq] at hi
        obtain ⟨rfl, rfl, rfl, rfl⟩ := hi
        refine ⟨?_, hSL.up hW'⟩
        rw [cell_of_row W' _ _ _ _ _ ((hW'.block g (Array.getElem?_eq_some_iff.1 (unhide hrow)).1).trans (unhide hrow))]
        simp⟩⟩
    have HCL : (cats [(A1, a.turn.flat.length, c1, a.turn.flat)]).length ≤ 500000000 := by simp [cats, Ex.flat_length, Ex.turn_sz]; omega
    clear hownW hSL hbW0 hbb hgb hc20 hf20 hb2 hb
    have hb1 : Below w.heap.size w W.drew := hbW.drew
    have hS : ∀ W, Below w.heap.size w W → W.cell? ⟨b, off + m * 2, none⟩ = some (.int .i64 kd) ∧ W.cell? ⟨b, off + m * 2 + 1, none⟩ = some (.int .i64 l) := fun W hW => ⟨(hW.cell (p := ⟨b, off + m * 2, none⟩) hbB).trans (unhide HK), (hW.cell (p := ⟨b, off + m * 2 + 1, none⟩) hbB).trans (unhide HL)⟩
    have P2 : ∀ w2, Below (W.alloc (pbox kd l)).drew.heap.size (W.alloc (pbox kd l)).drew w2 → PS w2 w2.heap.size (some ⟨W.heap.size, 0, none⟩) 1 [(kd, l)] := fun w2 h => PS.up (w := (W.alloc (pbox kd l)).drew) (PS.one W _ _ _ _ (lt_alloc _ _)) h
    have BD1 : Below W.heap.size W W.drew := (Below.refl _ _).drew
    have BD2 : Below W.heap.size W (W.alloc (pbox kd l)).drew := ((Below.refl _ _).alloc (Nat.le_refl _) _).drew
    obtain ⟨hW0, hW1⟩ := hS W hbW
    have jw : IntKind.i64.wrap (m : Int) = (m : Int) := IntWalk.i64_in _ (by omega)
    have hm0 : (0 : Int) ≤ (m : Int) := by omega
    have hm1 : (m : Int) < (n : Int) := by omega
    have hbw : b < W.heap.size := by have := hbW.size; omega
    go_region_held3 (fun w' => w'.cell? ⟨b, off + m * 2, none⟩ = some (.int .i64 kd) ∧ w'.cell? ⟨b, off + m * 2 + 1, none⟩ = some (.int .i64 l))
      (first
        | (refine hS _ ?_; exact hb1)
        | (refine hS _ ?_; exact (hbW.alloc hbW.size _).drew)
        | (refine hS _ ?_; exact hb1.trans (hb2.mono hb1.size))
        | (refine hS _ ?_; exact ((hbW.alloc hbW.size _).drew).trans (hb2.mono (Nat.le_trans hbW.size (le_allocd _ _))))
        | (refine hS _ ?_; exact (hb1.trans (hb2.mono hb1.size)).alloc (Nat.le_trans hb1.size hb2.size) _)
        | (refine hS _ ?_; exact ((hb1.trans (hb2.mono hb1.size)).alloc (Nat.le_trans hb1.size hb2.size) _).grown hgrow (le_alloc (Nat.le_trans hb1.size hb2.size)) (fun k hk => Nat.le_trans hb1.size (own_block hown k hk)))
        | (refine hS _ ?_; exact (((hbW.alloc hbW.size _).drew).trans (hb2.mono (Nat.le_trans hbW.size (le_allocd _ _)))).grown hgrow (Nat.le_trans (Nat.le_trans hbW.size (le_allocd _ _)) hb2.size) (fun k hk => Nat.le_trans (Nat.le_trans hbW.size (le_allocd _ _)) (own_block hown k hk))))
      (first
        | (go_at_call 100; refine (concat_any _ (some ⟨g, 0, none⟩) 1 1 [(A1, a.turn.flat.length, c1, a.turn.flat)] (RS _ BD1) (by omega) HCL).mono ?_; rintro r w2 ⟨v, rfl, hown, hb2⟩)
        | (go_at_call 100; refine (concat_any _ (some ⟨g, 0, none⟩) 1 1 [(A1, a.turn.flat.length, c1, a.turn.flat)] (RS _ BD2) (by omega) HCL).mono ?_; rintro r w2 ⟨v, rfl, hown, hb2⟩)
        | (refine step_append_parts rfl (.tmp 42) (.tmp 49) rfl W.heap.size (w2.heap.size + 1) v (cats [(A1, a.turn.flat.length, c1, a.turn.flat)]).length (cats [(A1, a.turn.flat.length, c1, a.turn.flat)]) rfl (hown.alloc _) w2.heap.size 0 1 1 [(kd, l)] rfl ?_ ?_ ?_ ?_ ?_; exact PS.one _ _ _ _ _ (Nat.lt_succ_self _); exact Nat.one_pos; exact Nat.le_trans (Nat.succ_le_succ HCL) small4; exact le_alloc hb2.size; intro v' w' hown' hgrow)
        | (refine step_append_parts rfl (.tmp 42) (.tmp 49) rfl (W.alloc (pbox kd l)).drew.heap.size w2.heap.size v (cats [(A1, a.turn.flat.length, c1, a.turn.flat)]).length (cats [(A1, a.turn.flat.length, c1, a.turn.flat)]) rfl hown W.heap.size 0 1 1 [(kd, l)] rfl ?_ ?_ ?_ ?_ ?_; exact P2 _ hb2; exact Nat.one_pos; exact Nat.le_trans (Nat.succ_le_succ HCL) small4; exact hb2.size; intro v' w' hown' hgrow))
    all_goals
      go_wp2
      go_ret
    · have := fin_row (p := (kd, l)) hb1 hown hb2 hown' hgrow
      rw [HL0.out] at this; simpa [Ex.turn, Ex.flat, cats] using this
    · have := fin_part (p := (kd, l)) hbW hown hb2 hown' hgrow
      rw [HL0.out] at this; simpa [Ex.turn, Ex.flat, cats] using this
  | bin kd x y ihx ihy =>
    intro w A n c hg h hn hc hcm
    obtain ⟨b, off, m, rfl, hbB, hnm, hm, hk, hl⟩ := h.last
    obtain ⟨l, hl0⟩ : ∃ l, (Ex.bin kd x y).lett = l := ⟨_, rfl⟩
    rw [hl0] at hl
    have hl1 : l = 0 := hl0.symm
    have HL0 := Lib.hid hl1
    clear hl0 hl1
    simp only [Ex.kind] at hk
    have hops := operands_any w _ n c _ hg h hn hc hcm
    have n1 : 1 ≤ n := by omega
    have HNM := Lib.hid hnm
    have HPA := hide (PS.bin h)
    have hla := h.len
    simp only [Ex.sz] at hla
    have a1 : x.sz ≤ 60 := by omega
    have a2 : x.sz ≤ c := by omega
    have a3 : y.sz ≤ 60 := by omega
    have a4 : y.sz ≤ c - x.sz := by omega
    have a5 : c - x.sz ≤ maxLen := by omega
    clear hla
    clear h hnm
    have hkk : (kd = 4 ∧ (kd == 4) = true) ∨ (¬ kd = 4 ∧ (kd == 4) = false) := by by_cases h : kd = 4 <;> simp [h]
    have HKK := hide hkk
    clear hkk
    go_enter Try.func74, Try.ntmps74
    go_wp2_with fail
    refine hops.mono ?_
    rintro r w1 ⟨g, b', o', hA, rfl, hgw, hcell, hb⟩
    injection hA with hA
    injection hA with hA1 hA2
    subst hA1; subst hA2
    have HK := hide hk
    have HL := hide hl
    have hcr : w1.cell? ⟨g, 0, none⟩ = some (.slice (some ⟨b, off, none⟩) x.sz c) := by rw [cell_of_row w1 _ 0 _ _ _ hcell]; rfl
    clear hk hl hops
    have HC := Lib.hid hcell
    clear hcell
    go_wp2
    refine wp_loop_rounds 3 ?_
    rw [rounds_succ]
    go_wp2_with fail
    refine (ihx _ _ _ _ hg.2.1 ((unhide HPA).1.up hb) a1 a2 hcm).mono ?_
    intro r w2 hd
    have hal : x.turn.flat.length ≤ 1000 := by rw [Ex.flat_length, Ex.turn_sz]; omega
    obtain ⟨A1, c1, rfl, -, hown, hb2⟩ := hd.sl (by omega)
    have HAL := Lib.hid hal
    clear hal hd
    obtain ⟨N1, hN1⟩ : ∃ N1, x.turn.flat.length = N1 := ⟨_, rfl⟩
    have HN1 := Lib.hid hN1
    rw [hN1] at hown ⊢
    clear hN1
    have hbb := hb.trans (hb2.mono hb.size)
    have hg1 : g < w1.heap.size := (Array.getElem?_eq_some_iff.1 HC.out).1
    have hcell2 := (hb2.block g hg1).trans HC.out
    have hc20 : w2.cell? ⟨g, 0, none⟩ = some (.slice (some ⟨b, off, none⟩) x.sz c) := by rw [cell_of_row w2 _ 0 _ _ _ hcell2]; rfl
    have hc21 : w2.cell? ⟨g, 1, none⟩ = some (.slice (some ⟨b, off + x.sz * 2, none⟩) y.sz (c - x.sz)) := by rw [cell_of_row w2 _ 1 _ _ _ hcell2]; rfl
    have hf20 : w2.frozen? ⟨g, 0, none⟩ = false := by simp [World.frozen?, hcell2]
    have HO := hide hown
    have HC2 := Lib.hid hcell2
    clear hcell2 hown hcr
    have hg2 : g < w2.heap.size := (Array.getElem?_eq_some_iff.1 HC2.out).1
    go_wp2
    rw [rounds_succ]
    go_wp2_with fail
    have hrow := hide (heap_set HC2.out 0 (.slice A1 N1 c1))
    have hbW0 := hbb.setCell (p := ⟨g, 0, none⟩) hgw (.slice A1 N1 c1)
    have hownW := ownsRow_setCell_other (a := ⟨g, 0, none⟩) (unhide HO) (by intro h; have := own_block (unhide HO) g h; omega) (.slice A1 N1 c1)
    have hsz2 : (w2.setCell ⟨g, 0, none⟩ (.slice A1 N1 c1)).heap.size = w2.heap.size := size_set _ _ _
    have HSZ2 := Lib.hid hsz2
    clear hsz2
    generalize hWe : w2.setCell ⟨g, 0, none⟩ (.slice A1 N1 c1) = W2 at *
    clear hWe hc20 hc21 hf20
    have HOW := hide hownW
    clear hownW
    refine (ihy _ _ _ _ hg.2.2 ((unhide HPA).2.up hbW0) a3 a4 a5).mono ?_
    intro r w4 hd
    have hal : y.turn.flat.length ≤ 1000 := by rw [Ex.flat_length, Ex.turn_sz]; omega
    obtain ⟨A2, c2, rfl, -, hown4, hb4⟩ := hd.sl (by omega)
    have HAL2 := Lib.hid hal
    clear hal hd
    obtain ⟨N2, hN2⟩ : ∃ N2, y.turn.flat.length = N2 := ⟨_, rfl⟩
    have HN2 := Lib.hid hN2
    rw [hN2] at hown4 ⊢
    clear hN2
    have hbb4 := hbW0.trans (hb4.mono hbW0.size)
    have hgW2 : g < W2.heap.size := (Array.getElem?_eq_some_iff.1 (unhide hrow)).1
    have hcell4 : w4.heap[g]? = some (.cells #[.slice A1 N1 c1, .slice (some ⟨b, off + x.sz * 2, none⟩) y.sz (c - x.sz)] 23 (0, 0)) := (hb4.block g hgW2).trans (by rw [unhide hrow]; rfl)
    have hc40 : w4.cell? ⟨g, 0, none⟩ = some (.slice A1 N1 c1) := by rw [cell_of_row w4 _ 0 _ _ _ hcell4]; rfl
    have hc41 : w4.cell? ⟨g, 1, none⟩ = some (.slice (some ⟨b, off + x.sz * 2, none⟩) y.sz (c - x.sz)) := by rw [cell_of_row w4 _ 1 _ _ _ hcell4]; rfl
    have hf40 : w4.frozen? ⟨g, 0, none⟩ = false := by simp [World.frozen?, hcell4]
    have hf41 : w4.frozen? ⟨g, 1, none⟩ = false := by simp [World.frozen?, hcell4]
    have HC4 := Lib.hid hcell4
    have HO4 := hide hown4
    have HO41 := hide (own_keep (unhide HOW) hb4)
    have hg4 : g < w4.heap.size := (Array.getElem?_eq_some_iff.1 hcell4).1
    clear hcell4 hown4
    -- the two rows, in whatever world only block g has changed since
    have hot1 : (Value.slice A1 N1 c1).ownBlock ≠ some g := by intro h; have := own_block (unhide HO41) g h; omega
    have hot2 : (Value.slice A2 N2 c2).ownBlock ≠ some g := by intro h; have := own_block (unhide HO4) g h; omega
    have HT1 := Lib.hid hot1
    have HT2 := Lib.hid hot2
    clear hot1 hot2
    have toSL1 : ∀ W, W.ownsRow w1.heap.size 45 2 (.slice A1 N1 c1) N1 (flatV x.turn.flat) → SL W W.heap.size A1 N1 c1 x.turn.flat := fun W h => by
      obtain ⟨A', c', hvv, hSL⟩ := SL_own h (by have := HAL.out; have := HN1.out; unfold maxLen; omega)
      injection hvv with q1 q2 q3
      subst q1; subst q3
      exact hSL
    have toSL2 : ∀ W, W.ownsRow W2.heap.size 45 2 (.slice A2 N2 c2) N2 (flatV y.turn.flat) → SL W W.heap.size A2 N2 c2 y.turn.flat := fun W h => by
      obtain ⟨A', c', hvv, hSL⟩ := SL_own h (by have := HAL2.out; have := HN2.out; unfold maxLen; omega)
      injection hvv with q1 q2 q3
      subst q1; subst q3
      exact hSL
    have T1 := hide toSL1
    have T2 := hide toSL2
    clear toSL1 toSL2
    go_wp2
    rw [rounds_succ]
    rcases unhide HKK with ⟨hk4, hkd4⟩ | ⟨hk4, hkd4⟩
    · have HK4 := Lib.hid hk4
      clear hk4
      go_wp2
      go_region
      go_wp2
      have e1 := heap_set (heap_set (heap_set HC4.out 1 (.slice A2 N2 c2)) 0 (.slice A2 N2 c2)) 1 (.slice A1 N1 c1)
      have hrow' : (World.setCell (World.setCell (World.setCell w4 ⟨g, 1, none⟩ (.slice A2 N2 c2)) ⟨g, 0, none⟩ (.slice A2 N2 c2)) ⟨g, 1, none⟩ (.slice A1 N1 c1)).drew.heap[g]? = some (.cells #[.slice A2 N2 c2, .slice A1 N1 c1] 23 (0, 0)) := e1.trans (by simp)
      have hbW := (((hbb4.setCell (p := ⟨g, 1, none⟩) hgw (.slice A2 N2 c2)).setCell (p := ⟨g, 0, none⟩) hgw (.slice A2 N2 c2)).setCell (p := ⟨g, 1, none⟩) hgw (.slice A1 N1 c1)).drew
      have h1 := (unhide T1) _ ((ownsRow_setCell_other (a := ⟨g, 1, none⟩) (ownsRow_setCell_other (a := ⟨g, 0, none⟩) (ownsRow_setCell_other (a := ⟨g, 1, none⟩) (unhide HO41) HT1.out (.slice A2 N2 c2)) HT1.out (.slice A2 N2 c2)) HT1.out (.slice A1 N1 c1)).drew)
      have h2 := (unhide T2) _ ((ownsRow_setCell_other (a := ⟨g, 1, none⟩) (ownsRow_setCell_other (a := ⟨g, 0, none⟩) (ownsRow_setCell_other (a := ⟨g, 1, none⟩) (unhide HO4) HT2.out (.slice A2 N2 c2)) HT2.out (.slice A2 N2 c2)) HT2.out (.slice A1 N1 c1)).drew)
      clear e1
      generalize hWe : World.drew _ = W at hrow' hbW h1 h2 ⊢
      clear hWe hc40 hc41 hf40 hf41
      have RS := RowS.two hrow' h2 h1
      have HCL : (cats [(A2, N2, c2, y.turn.flat), (A1, N1, c1, x.turn.flat)]).length ≤ 500000000 := by simp [cats, Ex.flat_length, Ex.turn_sz]; omega
      clear hrow' h1 h2
      have hb1 : Below w.heap.size w W.drew := hbW.drew
      have hS : ∀ W, Below w.heap.size w W → W.cell? ⟨b, off + m * 2, none⟩ = some (.int .i64 kd) ∧ W.cell? ⟨b, off + m * 2 + 1, none⟩ = some (.int .i64 l) := fun W hW => ⟨(hW.cell (p := ⟨b, off + m * 2, none⟩) hbB).trans (unhide HK), (hW.cell (p := ⟨b, off + m * 2 + 1, none⟩) hbB).trans (unhide HL)⟩
      have P2 : ∀ w2, Below (W.alloc (pbox kd l)).drew.heap.size (W.alloc (pbox kd l)).drew w2 → PS w2 w2.heap.size (some ⟨W.heap.size, 0, none⟩) 1 [(kd, l)] := fun w2 h => PS.up (w := (W.alloc (pbox kd l)).drew) (PS.one W _ _ _ _ (lt_alloc _ _)) h
      have BD1 : Below W.heap.size W W.drew := (Below.refl _ _).drew
      have BD2 : Below W.heap.size W (W.alloc (pbox kd l)).drew := ((Below.refl _ _).alloc (Nat.le_refl _) _).drew
      obtain ⟨hW0, hW1⟩ := hS W hbW
      have jw : IntKind.i64.wrap (m : Int) = (m : Int) := IntWalk.i64_in _ (by omega)
      have hm0 : (0 : Int) ≤ (m : Int) := by omega
      have hm1 : (m : Int) < (n : Int) := by omega
      have hbw : b < W.heap.size := by have := hbW.size; omega
      go_region_held3 (fun w' => w'.cell? ⟨b, off + m * 2, none⟩ = some (.int .i64 kd) ∧ w'.cell? ⟨b, off + m * 2 + 1, none⟩ = some (.int .i64 l))
        (first
        | (refine hS _ ?_; exact hb1)
        | (refine hS _ ?_; exact (hbW.alloc hbW.size _).drew)
        | (refine hS _ ?_; exact hb1.trans (hb2.mono hb1.size))
        | (refine hS _ ?_; exact ((hbW.alloc hbW.size _).drew).trans (hb2.mono (Nat.le_trans hbW.size (le_allocd _ _))))
        | (refine hS _ ?_; exact (hb1.trans (hb2.mono hb1.size)).alloc (Nat.le_trans hb1.size hb2.size) _)
        | (refine hS _ ?_; exact ((hb1.trans (hb2.mono hb1.size)).alloc (Nat.le_trans hb1.size hb2.size) _).grown hgrow (le_alloc (Nat.le_trans hb1.size hb2.size)) (fun k hk => Nat.le_trans hb1.size (own_block hown k hk)))
        | (refine hS _ ?_; exact (((hbW.alloc hbW.size _).drew).trans (hb2.mono (Nat.le_trans hbW.size (le_allocd _ _)))).grown hgrow (Nat.le_trans (Nat.le_trans hbW.size (le_allocd _ _)) hb2.size) (fun k hk => Nat.le_trans (Nat.le_trans hbW.size (le_allocd _ _)) (own_block hown k hk))))
        (first
          | (go_at_call 100; refine (concat_any _ (some ⟨g, 0, none⟩) 2 2 [(A2, N2, c2, y.turn.flat), (A1, N1, c1, x.turn.flat)] (RS _ BD1) (by omega) HCL).mono ?_; rintro r w2 ⟨v, rfl, hown, hb2⟩)
          | (go_at_call 100; refine (concat_any _ (some ⟨g, 0, none⟩) 2 2 [(A2, N2, c2, y.turn.flat), (A1, N1, c1, x.turn.flat)] (RS _ BD2) (by omega) HCL).mono ?_; rintro r w2 ⟨v, rfl, hown, hb2⟩)
          | (refine step_append_parts rfl (.tmp 42) (.tmp 49) rfl W.heap.size (w2.heap.size + 1) v (cats [(A2, N2, c2, y.turn.flat), (A1, N1, c1, x.turn.flat)]).length (cats [(A2, N2, c2, y.turn.flat), (A1, N1, c1, x.turn.flat)]) rfl (hown.alloc _) w2.heap.size 0 1 1 [(kd, l)] rfl ?_ ?_ ?_ ?_ ?_; exact PS.one _ _ _ _ _ (Nat.lt_succ_self _); exact Nat.one_pos; exact Nat.le_trans (Nat.succ_le_succ HCL) small4; exact le_alloc hb2.size; intro v' w' hown' hgrow)
          | (refine step_append_parts rfl (.tmp 42) (.tmp 49) rfl (W.alloc (pbox kd l)).drew.heap.size w2.heap.size v (cats [(A2, N2, c2, y.turn.flat), (A1, N1, c1, x.turn.flat)]).length (cats [(A2, N2, c2, y.turn.flat), (A1, N1, c1, x.turn.flat)]) rfl hown W.heap.size 0 1 1 [(kd, l)] rfl ?_ ?_ ?_ ?_ ?_; exact P2 _ hb2; exact Nat.one_pos; exact Nat.le_trans (Nat.succ_le_succ HCL) small4; exact hb2.size; intro v' w' hown' hgrow))
      all_goals
        go_wp2
        go_ret
      · have := fin_row (p := (kd, l)) hb1 hown hb2 hown' hgrow
        rw [HL0.out] at this; have h4 := HK4.out; subst h4; simpa [Ex.turn, Ex.flat, cats] using this
      · have := fin_part (p := (kd, l)) hbW hown hb2 hown' hgrow
        rw [HL0.out] at this; have h4 := HK4.out; subst h4; simpa [Ex.turn, Ex.flat, cats] using this
    · have HK4 := Lib.hid hk4
      clear hk4
      go_wp2
      have e1 := heap_set HC4.out 1 (.slice A2 N2 c2)
      have hrow' : (World.setCell w4 ⟨g, 1, none⟩ (.slice A2 N2 c2)).heap[g]? = some (.cells #[.slice A1 N1 c1, .slice A2 N2 c2] 23 (0, 0)) := e1.trans (by simp)
      have hbW := (hbb4.setCell (p := ⟨g, 1, none⟩) hgw (.slice A2 N2 c2))
      have h1 := (unhide T1) _ (ownsRow_setCell_other (a := ⟨g, 1, none⟩) (unhide HO41) HT1.out (.slice A2 N2 c2))
      have h2 := (unhide T2) _ (ownsRow_setCell_other (a := ⟨g, 1, none⟩) (unhide HO4) HT2.out (.slice A2 N2 c2))
      clear e1
      generalize hWe : World.setCell _ _ _ = W at hrow' hbW h1 h2 ⊢
      clear hWe hc40 hc41 hf40 hf41
      have RS := RowS.two hrow' h1 h2
      have HCL : (cats [(A1, N1, c1, x.turn.flat), (A2, N2, c2, y.turn.flat)]).length ≤ 500000000 := by simp [cats, Ex.flat_length, Ex.turn_sz]; omega
      clear hrow' h1 h2
      have hb1 : Below w.heap.size w W.drew := hbW.drew
      have hS : ∀ W, Below w.heap.size w W → W.cell? ⟨b, off + m * 2, none⟩ = some (.int .i64 kd) ∧ W.cell? ⟨b, off + m * 2 + 1, none⟩ = some (.int .i64 l) := fun W hW => ⟨(hW.cell (p := ⟨b, off + m * 2, none⟩) hbB).trans (unhide HK), (hW.cell (p := ⟨b, off + m * 2 + 1, none⟩) hbB).trans (unhide HL)⟩
      have P2 : ∀ w2, Below (W.alloc (pbox kd l)).drew.heap.size (W.alloc (pbox kd l)).drew w2 → PS w2 w2.heap.size (some ⟨W.heap.size, 0, none⟩) 1 [(kd, l)] := fun w2 h => PS.up (w := (W.alloc (pbox kd l)).drew) (PS.one W _ _ _ _ (lt_alloc _ _)) h
      have BD1 : Below W.heap.size W W.drew := (Below.refl _ _).drew
      have BD2 : Below W.heap.size W (W.alloc (pbox kd l)).drew := ((Below.refl _ _).alloc (Nat.le_refl _) _).drew
      obtain ⟨hW0, hW1⟩ := hS W hbW
      have jw : IntKind.i64.wrap (m : Int) = (m : Int) := IntWalk.i64_in _ (by omega)
      have hm0 : (0 : Int) ≤ (m : Int) := by omega
      have hm1 : (m : Int) < (n : Int) := by omega
      have hbw : b < W.heap.size := by have := hbW.size; omega
      go_region_held3 (fun w' => w'.cell? ⟨b, off + m * 2, none⟩ = some (.int .i64 kd) ∧ w'.cell? ⟨b, off + m * 2 + 1, none⟩ = some (.int .i64 l))
        (first
        | (refine hS _ ?_; exact hb1)
        | (refine hS _ ?_; exact (hbW.alloc hbW.size _).drew)
        | (refine hS _ ?_; exact hb1.trans (hb2.mono hb1.size))
        | (refine hS _ ?_; exact ((hbW.alloc hbW.size _).drew).trans (hb2.mono (Nat.le_trans hbW.size (le_allocd _ _))))
        | (refine hS _ ?_; exact (hb1.trans (hb2.mono hb1.size)).alloc (Nat.le_trans hb1.size hb2.size) _)
        | (refine hS _ ?_; exact ((hb1.trans (hb2.mono hb1.size)).alloc (Nat.le_trans hb1.size hb2.size) _).grown hgrow (le_alloc (Nat.le_trans hb1.size hb2.size)) (fun k hk => Nat.le_trans hb1.size (own_block hown k hk)))
        | (refine hS _ ?_; exact (((hbW.alloc hbW.size _).drew).trans (hb2.mono (Nat.le_trans hbW.size (le_allocd _ _)))).grown hgrow (Nat.le_trans (Nat.le_trans hbW.size (le_allocd _ _)) hb2.size) (fun k hk => Nat.le_trans (Nat.le_trans hbW.size (le_allocd _ _)) (own_block hown k hk))))
        (first
          | (go_at_call 100; refine (concat_any _ (some ⟨g, 0, none⟩) 2 2 [(A1, N1, c1, x.turn.flat), (A2, N2, c2, y.turn.flat)] (RS _ BD1) (by omega) HCL).mono ?_; rintro r w2 ⟨v, rfl, hown, hb2⟩)
          | (go_at_call 100; refine (concat_any _ (some ⟨g, 0, none⟩) 2 2 [(A1, N1, c1, x.turn.flat), (A2, N2, c2, y.turn.flat)] (RS _ BD2) (by omega) HCL).mono ?_; rintro r w2 ⟨v, rfl, hown, hb2⟩)
          | (refine step_append_parts rfl (.tmp 42) (.tmp 49) rfl W.heap.size (w2.heap.size + 1) v (cats [(A1, N1, c1, x.turn.flat), (A2, N2, c2, y.turn.flat)]).length (cats [(A1, N1, c1, x.turn.flat), (A2, N2, c2, y.turn.flat)]) rfl (hown.alloc _) w2.heap.size 0 1 1 [(kd, l)] rfl ?_ ?_ ?_ ?_ ?_; exact PS.one _ _ _ _ _ (Nat.lt_succ_self _); exact Nat.one_pos; exact Nat.le_trans (Nat.succ_le_succ HCL) small4; exact le_alloc hb2.size; intro v' w' hown' hgrow)
          | (refine step_append_parts rfl (.tmp 42) (.tmp 49) rfl (W.alloc (pbox kd l)).drew.heap.size w2.heap.size v (cats [(A1, N1, c1, x.turn.flat), (A2, N2, c2, y.turn.flat)]).length (cats [(A1, N1, c1, x.turn.flat), (A2, N2, c2, y.turn.flat)]) rfl hown W.heap.size 0 1 1 [(kd, l)] rfl ?_ ?_ ?_ ?_ ?_; exact P2 _ hb2; exact Nat.one_pos; exact Nat.le_trans (Nat.succ_le_succ HCL) small4; exact hb2.size; intro v' w' hown' hgrow))
      all_goals
        go_wp2
        go_ret
      · have := fin_row (p := (kd, l)) hb1 hown hb2 hown' hgrow
        rw [HL0.out] at this; simpa [Ex.turn, Ex.flat, cats, HK4.out] using this
      · have := fin_part (p := (kd, l)) hbW hown hb2 hown' hgrow
        rw [HL0.out] at this; simpa [Ex.turn, Ex.flat, cats, HK4.out] using this

end Go.Proofs.Ytadibjjjdbglaaa
