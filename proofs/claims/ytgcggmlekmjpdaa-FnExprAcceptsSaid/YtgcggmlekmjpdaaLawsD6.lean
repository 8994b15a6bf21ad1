/-
  The walk of the law on the languages of operations.
-/
import Derived.Test.YtgcggmlekmjpdaaNear
import Derived.Test.YtgcggmlekmjpdaaEacc
import Derived.Test.YtgcggmlekmjpdaaStepP
import Derived.Deep.CutRange
namespace Go.Proofs.Ytgcggmlekmjpdaa
open Go.RowKit
set_option linter.unusedVariables false
set_option maxRecDepth 100000

theorem box_in {w : World} {g : Nat} {o : Obj} (h : w.heap[g]? = some o) : g < w.heap.size := (Array.getElem?_eq_some_iff.1 h).1
theorem bel_alloc {a w : World} (o : Obj) (h : Below a.heap.size a w) : Below a.heap.size a (w.alloc o) := h.alloc h.size o
theorem own_emptyAt {X : World} {g base : Nat} {t : TypeId} (hg : X.heap.size = g) (hb : base ≤ g) : (X.alloc (.cells #[] t)).ownsRow base t 2 (.slice (some ⟨g, 0, none⟩) 0 0) 0 [] := by
  subst hg; exact own_empty X base t hb
theorem hp_new {Y : World} {g : Nat} {o : Obj} (hg : Y.heap.size = g) : (Y.alloc o).heap[g]? = some o := by subst hg; exact heap_alloc_new Y o
theorem hp_old {Y : World} {g : Nat} {o o' : Obj} (h : Y.heap[g]? = some o) : (Y.alloc o').heap[g]? = some o := (Below.heap_alloc Y o' g (box_in h)).trans h
theorem hp_drew {Y : World} {g : Nat} {o : Obj} (h : Y.heap[g]? = some o) : Y.drew.heap[g]? = some o := h
theorem own_ge {w : World} {base n size g : Nat} {t : TypeId} {v : Value} {xs : List Value} (h : w.ownsRow base t size v n xs) (hg : w.heap.size ≤ g) : v.ownBlock ≠ some g := by
  intro e; have := (h.lt _ e).2; omega
theorem PS_at {w : World} {g : Nat} {k l : Int} {t : TypeId} {fr : Nat × Nat} (h : w.heap[g]? = some (.cells #[.int .i64 k, .int .i64 l] t fr)) : PS w w.heap.size (some ⟨g, 0, none⟩) 1 [(k, l)] := by
  refine ⟨rfl, fun _ => ⟨_, _, rfl, box_in h, fun i k' l' hi => ?_⟩⟩
  have : i = 0 := by have := (List.getElem?_eq_some_iff.1 hi).1; simp at this; exact this
  subst this
  simp only [List.getElem?_cons_zero, Option.some.injEq] at hi
  injection hi with h1 h2
  subst h1; subst h2
  exact ⟨by rw [cell_of_row w _ _ _ _ _ h]; rfl, by rw [cell_of_row w _ _ _ _ _ h]; rfl⟩
theorem no_nil {g m c : Nat} : (some (⟨g, 0, none⟩ : Addr)) = none → m = 0 ∧ c = 0 := fun h => nomatch h
/-- 'append' as a step behind a world W: what stays. -/
theorem step_app {W w : World} {ops : Array Oper} {o : Oper} {a : Act} {K : Act → World → Prop} {Q : Exit → Act → World → Prop} {E : Prop} (hgd : o.guard = none) (s x : Operand)
    (ho : o.op = .call { callee := .builtin .append, args := #[s, x], argTypes := #[25, 25] })
    (hb : Below W.heap.size W w) (v : Value) (n : Nat) (e1 : List Pt) (hs : a.eval s = v) (hown : w.ownsRow W.heap.size 37 2 v n (flatV e1))
    (A : Option Addr) (m c : Nat) (e2 : List Pt) (hx : a.eval x = .slice A m c) (hA : A = none → m = 0 ∧ c = 0) (hp : PS w w.heap.size A m e2) (hm : n + m ≤ 1000000000)
    (h : ∀ v' w', w'.ownsRow W.heap.size 37 2 v' (n + m) (flatV (e1 ++ e2)) → Below W.heap.size W w' → (∀ g o', w.heap[g]? = some o' → v.ownBlock ≠ some g → w'.heap[g]? = some o' ∧ v'.ownBlock ≠ some g) → K (a.put o.dst v') w') :
    if Region.wanted o (yielded ops a.tmps) = true then Oper.wp Try.prog o a w K Q else E := by
  refine step_append_parts_at hgd s x ho W.heap.size w.heap.size v n e1 hs hown A m c e2 hx hA hp hm hb.size ?_
  intro v' w' h1 h2 h3
  refine h v' w' h1 (hb.grown h2 hb.size (own_block hown)) fun g o' hg hne => ⟨?_, ?_⟩
  · exact (h2.block g (box_in hg) (fun e => hne e.symm)).trans hg
  · rcases h3 with e | e
    · rw [e]; exact hne
    · rw [e]; intro e'; injection e' with e'; have := box_in hg; omega
/-- Parts that lie in a world behind W. -/
def AppR (W : World) (n : Nat) (x : List Pt) (v : Value) (wx : World) : Prop := ∃ A c, v = .slice A n c ∧ SL wx wx.heap.size A n c x ∧ Below W.heap.size W wx
theorem acc_a (s : List UInt8) : (Ex.leaf 3 0).acc s = decide (s = [97]) := by
  have h : (Ex.leaf 3 0).acc s = true ↔ s = [97] := by
    rw [Ex.acc_iff]
    simp only [Ex.L]
    constructor
    · rintro ⟨c, rfl, hc⟩
      have : c = 97 := dig_inj (hc.trans (by decide))
      rw [this]
    · rintro rfl
      exact ⟨97, rfl, by decide⟩
  by_cases hs : s = [97]
  · rw [h.2 hs, decide_eq_true hs]
  · rw [decide_eq_false hs, Bool.eq_false_iff]; exact fun e => hs (h.1 e)
theorem acc_ea (t : Ex) (s : List UInt8) : (Ex.bin 5 t (.leaf 3 0)).acc s = (t.acc s || decide (s = [97])) := by rw [← acc_a]; simp [Ex.acc, Ex.sp]
theorem acc_n7 (t : Ex) (s : List UInt8) : (Ex.un 7 t).acc s = !(t.acc s) := by simp [Ex.acc, Ex.sp]
theorem acc_s8 (t : Ex) (s : List UInt8) (h : t.acc s = true) : (Ex.un 8 t).acc s = true := by
  rw [Ex.acc_iff] at h ⊢
  have : (Ex.un 8 t).L s ↔ StarL t.L s := by simp [Ex.L]
  rw [this]
  exact starL_one h
theorem str_a (s : ByteArray) : (s.data.toList = [97]) ↔ s = ⟨#[97]⟩ := by
  constructor
  · intro h
    have h2 : s.data = #[97] := by rw [← Array.toList_inj, h]
    cases s; simp at h2; rw [h2]
  · rintro rfl; rfl
set_option maxHeartbeats 8000000 in
theorem wFnExprAccepts (A : Option Addr) (n c : Nat) (w : World) (hw : BytesIn w A n c) : Calls Try.prog 7 #[.slice A n c] w (Yes w) := by
  obtain ⟨hnc, hcm, hcode⟩ := hw
  unfold maxLen at hcm
  have HC := hide hcode
  clear hcode
  by_cases hn : 1048576 < n
  · go_enter Try.func7, Try.ntmps7
    go_wp2
    go_ret
    exact ⟨rfl, Below.refl _ _⟩
  go_enter Try.func7, Try.ntmps7
  go_wp2_with fail
  refine (dExprAccepts_any w n c A _ (unhide HC) (Nat.le_refl _) hnc (by omega)).mono ?_
  rintro r w1 ⟨e, A1, n1, c1, s, rfl, hl, hsl, hs9, hb1⟩
  have HLN := Lib.hid hsl.1.1
  have F_e := hide hsl
  clear hsl
  go_wp2_with fail
  refine (implExprAccepts_any _ _ _ _ _ s (unhide F_e).1 (by unfold maxLen; omega)).mono ?_
  rintro r w11 ⟨ok, rfl, hE_ok, hb11⟩
  have e_11 := hide ((unhide F_e).up hb11)
  have hbb11 := hb1.trans (hb11.mono hb1.size)
  go_wp2_with fail
  refine (specExprAccepts_any _ _ _ _ _ s (unhide e_11).1 (by omega) (by unfold maxLen; omega)).mono ?_
  rintro r w12 ⟨ok2, rfl, hE_ok2, hb12⟩
  have e_12 := hide ((unhide e_11).up hb12)
  have hbb12 := hbb11.trans (hb12.mono hbb11.size)
  obtain rfl : ok2 = ok := hE_ok2.uniq hE_ok
  have hne : (ok2 != ok2) = false := by simp
  go_wp2_with fail
  refine (specExprValid_any _ _ _ _ _ (unhide e_12).1 (by omega)).mono ?_
  rintro r w15 ⟨rfl, hb15⟩
  have e_15 := hide ((unhide e_12).up hb15)
  have hbb15 := hbb12.trans (hb15.mono hbb12.size)
  rcases hv : exprB e
  · go_wp2_with fail
    refine (alive_any _).mono ?_
    rintro r w99 ⟨rfl, rfl⟩
    go_wp2
    go_ret
    exact ⟨rfl, hbb15⟩
  obtain ⟨t, hg, hfe, hs60⟩ := exprB_iff.1 hv
  have hsz : t.sz ≤ 16 := by have h1 := HLN.out; rw [← hfe, Ex.flat_length] at h1; omega
  have hn16 : n1 ≤ 16 := by have h1 := HLN.out; rw [← hfe, Ex.flat_length] at h1; omega
  have TJ : Opq (t.flat = e) := ⟨hfe⟩
  clear hfe hs60 hv hne hl
  rcases hwd : wordB s.data.toList
  · go_wp2_with fail
    refine (specWordValid_any s _ (by unfold maxLen; omega)).mono ?_
    rintro r w16 ⟨rfl, rfl⟩
    rw [hwd]
    go_wp2_with fail
    refine (alive_any _).mono ?_
    rintro r w99 ⟨rfl, rfl⟩
    go_wp2
    go_ret
    exact ⟨rfl, hbb15⟩
  have HOK := Lib.hid (show ok2 = t.acc s.data.toList by have := eacc_tree TJ hg (by omega) hE_ok; rw [hwd, Bool.true_and] at this; exact this)
  clear hE_ok hE_ok2
  go_wp2_with fail
  refine (specWordValid_any s _ (by unfold maxLen; omega)).mono ?_
  rintro r w16 ⟨rfl, rfl⟩
  rw [hwd]
  have HWD := Lib.hid hwd
  have n25 : ¬ (25 : Int) < (n1 : Int) := by omega
  clear hwd
  -- the other words
  go_upto_region 11 with (first
    | (at_builtin; refine wpList_append_parts rfl (.tmp 40) (.tmp 41) rfl w15.heap.size (w15.heap.size + 1) (.slice (some ⟨w15.heap.size, 0, none⟩) 0 0) 0 [] rfl (own_empty w15 _ _ (Nat.le_refl _)) A1 n1 c1 e rfl (unhide e_15).2.2.2 (PS_al2 (unhide e_15).1) ?_ ?_ ?_; go_must (omega); go_must (exact Nat.le_of_lt (lt_alloc2 _ _)); (intro v4 w4 hown4 hgrow4; have hb4 : Below w15.heap.size w15 w4 := ((Below.refl _ _).alloc (Nat.le_refl _) _).grown hgrow4 (Nat.le_of_lt (lt_alloc2 _ _)) (own_block (own_empty w15 w15.heap.size 37 (Nat.le_refl _))); have HO4 := hide hown4; clear hown4))
    | (at_builtin; refine wpList_append_parts rfl (.tmp 42) (.tmp 44) rfl w15.heap.size (w4.heap.size + 1) v4 (0 + n1) ([] ++ e) rfl ((unhide HO4).alloc _) (some ⟨w4.heap.size, 0, none⟩) 1 1 [(7, 0)] rfl (fun h => nomatch h) (PS.one _ _ _ _ _ (Nat.lt_succ_self _)) ?_ ?_ ?_; go_must (omega); go_must (exact le_alloc2 hb4.size); (intro v5 w5 hown5 hgrow5; obtain ⟨N5, hN5⟩ : ∃ N5, 0 + n1 + 1 = N5 := ⟨_, rfl⟩; rw [hN5] at hown5; have HN5 := Lib.hid hN5; obtain ⟨A5, c5, hv5, hsl5⟩ := SL_own hown5 (by unfold maxLen; omega); subst hv5; clear hN5)))
  obtain ⟨W, hW⟩ : ∃ W, w5.alloc (.cells #[.int .i64 3, .int .i64 0] 37) = W := ⟨_, rfl⟩
  have hb5 : Below w15.heap.size w15 w5 := (hb4.alloc hb4.size _).grown hgrow5 (le_alloc2 hb4.size) (own_block (unhide HO4))
  have bx : W.heap[w5.heap.size]? = some (.cells #[.int .i64 3, .int .i64 0] 37) := by rw [← hW]; exact heap_alloc_new _ _
  have h5W : Below w5.heap.size w5 W := by rw [← hW]; exact (Below.refl _ _).alloc (Nat.le_refl _) _
  have hbbW : Below w15.heap.size w15 W := hb5.trans (h5W.mono hb5.size)
  have HS5 := hide (hsl5.up h5W)
  have HSe := hide ((unhide e_15).up hbbW)
  have hbbw := hbb15.trans (hbbW.mono hbb15.size)
  rw [hW]
  have lW : w5.heap.size < W.heap.size := box_in bx
  have hS : ∀ W', Below W.heap.size W W' → W'.cell? ⟨w5.heap.size, 0, none⟩ = some (.int .i64 3) ∧ W'.cell? ⟨w5.heap.size, 1, none⟩ = some (.int .i64 0) := fun W' h => by
    have d := (h.block _ lW).trans bx
    exact ⟨by rw [cell_of_row W' _ 0 _ _ _ d]; rfl, by rw [cell_of_row W' _ 1 _ _ _ d]; rfl⟩
  have SA : ∀ W', Below W.heap.size W W' → PS W' W'.heap.size A1 n1 e := fun W' h => (unhide HSe).1.up h
  have hna : 0 + n1 ≤ 1000000000 := by omega
  have hnb : 0 + n1 + 1 ≤ 1000000000 := by omega
  have hnd : 0 + n1 + 1 + 1 ≤ 1000000000 := by omega
  have HN5' := Lib.hid HN5.out
  obtain ⟨hW0, hW1⟩ := hS W (Below.refl _ _)
  clear hsl5 hown5 hgrow5 hgrow4 hb4 hb5 HO4 hW bx h5W hbbW hb1 hb11 hb12 hb15 hbb11 hbb12 hbb15 HC F_e e_11 e_12 e_15
  go_cut [8] from 47 to 55 (fun v8 wx => AppR W (n1 + 2) ([] ++ e ++ [((3 : Int), (0 : Int))] ++ [((5 : Int), (0 : Int))]) v8 wx)
  case first =>
    go_region_held3 (fun w' => w'.cell? ⟨w5.heap.size, 0, none⟩ = some (.int .i64 3) ∧ w'.cell? ⟨w5.heap.size, 1, none⟩ = some (.int .i64 0))
      (first | (refine hS _ ?_; exact (by repeat (first | exact Below.refl _ _ | assumption | (with_reducible refine Below.drew ?_) | (with_reducible refine bel_alloc _ ?_)))))
      (first
        | (refine step_app (W := W) rfl (.tmp 47) (.tmp 48) rfl (by repeat (first | exact Below.refl _ _ | assumption | (with_reducible refine Below.drew ?_) | (with_reducible refine bel_alloc _ ?_))) (.slice (some ⟨_, 0, none⟩) 0 0) 0 [] rfl (by repeat (first | exact own_emptyAt (by first | rfl | (simp; done) | (simp; omega)) (by first | exact Nat.le_refl _ | omega) | (with_reducible refine World.ownsRow.drew ?_) | (with_reducible refine World.ownsRow.alloc ?_ _))) A1 n1 c1 e rfl (unhide HSe).2.2.2 (SA _ (by repeat (first | exact Below.refl _ _ | assumption | (with_reducible refine Below.drew ?_) | (with_reducible refine bel_alloc _ ?_)))) hna ?_; intro v1 u1 hown1 hC1 hK1)
        | (refine step_app (W := W) rfl (.tmp 49) (.tmp 51) rfl (by repeat (first | exact Below.refl _ _ | assumption | (with_reducible refine Below.drew ?_) | (with_reducible refine bel_alloc _ ?_))) v1 (0 + n1) ([] ++ e) rfl (by repeat (first | exact hown1 | (with_reducible refine World.ownsRow.drew ?_) | (with_reducible refine World.ownsRow.alloc ?_ _))) _ 1 1 [((3 : Int), (0 : Int))] rfl no_nil (PS_at (by repeat (first | (with_reducible exact hp_new (by first | rfl | (simp; done) | (simp; omega))) | (with_reducible refine hp_drew ?_) | (with_reducible refine hp_old ?_) | (refine (hK1 _ _ ?_ (by first | (simp [Value.ownBlock]; done) | (simp [Value.ownBlock]; omega))).1)))) hnb ?_; intro v2 u2 hown2 hC2 hK2)
        | (refine step_app (W := W) rfl (.tmp 52) (.tmp 54) rfl (by repeat (first | exact Below.refl _ _ | assumption | (with_reducible refine Below.drew ?_) | (with_reducible refine bel_alloc _ ?_))) v2 (0 + n1 + 1) ([] ++ e ++ [((3 : Int), (0 : Int))]) rfl (by repeat (first | exact hown2 | (with_reducible refine World.ownsRow.drew ?_) | (with_reducible refine World.ownsRow.alloc ?_ _))) _ 1 1 [((5 : Int), (0 : Int))] rfl no_nil (PS_at (by repeat (first | (with_reducible exact hp_new (by first | rfl | (simp; done) | (simp; omega))) | (with_reducible refine hp_drew ?_) | (with_reducible refine hp_old ?_) | (refine (hK2 _ _ ?_ (by first | exact own_ge hown1 (by first | exact Nat.le_refl _ | (simp; done) | (simp; omega)) | exact (hK1 _ (.cells #[.int .i64 5, .int .i64 0] 37) (by repeat (first | (with_reducible exact hp_new (by first | rfl | (simp; done) | (simp; omega))) | (with_reducible refine hp_drew ?_) | (with_reducible refine hp_old ?_) | (refine (hK1 _ _ ?_ (by first | (simp [Value.ownBlock]; done) | (simp [Value.ownBlock]; omega))).1))) (by first | (simp [Value.ownBlock]; done) | (simp [Value.ownBlock]; omega))).2)).1) | (refine (hK1 _ _ ?_ (by first | (simp [Value.ownBlock]; done) | (simp [Value.ownBlock]; omega))).1)))) hnd ?_; intro v3 u3 hown3 hC3 hK3))
    all_goals
      go_wp2_with fail
      go_meet
      obtain ⟨N, hN⟩ : ∃ N, 0 + n1 + 1 + 1 = N := ⟨_, rfl⟩
      rw [hN] at hown3
      obtain ⟨A9, c9, hv9, hs9⟩ := SL_own hown3 (by unfold maxLen; omega)
      obtain rfl : N = n1 + 2 := by omega
      exact ⟨A9, c9, hv9, hs9, hC3⟩
  case rest =>
    obtain ⟨A8, c8, rfl, hsl8, hb8⟩ := hcut
    have HE8 := hide hsl8
    have e_8 := hide ((unhide HSe).up hb8)
    have n_8 := hide ((unhide HS5).up hb8)
    have hbb8 := hbbw.trans (hb8.mono hbbw.size)
    have hN5 : N5 = n1 + 1 := by have := HN5.out; omega
    have HN5 := Lib.hid hN5
    clear hsl8 hN5 hS SA hW0 hW1 hb8 HS5 HSe HN5' hbbw lW
    go_wp2_with (first
      | (at_builtin; refine wpList_append_parts rfl (.tmp 56) (.tmp 57) rfl wc.heap.size (wc.heap.size + 1) (.slice (some ⟨wc.heap.size, 0, none⟩) 0 0) 0 [] rfl (own_empty wc _ _ (Nat.le_refl _)) A1 n1 c1 e rfl (unhide e_8).2.2.2 (PS_al2 (unhide e_8).1) ?_ ?_ ?_; go_must (omega); go_must (exact Nat.le_of_lt (lt_alloc2 _ _)); (intro v14 w14 hown14 hgrow14; have hb14 : Below wc.heap.size wc w14 := ((Below.refl _ _).alloc (Nat.le_refl _) _).grown hgrow14 (Nat.le_of_lt (lt_alloc2 _ _)) (own_block (own_empty wc wc.heap.size 37 (Nat.le_refl _))); have HO14 := hide hown14; clear hown14))
      | (at_builtin; refine wpList_append_parts rfl (.tmp 58) (.tmp 60) rfl wc.heap.size (w14.heap.size + 1) v14 (0 + n1) ([] ++ e) rfl ((unhide HO14).alloc _) (some ⟨w14.heap.size, 0, none⟩) 1 1 [(8, 0)] rfl (fun h => nomatch h) (PS.one _ _ _ _ _ (Nat.lt_succ_self _)) ?_ ?_ ?_; go_must (omega); go_must (exact le_alloc2 hb14.size); (intro v16 w16 hown16 hgrow16; obtain ⟨N6, hN6⟩ : ∃ N6, 0 + n1 + 1 = N6 := ⟨_, rfl⟩; rw [hN6] at hown16; have HN6 := Lib.hid hN6; obtain ⟨A6, c6, hv6, hsl6⟩ := SL_own hown16 (by unfold maxLen; omega); subst hv6; clear hN6)))
    have hb16 : Below wc.heap.size wc w16 := (hb14.alloc hb14.size _).grown hgrow16 (le_alloc2 hb14.size) (own_block (unhide HO14))
    have HE16 := hide ((unhide HE8).up hb16)
    have n_16 := hide ((unhide n_8).up hb16)
    have HS6 := hide hsl6
    have hbb16 := hbb8.trans (hb16.mono hbb8.size)
    clear hsl6 hown16 hgrow16 hgrow14 HO14 hb14 hb16 HE8 n_8 e_8 hbb8
    have TJn : Opq (Ex.flat (.un 7 t) = [] ++ e ++ [((7 : Int), (0 : Int))]) := ⟨by rw [Ex.flat, TJ.out]; simp⟩
    have TJe : Opq (Ex.flat (.bin 5 t (.leaf 3 0)) = [] ++ e ++ [((3 : Int), (0 : Int))] ++ [((5 : Int), (0 : Int))]) := ⟨by rw [Ex.flat, TJ.out]; simp [Ex.flat]⟩
    have TJs : Opq (Ex.flat (.un 8 t) = [] ++ e ++ [((8 : Int), (0 : Int))]) := ⟨by rw [Ex.flat, TJ.out]; simp⟩
    refine (implExprAccepts_any _ _ _ _ _ s (unhide n_16).1 (by unfold maxLen; omega)).mono ?_
    rintro r w20 ⟨b1, rfl, hE1, hb20⟩
    have HE20 := hide ((unhide HE16).up hb20)
    have HS20 := hide ((unhide HS6).up hb20)
    have hbb20 := hbb16.trans (hb20.mono hbb16.size)
    have h1 : b1 = !ok2 := by
      have := eacc_tree TJn (show (Ex.un 7 t).good from ⟨.inl rfl, hg⟩) (by simp only [Ex.sz]; omega) hE1
      rw [HWD.out, Bool.true_and, acc_n7, ← HOK.out] at this
      exact this
    subst h1
    clear hE1 HE16 HS6 n_16
    rcases ok2 with _ | _
    · go_wp2_with fail
      refine (implExprAccepts_any _ _ _ _ _ s (unhide HE20).1 (by unfold maxLen; omega)).mono ?_
      rintro r w21 ⟨b2, rfl, hE2, hb21⟩
      have hbb21 := hbb20.trans (hb21.mono hbb20.size)
      have h2 : b2 = decide (s = ⟨#[97]⟩) := by
        have := eacc_tree TJe (show (Ex.bin 5 t (.leaf 3 0)).good from ⟨.inr (.inl rfl), hg, .inr ⟨rfl, by omega, by omega⟩⟩) (by simp only [Ex.sz]; omega) hE2
        rw [HWD.out, Bool.true_and, acc_ea, ← HOK.out, Bool.false_or] at this
        rw [this]
        exact decide_eq_decide.2 (str_a s)
      clear hE2
      by_cases hs : s = ⟨#[97]⟩
      · have h3 : b2 = true := by rw [h2]; exact decide_eq_true hs
        subst h3
        clear h2
        subst hs
        go_wp2
        go_ret
        exact ⟨rfl, hbb21⟩
      · have h3 : b2 = false := by rw [h2]; exact decide_eq_false hs
        subst h3
        have hsl : (s.toList == [97]) = false := by rw [ByteArray.toList_eq, beq_eq_false_iff_ne]; exact fun h9 => hs ((str_a s).1 h9)
        clear h2
        go_wp2
        go_ret
        exact ⟨rfl, hbb21⟩
    · go_wp2_with fail
      refine (implExprAccepts_any _ _ _ _ _ s (unhide HE20).1 (by unfold maxLen; omega)).mono ?_
      rintro r w21 ⟨b2, rfl, hE2, hb21⟩
      have hbb21 := hbb20.trans (hb21.mono hbb20.size)
      have HS21 := hide ((unhide HS20).up hb21)
      have h2 : b2 = true := by
        have := eacc_tree TJe (show (Ex.bin 5 t (.leaf 3 0)).good from ⟨.inr (.inl rfl), hg, .inr ⟨rfl, by omega, by omega⟩⟩) (by simp only [Ex.sz]; omega) hE2
        rw [HWD.out, Bool.true_and, acc_ea, ← HOK.out, Bool.true_or] at this
        exact this
      subst h2
      clear hE2
      go_wp2_with fail
      refine (implExprAccepts_any _ _ _ _ _ s (unhide HS21).1 (by unfold maxLen; omega)).mono ?_
      rintro r w22 ⟨b3, rfl, hE3, hb22⟩
      have hbb22 := hbb21.trans (hb22.mono hbb21.size)
      have h3 : b3 = true := by
        have := eacc_tree TJs (show (Ex.un 8 t).good from ⟨.inr rfl, hg⟩) (by simp only [Ex.sz]; omega) hE3
        rw [HWD.out, Bool.true_and, acc_s8 t _ HOK.out.symm] at this
        exact this
      subst h3
      clear hE3
      go_wp2
      go_ret
      exact ⟨rfl, hbb22⟩
end Go.Proofs.Ytgcggmlekmjpdaa
