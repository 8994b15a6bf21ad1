/-
  The walk of the law on empty words.
-/
import Derived.Test.YtgcggmlekmjpdaaDrawL
import Derived.Test.YtgcggmlekmjpdaaEmpty2
import Derived.Test.YtgcggmlekmjpdaaEacc
import Derived.Maps.AppendAt
namespace Go.Proofs.Ytgcggmlekmjpdaa
open Go.RowKit
set_option linter.unusedVariables false
set_option maxRecDepth 100000

/-- 'append' of parts where the operation hangs on a guard that is met. -/
theorem wpList_append_guard {w : World} {ops : Array Oper} {rest : List Oper} {o : Oper} {a : Act} {Q : Exit → Act → World → Prop} (hw : Region.wanted o (yielded ops a.tmps) = true) (s x : Operand)
    (ho : o.op = .call { callee := .builtin .append, args := #[s, x], argTypes := #[25, 25] })
    (base B : Nat) (v : Value) (n : Nat) (e1 : List Pt) (hs : a.eval s = v) (hown : w.ownsRow base 37 2 v n (flatV e1))
    (b off m c : Nat) (e2 : List Pt) (hx : a.eval x = .slice (some ⟨b, off, none⟩) m c) (hp : PS w B (some ⟨b, off, none⟩) m e2)
    (hm : n + m ≤ 1000000000) (hbase : base ≤ w.heap.size)
    (h : ∀ v' w', w'.ownsRow base 37 2 v' (n + m) (flatV (e1 ++ e2)) → w.grownBy w' v.ownBlock → wpList Try.prog ops Q rest (a.put o.dst v') w') : wpList Try.prog ops Q (o :: rest) a w := by
  refine wpList_step fun K hK => ?_
  rw [if_pos hw]
  obtain ⟨i0, hi0, hz0, hz1, hz2⟩ := info_parts part_info
  obtain ⟨v', w', hr, h2, h3, _, _⟩ := run_append_own_at (P := Try.prog) w base 25 o.type 37 i0 (part 0 0) 2 16 Try.underlying25 hi0 hz0 hz1 hz2 rfl (by decide) v n (flatV e1) hown ⟨b, off, none⟩ m c (flatV e2) (by rw [flatV_length, hp.1]) hp.news (flatV_one e2) (by unfold maxLen; omega) (by omega) hbase
  unfold Oper.wp execOp
  simp only [ho, resolve, invoke, builtin, Sem.run_bind, Sem.run_pure, Result.andThen_ok, List.map_toArray, List.map_cons, List.map_nil, hs, hx, hr]
  exact hK _ _ (h v' w' (by rw [flatV_append]; exact h2) h3)
theorem acc_nil {t : Ex} (hg : t.good) : t.acc [] = t.emp := by
  rw [Bool.eq_iff_iff, Ex.acc_iff, Ex.emp_iff hg]
theorem EmpB.bad {e : List Pt} {b : Bool} (h : EmpB e b) (hv : exprB e = false) : b = false := by
  rcases h with ⟨-, h⟩ | ⟨t, hg, hf, hs, -⟩
  · exact h
  · have : exprB e = true := exprB_iff.2 ⟨t, hg, hf, hs⟩
    rw [hv] at this; cases this
theorem EmpB.tree {t : Ex} {e : List Pt} {b : Bool} (hf : t.flat = e) (hg : t.good) (hs : t.sz ≤ 60) (h : EmpB e b) : b = t.emp := EmpB.uniq h (.inr ⟨t, hg, hf, hs, rfl⟩)
theorem le_alloc5 {a : Nat} {w : World} {o : Obj} (h : a ≤ w.heap.size) : a ≤ (w.alloc o).heap.size := by simp; omega
set_option maxHeartbeats 4000000 in
theorem wFnHasEmpty (A : Option Addr) (n c : Nat) (w : World) (hw : BytesIn w A n c) : Calls Try.prog 5 #[.slice A n c] w (Yes w) := by
  obtain ⟨hnc, hcm, hcode⟩ := hw
  unfold maxLen at hcm
  have HC := hide hcode
  clear hcode
  by_cases hn : 1048576 < n
  · go_enter Try.func5, Try.ntmps5
    go_wp2
    go_ret
    exact ⟨rfl, Below.refl _ _⟩
  · go_enter Try.func5, Try.ntmps5
    go_wp2_with fail
    refine (dHasEmpty_any w n c A _ (unhide HC) (Nat.le_refl _) hnc (by omega)).mono ?_
    rintro r w1 ⟨e, A1, n1, c1, rfl, hl, hsl, hb1⟩
    have HLN := Lib.hid hsl.1.1
    have HS1 := hide hsl
    clear hsl
    go_wp2_with fail
    refine (implEmpty_all _ _ _ _ e (unhide HS1).1 (by omega) (unhide HS1).2.1 (unhide HS1).2.2.1).mono ?_
    rintro r w2 ⟨b, rfl, hE, hb2⟩
    have HS2 := hide ((unhide HS1).up hb2)
    have hbb2 := hb1.trans (hb2.mono hb1.size)
    go_wp2_with fail
    refine (specEmpty_all _ _ _ _ e (unhide HS2).1 (by omega) (unhide HS2).2.1 (unhide HS2).2.2.1).mono ?_
    rintro r w3 ⟨b2, rfl, hE2, hb3⟩
    obtain rfl : b2 = b := EmpB.uniq hE2 hE
    have HS3 := hide ((unhide HS2).up hb3)
    have hbb3 := hbb2.trans (hb3.mono hbb2.size)
    have hne : (b2 != b2) = false := by simp
    rcases hv : exprB e
    · obtain rfl : b2 = false := EmpB.bad hE hv
      go_wp2_with (first | (go_at_call 25; refine (specExprValid_any _ _ _ _ e (unhide HS3).1 (by omega)).mono ?_; rintro r w4 ⟨rfl, hb4⟩; rw [hv]))
      refine (alive_any _).mono ?_
      rintro r w99 ⟨rfl, rfl⟩
      go_wp2
      go_ret
      exact ⟨rfl, hbb3.trans (hb4.mono hbb3.size)⟩
    · obtain ⟨t, hg, hf, hs⟩ := exprB_iff.1 hv
      have hsz : t.sz ≤ 16 := by have h1 := HLN.out; rw [← hf, Ex.flat_length] at h1; omega
      have hn16 : n1 ≤ 16 := by have h1 := HLN.out; rw [← hf, Ex.flat_length] at h1; omega
      have hn1 : 1 ≤ n1 := by have h1 := HLN.out; rw [← hf, Ex.flat_length] at h1; have := Ex.sz_pos t; omega
      have TE : Opq (t.flat = e) := ⟨hf⟩
      have HB : Opq (b2 = t.emp) := ⟨EmpB.tree hf hg hs hE⟩
      have HV : Opq (exprB e = true) := ⟨hv⟩
      have HG : Opq t.good := ⟨hg⟩
      obtain ⟨bb, off, hA, -⟩ := (unhide HS3).1.addr (by omega)
      subst hA
      clear hv hf hs hE hE2 hg
      go_wp2_with (first | (go_at_call 25; refine (specExprValid_any _ _ _ _ e (unhide HS3).1 (by omega)).mono ?_; rintro r w4 ⟨rfl, hb4⟩; rw [HV.out]))
      have HS4 := hide ((unhide HS3).up hb4)
      have hbb4 := hbb3.trans (hb4.mono hbb3.size)
      refine (implExprAccepts_any _ _ _ _ e ⟨#[]⟩ (unhide HS4).1 (by decide)).mono ?_
      rintro r w5 ⟨b3, rfl, hacc, hb5⟩
      obtain rfl : b3 = b2 := by
        rw [eacc_tree TE HG.out (by omega) hacc, HB.out]
        show (wordB [] && t.acc []) = t.emp
        rw [acc_nil HG.out, show wordB [] = true from rfl, Bool.true_and]
      clear hacc
      have HS5 := hide ((unhide HS4).up hb5)
      have hbb5 := hbb4.trans (hb5.mono hbb4.size)
      have heq : (b3 == b3) = true := by simp
      go_wp2_with (first
        | (at_builtin; refine wpList_append_guard rfl (.tmp 38) (.tmp 39) rfl w5.heap.size (w5.heap.size + 1) (.slice (some ⟨w5.heap.size, 0, none⟩) 0 0) 0 [] rfl (own_empty w5 _ _ (Nat.le_refl _)) bb off n1 c1 e rfl (PS_al2 (unhide HS5).1) ?_ ?_ ?_; go_must (omega); go_must (exact Nat.le_of_lt (lt_alloc2 _ _)); (intro v6 w6 hown6 hgrow6; have hb6 : Below w5.heap.size w5 w6 := ((Below.refl _ _).alloc (Nat.le_refl _) _).grown hgrow6 (Nat.le_of_lt (lt_alloc2 _ _)) (own_block (own_empty w5 w5.heap.size 37 (Nat.le_refl _))); have HO6 := hide hown6; clear hown6))
        | (at_builtin; refine wpList_append_guard rfl (.tmp 40) (.tmp 42) rfl w5.heap.size (w6.heap.size + 1) v6 (0 + n1) ([] ++ e) rfl ((unhide HO6).alloc _) w6.heap.size 0 1 1 [(8, 0)] rfl (PS.one _ _ _ _ _ (Nat.lt_succ_self _)) ?_ ?_ ?_; go_must (omega); go_must (exact le_alloc2 hb6.size); (intro v7 w7 hown7 hgrow7; obtain ⟨N5, hN5⟩ : ∃ N5, 0 + n1 + 1 = N5 := ⟨_, rfl⟩; rw [hN5] at hown7; have HN5 := Lib.hid hN5; obtain ⟨A7, c7, hv7, hsl7⟩ := SL_own hown7 (by unfold maxLen; omega); subst hv7; clear hN5)))
      have hb7 : Below w5.heap.size w5 w7 := (hb6.alloc hb6.size _).grown hgrow7 (le_alloc2 hb6.size) (own_block (unhide HO6))
      have hj : [] ++ e ++ [((8 : Int), (0 : Int))] = (Ex.un 8 t).flat := by rw [Ex.flat, TE.out]; simp
      rw [hj] at hsl7
      have hbb7 := hbb5.trans (hb7.mono hbb5.size)
      have hl7 := hsl7.1.1
      rw [Ex.flat_length] at hl7
      simp only [Ex.sz] at hl7
      refine (implEmpty_all _ _ _ _ _ hsl7.1 (by omega) hsl7.2.1 hsl7.2.2.1).mono ?_
      rintro r w8 ⟨b4, rfl, hE4, hb8⟩
      obtain rfl : b4 = true := by
        have h := EmpB.tree rfl (show (Ex.un 8 t).good from ⟨.inr rfl, HG.out⟩) (by simp only [Ex.sz]; omega) hE4
        rw [h]; simp [Ex.emp]
      go_wp2
      go_ret
      exact ⟨rfl, hbb7.trans (hb8.mono hbb7.size)⟩
end Go.Proofs.Ytgcggmlekmjpdaa
