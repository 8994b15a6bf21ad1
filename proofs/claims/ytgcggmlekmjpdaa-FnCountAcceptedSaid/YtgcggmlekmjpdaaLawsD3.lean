/-
  The walk of the law on counted words.
-/
import Derived.Test.YtgcggmlekmjpdaaLen
import Derived.Test.YtgcggmlekmjpdaaCount
import Derived.Test.YtgcggmlekmjpdaaEacc
namespace Go.Proofs.Ytgcggmlekmjpdaa
open Go.RowKit
set_option linter.unusedVariables false
set_option maxRecDepth 100000

theorem cnt_not (t : Ex) (a : Int) (m : Nat) : cnt t a m + cnt (.un 7 t) a m = m := by
  induction m with
  | zero => simp [cnt]
  | succ m ih =>
    have h : (Ex.un 7 t).acc (wat (a + m)) = !(t.acc (wat (a + m))) := by simp [Ex.acc, Ex.sp]
    simp only [cnt, h]
    cases t.acc (wat (a + m)) <;> simp <;> omega
theorem CountR.cases {e : List Pt} {k d : Int} (h : CountR e k d) (hk : -1 ≤ k ∧ k ≤ 3) : d = -1 ∨ ∃ (t : Ex) (L : Nat), t.good ∧ t.flat = e ∧ t.sz ≤ 60 ∧ k = (L : Int) ∧ L ≤ 3 ∧ d = countI t L := by
  rcases h with ⟨h1, h2, t, hg, hf, rfl⟩ | ⟨-, h⟩
  · right
    obtain ⟨u, hgu, hfu, hs⟩ := exprB_iff.1 h1
    obtain rfl := Ex.flat_inj hgu hg (hfu.trans hf.symm)
    obtain ⟨l0, -⟩ := inB_true.1 h2
    exact ⟨u, k.toNat, hg, hf, hs, by omega, by omega, rfl⟩
  · exact .inl h
theorem le_alloc3 {a : Nat} {w : World} {o : Obj} (h : a ≤ w.heap.size) : a ≤ (w.alloc o).heap.size := by simp; omega
set_option maxHeartbeats 4000000 in
theorem wFnCountAccepted (A : Option Addr) (n c : Nat) (w : World) (hw : BytesIn w A n c) : Calls Try.prog 14 #[.slice A n c] w (Yes w) := by
  obtain ⟨hnc, hcm, hcode⟩ := hw
  unfold maxLen at hcm
  have HC := hide hcode
  clear hcode
  by_cases hn : 1048576 < n
  · go_enter Try.func14, Try.ntmps14
    go_wp2
    go_ret
    exact ⟨rfl, Below.refl _ _⟩
  · go_enter Try.func14, Try.ntmps14
    go_wp2_with fail
    refine (dCountAccepted_any w n c A _ (unhide HC) (Nat.le_refl _) hnc (by omega)).mono ?_
    rintro r w1 ⟨e, A1, n1, c1, k, rfl, hl, hsl, k0, k3, hb1⟩
    have HLN := Lib.hid hsl.1.1
    have HS1 := hide hsl
    clear hsl
    go_wp2_with fail
    refine (implCount_any _ _ _ _ _ k (unhide HS1).1).mono ?_
    rintro r w2 ⟨d, rfl, hC, hb2⟩
    have HS2 := hide ((unhide HS1).up hb2)
    have hbb2 := hb1.trans (hb2.mono hb1.size)
    go_wp2_with fail
    refine (specCount_any _ _ _ _ _ k (unhide HS2).1 (by omega)).mono ?_
    rintro r w3 ⟨d2, rfl, hC2, hb3⟩
    obtain rfl : d2 = d := CountR.uniq hC2 hC
    have HS3 := hide ((unhide HS2).up hb3)
    have hbb3 := hbb2.trans (hb3.mono hbb2.size)
    have hne : (d2 != d2) = false := by simp
    rcases CountR.cases hC ⟨k0, k3⟩ with rfl | ⟨t, L, hg, hf, hs, rfl, hL, hd⟩
    · go_wp2_with fail
      refine (alive_any _).mono ?_
      rintro r w99 ⟨rfl, rfl⟩
      go_wp2
      go_ret
      exact ⟨rfl, hbb3⟩
    · have hn16 : n1 ≤ 16 := by have h1 := HLN.out; rw [← hf, Ex.flat_length] at h1; omega
      have hcb := cnt_bd t (shN L) (p3 L).toNat
      have hpb := p3_bd (n := L) (by omega)
      have hp3 := p3_mono (show L ≤ 3 by omega)
      have e3 : p3 3 = 27 := by decide
      have hd0 : 0 ≤ d2 := by rw [hd]; exact hcb.1
      have hd1 : d2 ≤ 27 := by have := hcb.2; rw [hd]; show cnt t (shN L) (p3 L).toNat ≤ 27; omega
      have HD := Lib.hid (show d2 = countI t L ∧ t.good ∧ t.flat = e from ⟨hd, hg, hf⟩)
      have hwo : ∀ W, Calls Try.prog 38 #[.int .i64 (L : Int)] W fun e w' => e = .returned (.int .i64 (p3 L)) ∧ W = w' := fun W => by have := implWordsOf_any (L : Int) W; rw [wordsOfI, if_pos (inB_true.2 ⟨by omega, by omega⟩)] at this; exact this
      have hsz : t.sz ≤ 16 := by have h1 := HLN.out; rw [← hf, Ex.flat_length] at h1; omega
      clear hne hC hC2 hd hf hg hcb hs
      obtain ⟨P3, hP3⟩ : ∃ P3, p3 L = P3 := ⟨_, rfl⟩
      rw [hP3] at hwo hpb
      have HP3 := Lib.hid hP3
      clear hP3 hp3 e3
      go_wp2_with (first
        | (at_builtin; refine wpList_append_parts rfl (.tmp 37) (.tmp 38) rfl w3.heap.size (w3.heap.size + 1) (.slice (some ⟨w3.heap.size, 0, none⟩) 0 0) 0 [] rfl (own_empty w3 _ _ (Nat.le_refl _)) A1 n1 c1 e rfl (unhide HS3).2.2.2 (PS_al2 (unhide HS3).1) ?_ ?_ ?_; go_must (omega); go_must (exact Nat.le_of_lt (lt_alloc2 _ _)); (intro v4 w4 hown4 hgrow4; have hb4 : Below w3.heap.size w3 w4 := ((Below.refl _ _).alloc (Nat.le_refl _) _).grown hgrow4 (Nat.le_of_lt (lt_alloc2 _ _)) (own_block (own_empty w3 w3.heap.size 37 (Nat.le_refl _))); have HO4 := hide hown4; clear hown4))
        | (at_builtin; refine wpList_append_parts rfl (.tmp 39) (.tmp 41) rfl w3.heap.size (w4.heap.size + 1) v4 (0 + n1) ([] ++ e) rfl ((unhide HO4).alloc _) (some ⟨w4.heap.size, 0, none⟩) 1 1 [(7, 0)] rfl (fun h => nomatch h) (PS.one _ _ _ _ _ (Nat.lt_succ_self _)) ?_ ?_ ?_; go_must (omega); go_must (exact le_alloc2 hb4.size); (intro v5 w5 hown5 hgrow5; obtain ⟨N5, hN5⟩ : ∃ N5, 0 + n1 + 1 = N5 := ⟨_, rfl⟩; rw [hN5] at hown5; have HN5 := Lib.hid hN5; obtain ⟨A5, c5, hv5, hsl5⟩ := SL_own hown5 (by unfold maxLen; omega); subst hv5; clear hN5)))
      have hb5 : Below w3.heap.size w3 w5 := (hb4.alloc hb4.size _).grown hgrow5 (le_alloc2 hb4.size) (own_block (unhide HO4))
      have hj : [] ++ e ++ [((7 : Int), (0 : Int))] = (Ex.un 7 t).flat := by rw [Ex.flat, HD.out.2.2]; simp
      rw [hj] at hsl5
      have hbb5 := hbb3.trans (hb5.mono hbb3.size)
      refine (implCount_any _ _ _ _ _ (L : Int) hsl5.1).mono ?_
      rintro r w6 ⟨d3, rfl, hC3, hb6⟩
      have h3 := CountR.tree rfl (show (Ex.un 7 t).good from ⟨.inl rfl, HD.out.2.1⟩) (by simp only [Ex.sz]; omega) (inB_true.2 ⟨by omega, by omega⟩) hC3
      rw [Int.toNat_natCast] at h3
      have hsum : d2 + d3 = P3 := by
        have h4 := cnt_not t (shN L) (p3 L).toNat
        rw [HD.out.1, h3, ← HP3.out, countI, countI, h4]
        have := HP3.out; omega
      have hw3 : IntKind.i64.wrap (d2 + d3) = P3 := by rw [hsum]; exact IntWalk.i64_in _ (by omega)
      have HSUM := Lib.hid hsum
      clear hsum h3 hC3 hsl5 hown5
      go_wp2_with (go_at_call 38; refine (hwo _).mono ?_; rintro r w7 ⟨rfl, rfl⟩)
      go_ret
      exact ⟨ret_bool (by first | simp | (have := HSUM.out; simp; omega)), hbb5.trans (hb6.mono hbb5.size)⟩
end Go.Proofs.Ytgcggmlekmjpdaa
