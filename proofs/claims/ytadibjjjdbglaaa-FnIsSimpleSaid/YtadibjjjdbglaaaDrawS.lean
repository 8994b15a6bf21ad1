/-
  The draw of an expression that is perhaps simplified, and the law on simple expressions.
-/
import Derived.Test.YtadibjjjdbglaaaLawsS4
namespace Go.Proofs.Ytadibjjjdbglaaa
open Go.RowKit
set_option linter.unusedVariables false
set_option maxRecDepth 100000

/-- Parts do not lie in the reader's block. -/
theorem SL.pick {w w' : World} {A : Option Addr} {n c R B : Nat} {q : Int} {e : List Pt} (h : SL w w.heap.size A n c e) (hr : Rd w B R q) (hg : w.grownBy w' (some R)) : SL w' w'.heap.size A n c e := by
  obtain ⟨hp, h1, h2, h3⟩ := h
  refine ⟨⟨hp.1, fun hn => ?_⟩, h1, h2, h3⟩
  obtain ⟨b, off, eA, hb, hc⟩ := hp.2 hn
  obtain ⟨-, -, A', n', c', hrow, -⟩ := hr
  obtain ⟨b2, off2, k, l, eA2, -, he, hk, hl⟩ := hp.at hn
  rw [eA] at eA2
  injection eA2 with eA2
  injection eA2 with e1 e2
  subst e1; subst e2
  have hne : b ≠ R := by
    rintro rfl
    have hk0 : w.cell? ⟨b, off + 0 * 2, none⟩ = some (.int .i64 k) := hk
    have hl0 : w.cell? ⟨b, off + 0 * 2 + 1, none⟩ = some (.int .i64 l) := hl
    simp only [World.cell?, hrow] at hk0 hl0
    rcases off with _ | _ | off <;> simp at hk0 hl0
  have hs : ∀ {o : Nat} {v : Value}, w.cell? ⟨b, o, none⟩ = some v → w'.cell? ⟨b, o, none⟩ = some v := fun h => hg.cell h (by simpa using hne)
  refine ⟨b, off, eA, ?_, fun i k l hi => ?_⟩
  · have := hg.size; omega
  · obtain ⟨q1, q2⟩ := hc i k l hi
    exact ⟨hs q1, hs q2⟩
def DrawD2 (w : World) (r : Ending) (w' : World) : Prop :=
  ∃ (e : List Pt) (A : Option Addr) (n c : Nat), r = .returned (.slice A n c) ∧ n ≤ 61 ∧ SL w' w'.heap.size A n c e ∧ Below w.heap.size w w'
theorem dIsSimple_any (w : World) (n c : Nat) (A : Option Addr) (B : Nat) (h : CodeB w B A n) (hB : B ≤ w.heap.size) (hnc : n ≤ c) (hn : n ≤ 1048576) :
    Calls Try.prog 44 #[.slice A n c] w (DrawD2 w) := by
  go_enter Try.func44, Try.ntmps44
  go_wp2_with fail
  refine (l20Open_any _ B n c A h hB hnc hn).mono ?_
  rintro r w1 ⟨R, rfl, hR, hRd, hb⟩
  go_wp2_with fail
  refine (l20Expr_any _ B R 0 12 hRd (by omega) (by omega) (by omega)).mono ?_
  rintro r w2 ⟨e, A2, c2, q, rfl, hl, hSL, hq0, hq1, hRd2, hg⟩
  have hbb := below_only hb hg hR
  have HS := hide hSL
  clear hSL
  go_wp2_with fail
  refine (pick_any _ B R q 2 hRd2 (by omega) (by omega)).mono ?_
  rintro r w3 ⟨k, rfl, k0, k1, -, hg3⟩
  have HS3 := hide ((unhide HS).pick hRd2 hg3)
  have hbb3 := below_only hbb hg3 hR
  rcases hk : (k == 0)
  · go_wp2
    go_ret
    exact ⟨e, A2, _, c2, rfl, by omega, unhide HS3, hbb3⟩
  · go_wp2_with fail
    refine (specSimp_all _ _ _ _ e (unhide HS3).1 (by omega) (unhide HS3).2.1 (unhide HS3).2.2.1).mono ?_
    rintro r w4 ⟨x, hx, hd⟩
    have hxl := simp_len hx
    obtain ⟨A4, c4, rfl, hsl4, -, hb4⟩ := hd.sl (by omega)
    go_wp2
    go_ret
    exact ⟨x, A4, _, c4, rfl, by omega, hsl4, hbb3.trans (hb4.mono hbb3.size)⟩
theorem SimB.at {t : Ex} {b : Bool} (hg : t.good) (hs : t.sz ≤ 60) (h : SimB t.flat b) : b = decide (t.simp.flat = t.flat) := SimB.uniq h (.inr ⟨t, hg, rfl, hs, rfl⟩)
theorem SimB.tree {t : Ex} {b : Bool} (hg : t.good) (hs : t.sz ≤ 60) (h : SimB t.flat b) (ht : t.simp = t) : b = true := by
  rw [SimB.at hg hs h, ht]; simp
theorem simB_true {e : List Pt} (h : SimB e true) : ∃ t : Ex, t.good ∧ t.flat = e ∧ t.sz ≤ 60 ∧ t.simp = t := by
  rcases h with ⟨-, h⟩ | ⟨t, hg, hf, hs, hb⟩
  · cases h
  · have h2 : t.simp.flat = t.flat := by simpa using hb.symm
    exact ⟨t, hg, hf, hs, Ex.flat_inj (Ex.simp_good hg) hg h2⟩
theorem opR_simple {t : Ex} {k : Nat} {x : List Pt} (hg : t.good) (hs : t.sz ≤ 60) (ht : t.simp = t) (hx : OpR k t.flat x) : x = [] ∨ ∀ b, SimB x b → b = true := by
  have h1 : x = t.opd k := OpR.uniq hx (.inr ⟨t, hg, rfl, hs, rfl⟩)
  subst h1
  cases t with
  | leaf kd l => exact .inl (by simp [Ex.opd])
  | un kd u =>
    have h2 := Ex.simple_un ht
    simp only [Ex.sz] at hs
    rcases k with _ | k
    · exact .inr fun b hb => SimB.tree (t := u) hg.2 (by omega) (by simpa [Ex.opd] using hb) h2
    · exact .inl (by simp [Ex.opd])
  | bin kd u v =>
    obtain ⟨h2, h3⟩ := Ex.simple_bin ht
    simp only [Ex.sz] at hs
    rcases k with _ | k
    · exact .inr fun b hb => SimB.tree (t := u) hg.2.1 (by omega) (by simpa [Ex.opd] using hb) h2
    · exact .inr fun b hb => SimB.tree (t := v) hg.2.2 (by omega) (by simpa [Ex.opd] using hb) h3

set_option maxHeartbeats 4000000 in
theorem wFnIsSimple (A : Option Addr) (n c : Nat) (w : World) (hw : BytesIn w A n c) : Calls Try.prog 11 #[.slice A n c] w (Yes w) := by
  obtain ⟨hnc, hcm, hcode⟩ := hw
  unfold maxLen at hcm
  have HC := hide hcode
  clear hcode
  by_cases hn : 1048576 < n
  · go_enter Try.func11, Try.ntmps11
    go_wp2
    go_ret
    exact ⟨rfl, Below.refl _ _⟩
  · go_enter Try.func11, Try.ntmps11
    go_wp2_with fail
    refine (dIsSimple_any w n c A _ (unhide HC) (Nat.le_refl _) hnc (by omega)).mono ?_
    rintro r w1 ⟨e, A1, n1, c1, rfl, hl, hsl, hb1⟩
    have HLN := Lib.hid hsl.1.1
    have HS := hide hsl
    clear hsl
    go_wp2_with fail
    refine (implIsSimple_all _ _ _ _ e (unhide HS).1 (by omega) (unhide HS).2.1 (unhide HS).2.2.1).mono ?_
    rintro r w2 ⟨b, rfl, hbs, hb2⟩
    have hbb2 := hb1.trans (hb2.mono hb1.size)
    have HS2 := hide ((unhide HS).up hb2)
    go_wp2_with fail
    refine (specIsSimple_all _ _ _ _ e (unhide HS2).1 (by omega) (unhide HS).2.1 (unhide HS).2.2.1).mono ?_
    rintro r w3 ⟨b', rfl, hbs', hb3⟩
    obtain rfl := SimB.uniq hbs hbs'
    have hbb3 := hbb2.trans (hb3.mono hbb2.size)
    have HS3 := hide ((unhide HS2).up hb3)
    have HB := Lib.hid hbs
    clear hbs hbs'
    cases b
    · go_wp2_with fail
      refine (alive_any _).mono ?_
      rintro r w4 ⟨rfl, rfl⟩
      go_wp2
      go_ret
      exact ⟨rfl, hbb3⟩
    obtain ⟨t, hg, hf, hs, ht⟩ := simB_true HB.out
    have HF := Lib.hid hf
    clear hf
    go_wp2_with fail
    refine (implFirst_all _ _ _ _ e (unhide HS3).1 (unhide HS).2.1 (unhide HS).2.2.1).mono ?_
    rintro r w4 ⟨x, hx, hd4⟩
    have hxl := hx.len
    obtain ⟨A4, c4, rfl, hsl4, -, hb4⟩ := hd4.sl (by omega)
    have hbb4 := hbb3.trans (hb4.mono hbb3.size)
    have HS4 := hide ((unhide HS3).up hb4)
    have HX4 := hide hsl4
    have HXR := Lib.hid hx
    clear hx hd4 hsl4
    go_wp2_with fail
    refine (implSecond_all _ _ _ _ e (unhide HS4).1 (unhide HS).2.1 (unhide HS).2.2.1).mono ?_
    rintro r w5 ⟨y, hy, hd5⟩
    have hyl := hy.len
    obtain ⟨A5, c5, rfl, hsl5, -, hb5⟩ := hd5.sl (by omega)
    have hbb5 := hbb4.trans (hb5.mono hbb4.size)
    have HS5 := hide ((unhide HS4).up hb5)
    have HX5 := hide ((unhide HX4).up hb5)
    have HY5 := hide hsl5
    have HYR := Lib.hid hy
    clear hy hd5 hsl5
    go_wp2_with fail
    refine (implSimp_all _ _ _ _ e (unhide HS5).1 (by omega) (unhide HS).2.1 (unhide HS).2.2.1).mono ?_
    rintro r w6 ⟨z, hz, hd6⟩
    have hzl := simp_len hz
    obtain ⟨A6, c6, rfl, hsl6, -, hb6⟩ := hd6.sl (by omega)
    have hbb6 := hbb5.trans (hb6.mono hbb5.size)
    have HS6 := hide ((unhide HS5).up hb6)
    have HX6 := hide ((unhide HX5).up hb6)
    have HY6 := hide ((unhide HY5).up hb6)
    have HZ6 := hide hsl6
    clear hd6 hsl6
    obtain rfl : z = e := by
      rw [← HF.out] at hz ⊢
      rw [FlatR.at hg hs hz, ht]
    clear hz
    go_wp2_with fail
    refine (sameParts_any _ _ _ _ _ _ _ z z (unhide HZ6).1 (unhide HS6).1 (by omega) (by omega)).mono ?_
    rintro r w7 ⟨rfl, hb7⟩
    have hdd : decide (z = z) = true := by simp
    rw [hdd]
    clear hdd
    have hbb7 := hbb6.trans (hb7.mono hbb6.size)
    have HX7 := hide ((unhide HX6).up hb7)
    have HY7 := hide ((unhide HY6).up hb7)
    have h1 := HXR.out
    have h2 := HYR.out
    rw [← HF.out] at h1 h2
    have hpx := opR_simple hg hs ht h1
    have hpy := opR_simple hg hs ht h2
    clear h1 h2
    have HPX := Lib.hid hpx
    have HPY := Lib.hid hpy
    clear hpx hpy
    by_cases hx0 : x = []
    · subst hx0
      by_cases hy0 : y = []
      · subst hy0
        go_wp2
        go_ret
        exact ⟨rfl, hbb7⟩
      · have hy1 : 0 < y.length := List.length_pos_iff.2 hy0
        go_wp2_with fail
        refine (implIsSimple_all _ _ _ _ y (unhide HY7).1 (by omega) (unhide HY7).2.1 (unhide HY7).2.2.1).mono ?_
        rintro r w8 ⟨b, rfl, hb, hb8⟩
        obtain rfl := (HPY.out.resolve_left hy0) b hb
        go_wp2
        go_ret
        exact ⟨rfl, hbb7.trans (hb8.mono hbb7.size)⟩
    · have hx1 : 0 < x.length := List.length_pos_iff.2 hx0
      go_wp2_with fail
      refine (implIsSimple_all _ _ _ _ x (unhide HX7).1 (by omega) (unhide HX7).2.1 (unhide HX7).2.2.1).mono ?_
      rintro r w8 ⟨b, rfl, hb, hb8⟩
      obtain rfl := (HPX.out.resolve_left hx0) b hb
      have hbb8 := hbb7.trans (hb8.mono hbb7.size)
      have HY8 := hide ((unhide HY7).up hb8)
      by_cases hy0 : y = []
      · subst hy0
        go_wp2
        go_ret
        exact ⟨rfl, hbb8⟩
      · have hy1 : 0 < y.length := List.length_pos_iff.2 hy0
        go_wp2_with fail
        refine (implIsSimple_all _ _ _ _ y (unhide HY8).1 (by omega) (unhide HY8).2.1 (unhide HY8).2.2.1).mono ?_
        rintro r w9 ⟨b, rfl, hb, hb9⟩
        obtain rfl := (HPY.out.resolve_left hy0) b hb
        go_wp2
        go_ret
        exact ⟨rfl, hbb8.trans (hb9.mono hbb8.size)⟩
end Go.Proofs.Ytadibjjjdbglaaa
