/-
  The drawn expressions, perhaps bent.
-/
import Derived.Test.YtgcggmlekmjpdaaDrawE
namespace Go.Proofs.Ytgcggmlekmjpdaa
open Go.RowKit
set_option linter.unusedVariables false
set_option maxRecDepth 100000

/-- What a drawn expression, perhaps bent, leaves. -/
def ExprD (w : World) (B R : Nat) (p : Int) (r : Ending) (w' : World) : Prop :=
  ∃ (e : List Pt) (A : Option Addr) (c : Nat) (q : Int), r = .returned (.slice A e.length c) ∧ (e.length ≤ 16 ∨ e.length = 61) ∧ SL w' w'.heap.size A e.length c e ∧ (p ≤ q ∧ ∀ b o, A = some ⟨b, o, none⟩ → b ≠ R) ∧ q ≤ p + 60 ∧ Rd w' B R q ∧ w.grownBy w' (some R)
def sliceLen : Value → Nat
  | .slice _ n _ => n
  | _ => 0
theorem SL.tail {w : World} {B : Nat} {b off n c : Nat} {p : Pt} {e : List Pt} (h : SL w B (some ⟨b, off, none⟩) n c (p :: e)) : SL w B (if c = 1 then some ⟨b, off, none⟩ else some ⟨b, off + 2, none⟩) (n - 1) (c - 1) e := by
  obtain ⟨hp, h1, h2, h3⟩ := h
  have hl := hp.1
  simp only [List.length_cons] at hl
  refine ⟨⟨by omega, fun hn => ?_⟩, by omega, by omega, by intro h; split at h <;> cases h⟩
  rw [if_neg (by omega)]
  obtain ⟨b', off', e1, hb, hc⟩ := hp.2 (by omega)
  injection e1 with e1
  injection e1 with e1 e2
  subst e1; subst e2
  refine ⟨b, off + 2, rfl, hb, fun i k l hi => ?_⟩
  have := hc (i + 1) k l (by simpa using hi)
  rw [Nat.add_mul, Nat.one_mul, ← Nat.add_assoc, Nat.add_right_comm] at this
  exact this
theorem own_neR {w W : World} {R n c : Nat} {A : Option Addr} {t : TypeId} {xs : List Value} (h : W.ownsRow w.heap.size t 2 (.slice A n c) n xs) (hlt : R < w.heap.size) : ∀ b o, A = some ⟨b, o, none⟩ → b ≠ R := by
  rintro b o rfl
  rcases h.2 with ⟨h0, _⟩ | ⟨g', cap', cur', e1, e2, -⟩
  · cases h0
  · injection e1 with e1 _ _
    injection e1 with e1
    injection e1 with e1 _ _
    omega
theorem len_small {n : Nat} (h : n ≤ 1000 := by omega) : n ≤ maxLen := by unfold maxLen; omega
set_option maxHeartbeats 4000000 in
theorem l20Expr_any (w : World) (B R : Nat) (p n : Int) (h : Rd w B R p) (hp : p ≤ 10000000) (hn : n ≤ 1000000) (hn0 : 0 ≤ n) :
    Calls Try.prog 49 #[.pointer (some ⟨R, 0, none⟩), .int .i64 n] w (ExprD w B R p) := by
  have hlt := h.lt
  go_enter Try.func49, Try.ntmps49
  go_wp2_with fail
  refine (pick_any _ B R p 3 h (by omega) (by omega)).mono ?_
  rintro r w1 ⟨k, rfl, k0, k1, hR1, hg1⟩
  have k2 := k1 (by omega)
  clear k1
  obtain ⟨kn, rfl⟩ := Int.eq_ofNat_of_zero_le k0
  obtain ⟨d, hd⟩ : ∃ d : Nat, 1 + (kn : Int) = (d : Int) ∧ d ≤ 3 := ⟨kn + 1, by omega, by omega⟩
  obtain ⟨hd1, hd3⟩ := hd
  have hmk := mkLen_bd hd3
  obtain ⟨hq0, hq1⟩ := mkQ_bd hd3
  go_wp2_with fail
  refine (l20Make_any d hd3 _ B R (p + 1) hR1 (by omega)).mono ?_
  rintro r w2 ⟨e, v, q, rfl, he1, he2, hown, hq2, hq3, hR2, hg2⟩
  have hgg := only_trans hg1 hg2
  have hz1 := hg1.size
  have hO := own_low hown hz1
  obtain ⟨A, c, rfl, hSL⟩ := SL_own hO (by unfold maxLen; omega)
  have HO := hide hO
  have HSL := hide hSL
  clear hown hO hSL hg1 hg2 hd1
  go_wp2_with fail
  refine (odd_any _ B R q n hR2 (by omega) (by omega) hn0).mono ?_
  rintro r w3 ⟨o, q3, rfl, hq4, hq5, hR3, hg3⟩
  have hgg3 := only_trans hgg hg3
  have HO3 := hide (own_reader (unhide HO) hg3 hlt)
  have hSL3 := SL_own (unhide HO3) (by unfold maxLen; omega)
  obtain ⟨A', c', hvv, hSL3⟩ := hSL3
  injection hvv with r1 r2 r3
  subst r1; subst r3
  have HSL3 := hide hSL3
  clear hSL3
  cases o
  · go_wp2
    go_ret
    exact ⟨e, A, c, q3, rfl, .inl (by omega), unhide HSL3, ⟨by omega, own_neR (unhide HO3) hlt⟩, by omega, hR3, hgg3⟩
  · go_wp2_with fail
    refine (pick_any _ B R q3 4 hR3 (by omega) (by omega)).mono ?_
    rintro r w4 ⟨j, rfl, j0, j1, hR4, hg4⟩
    have j2 := j1 (by omega)
    clear j1
    have hgg4 := only_trans hgg3 hg4
    have HO4 := hide (own_reader (unhide HO3) hg4 hlt)
    have hSL4 := SL_own (unhide HO4) (by unfold maxLen; omega)
    obtain ⟨A', c', hvv, hSL4⟩ := hSL4
    injection hvv with r1 r2 r3
    subst r1; subst r3
    have HSL4 := hide hSL4
    have hz4 := hgg4.size
    clear hSL4
    by_cases hj0 : j = 0
    · subst hj0
      obtain ⟨p0, e', rfl⟩ : ∃ p0 e', e = p0 :: e' := by
        cases e with
        | nil => simp at he1
        | cons a b => exact ⟨a, b, rfl⟩
      obtain ⟨b, off, eA, -⟩ := (unhide HSL4).1.addr (by omega)
      subst eA
      have ht := (unhide HSL4).tail
      have hcc := (unhide HSL4).2.1
      have hcm := (unhide HSL4).2.2.1
      unfold maxLen at hcm
      simp only [List.length_cons] at ht hcc he1 he2 ⊢
      have HT := hide ht
      have n1 : (1 : Int) ≤ (c : Int) := by omega
      have n2 : (1 : Int) ≤ ((e'.length + 1 : Nat) : Int) := by omega
      clear ht
      by_cases hc1 : c = 1
      · subst hc1
        have e0 : e' = [] := by
          cases e' with
          | nil => rfl
          | cons a b => simp at hcc
        subst e0
        go_wp2
        go_ret
        exact ⟨[], _, _, q3 + 1, rfl, .inl (by simp), ⟨PS.nil, Nat.le_refl _, by simp [maxLen], by intro h; cases h⟩, ⟨by omega, own_neR (unhide HO4) hlt⟩, by omega, hR4, hgg4⟩
      · go_wp2
        go_ret
        have ht := unhide HT
        rw [if_neg hc1, Nat.add_sub_cancel] at ht
        exact ⟨e', _, _, q3 + 1, rfl, .inl (by omega), ht, ⟨by omega, fun b' o' h' => by injection h' with h'; injection h' with h1 h2 _; subst h1; exact own_neR (unhide HO4) hlt _ _ rfl⟩, by omega, hR4, hgg4⟩
    · have ej0 : (j == 0) = false := by simpa using hj0
      by_cases hj1 : j = 1
      · subst hj1
        go_wp2_with fail
        refine (l20Part_any _ B R (q3 + 1) 1 hR4 (by omega) (by omega) (by omega)).mono ?_
        rintro r w5 ⟨pk, pl, q5, rfl, -, -, -, -, hq6, hq7, hR5, hg5⟩
        have hgg5 := only_trans hgg4 hg5
        have HO5 := hide (own_reader (unhide HO4) hg5 hlt)
        go_wp2_with (at_builtin; refine wpList_append_parts rfl (.tmp 29) (.tmp 32) rfl w.heap.size (w5.heap.size + 1) (.slice A e.length c) e.length e rfl ((unhide HO5).alloc _) (some ⟨w5.heap.size, 0, none⟩) 1 1 [(pk, pl)] rfl (fun h => nomatch h) (PS.one _ _ _ _ _ (Nat.lt_succ_self _)) ?_ ?_ ?_; go_must (omega); go_must (exact le_alloc' hgg5.size); (intro v6 w6 hown6 hgrow6; obtain ⟨A6, c6, hv6, hSL6⟩ := SL_own hown6 (by unfold maxLen; omega); subst hv6))
        go_ret
        obtain ⟨r1, r2⟩ := make_end hlt (unhide HO5) hR5 hgg5 hgrow6
        exact ⟨e ++ [(pk, pl)], A6, c6, q5, by simp, .inl (by simp; omega), by simpa using hSL6, ⟨by omega, own_neR hown6 hlt⟩, by omega, r1, r2⟩
      · have ej1 : (j == 1) = false := by simpa using hj1
        by_cases hj2 : j = 2
        · subst hj2
          go_wp2_with (at_builtin; refine wpList_append_parts rfl (.tmp 36) (.tmp 38) rfl w.heap.size (w4.heap.size + 1) (.slice A e.length c) e.length e rfl ((unhide HO4).alloc _) (some ⟨w4.heap.size, 0, none⟩) 1 1 [(2, 0)] rfl (fun h => nomatch h) (PS.one _ _ _ _ _ (Nat.lt_succ_self _)) ?_ ?_ ?_; go_must (omega); go_must (exact le_alloc' hgg4.size); (intro v6 w6 hown6 hgrow6; obtain ⟨A6, c6, hv6, hSL6⟩ := SL_own hown6 (by unfold maxLen; omega); subst hv6))
          go_ret
          obtain ⟨r1, r2⟩ := make_end hlt (unhide HO4) hR4 hgg4 hgrow6
          exact ⟨e ++ [(2, 0)], A6, c6, q3 + 1, by simp, .inl (by simp; omega), by simpa using hSL6, ⟨by omega, own_neR hown6 hlt⟩, by omega, r1, r2⟩
        · have ej2 : (j == 2) = false := by simpa using hj2
          go_wp2
          go_loopw [5] (fun v wr => ∃ (f : List Pt) (A : Option Addr) (c : Nat), v = .slice A f.length c ∧ f.length ≤ 61 ∧ wr.ownsRow w.heap.size 37 2 (.slice A f.length c) f.length (flatV f) ∧ Rd wr B R (q3 + 1) ∧ w.grownBy wr (some R)) (fun v _ => 61 - sliceLen v)
          case atStart => exact ⟨e, A, c, rfl, by omega, unhide HO4, hR4, hgg4⟩
          case round =>
            obtain ⟨f, Af, cf, rfl, hf, hown, hRr, hgr⟩ := hrel
            have HOf := hide hown
            clear hown
            by_cases hlt61 : f.length ≤ 60
            · have hi61 : ((f.length : Nat) : Int) ≤ 60 := by omega
              go_wp2_with (at_builtin; refine wpList_append_parts rfl (.tmp 19) (.tmp 21) rfl w.heap.size (wr.heap.size + 1) (.slice Af f.length cf) f.length f rfl ((unhide HOf).alloc _) (some ⟨wr.heap.size, 0, none⟩) 1 1 [(8, 0)] rfl (fun h => nomatch h) (PS.one _ _ _ _ _ (Nat.lt_succ_self _)) ?_ ?_ ?_; go_must (omega); go_must (exact le_alloc' hgr.size); (intro v6 w6 hown6 hgrow6; obtain ⟨A6, c6, hv6, hSL6⟩ := SL_own hown6 (by unfold maxLen; omega); subst hv6))
              obtain ⟨r1, r2⟩ := make_end hlt (unhide HOf) hRr hgr hgrow6
              go_roundw
              case rel => exact ⟨f ++ [(8, 0)], A6, c6, by simp, by simp; omega, by simpa using hown6, r1, r2⟩
              case measure => simp [sliceLen]; omega
            · have h61 : f.length = 61 := by omega
              have hi61 : ¬ ((f.length : Nat) : Int) ≤ 60 := by omega
              have hSLf := SL_own (unhide HOf) (by unfold maxLen; omega)
              obtain ⟨A', c', hvv, hSLf⟩ := hSLf
              injection hvv with r1 r2 r3
              subst r1; subst r3
              have HSf := hide hSLf
              have H61 := Lib.hid h61
              clear hSLf h61
              go_wp2
              go_ret
              exact ⟨f, Af, cf, q3 + 1, rfl, .inr H61.out, unhide HSf, ⟨by omega, own_neR (unhide HOf) hlt⟩, by omega, hRr, hgr⟩
end Go.Proofs.Ytgcggmlekmjpdaa
