/-
  Reading texts of expressions: the program's walk, leaves and brackets, stars.
-/
import Derived.Test.YtglffbkldffipaaIRead
namespace Go.Proofs.Ytglffbkldffipaa
open Go.RowKit
set_option linter.unusedVariables false
set_option maxRecDepth 100000

set_option maxHeartbeats 4000000 in
theorem atom_any {f : Nat} (ih : LevelC f) : AtomC (f + 1) := by
  intro w R s h hs hf
  have hc0 := h.c0
  have hc1 := h.c1
  have hf0 := h.f0
  have hf1 := h.f1
  by_cases h0 : 0 < s.size
  · obtain ⟨v, hv⟩ : ∃ v : Int, (s[0].toNat : Int) = v := ⟨_, rfl⟩
    have hb := byte_lt s[0]
    rw [hv] at hb
    have hb0 : 0 ≤ v := by omega
    have HN := next_any w R s false h hs
    rw [nxI_at h0, hv] at HN
    have H48 := Lib.hid (fun h : v = 48 => five_48 (J := begC) (f := f) h0 (by rw [hv]; exact h))
    have H49 := Lib.hid (fun h : v = 49 => five_49 (J := begC) (f := f) h0 (by rw [hv]; exact h))
    have HLT := Lib.hid (fun (h : 97 ≤ v) (h' : v ≤ 99) => five_let (J := begC) (f := f) h0 (by rw [hv]; exact h) (by rw [hv]; exact h'))
    rw [hv] at HLT
    have H40 := Lib.hid (fun h : v = 40 => five_open (J := begC) (f := f) h0 (by rw [hv]; exact h))
    have HBD := Lib.hid (fun h1 h2 h3 h4 => five_bad (J := begC) (f := f) h0 (by rw [hv]; exact h1) (by rw [hv]; exact h2) (by rw [hv]; exact h3) (by rw [hv]; exact h4))
    have hlen0 : (0 : Int) < (s.size : Int) := by omega
    have h1s : 1 ≤ s.size := h0
    have E0 := h.set0 (s.extract 1 s.size)
    have G0 := only_cell w R 0 (.string (s.extract 1 s.size))
    by_cases cz : v = 0
    · subst cz
      have HB0 := Lib.hid (HBD.out (by omega) (by omega) (by omega) (by omega))
      go_enter Try.func67, Try.ntmps67
      go_wp2_with fail
      refine HN.mono ?_
      rintro r w1 ⟨rfl, rfl⟩
      go_wp2
      go_ret
      exact fail_end h (World.grownBy.refl _ _) (Nat.le_refl _) HB0.out
    have gz : (v == 0) = false := by simpa using cz
    by_cases c48 : v = 48
    · subst c48
      go_enter Try.func67, Try.ntmps67
      go_wp2_with fail
      refine HN.mono ?_
      rintro r w1 ⟨rfl, rfl⟩
      go_wp2_with fail
      refine (leaf_any _ 1).mono ?_
      intro r w2 hd
      have hd' := hd
      obtain ⟨v2, rfl, -, -⟩ := hd'
      go_wp2
      go_ret
      exact leaf_end E0 G0 h0 hd (H48.out (by trivial))
    by_cases c49 : v = 49
    · subst c49
      go_enter Try.func67, Try.ntmps67
      go_wp2_with fail
      refine HN.mono ?_
      rintro r w1 ⟨rfl, rfl⟩
      go_wp2_with fail
      refine (leaf_any _ 2).mono ?_
      intro r w2 hd
      have hd' := hd
      obtain ⟨v2, rfl, -, -⟩ := hd'
      go_wp2
      go_ret
      exact leaf_end E0 G0 h0 hd (H49.out (by trivial))
    have g1 : (v == 48) = false := by simpa using c48
    have g2 : (v == 49) = false := by simpa using c49
    rcases clt : inB v 97 99
    · have hcl := inB_false.1 clt
      by_cases c40 : v = 40
      · subst c40
        have HI := ih (w.setCell ⟨R, 0, none⟩ (.string (s.extract 1 s.size))) R 0 1 (s.extract 1 s.size) rfl (by omega) E0 (by have := cut_size s; omega) (by have := cut_size s; unfold needR at hf ⊢; omega)
        have HF := Lib.hid hf
        clear hf hcl
        go_enter Try.func67, Try.ntmps67
        go_wp2_with (first
          | (go_at_call 57; refine HN.mono ?_; rintro r w1 ⟨rfl, rfl⟩)
          | (go_at_call 70; refine (within_any _ _ _ _).mono ?_; rintro r w1 ⟨rfl, rfl⟩; rw [clt]))
        refine HI.mono ?_
        rintro r w2 ⟨e, v2, s2, b2, rfl, hown, hE, hg, hsz, hR⟩
        have hs2 : s2.size ≤ 119 := by have := cut_size s; omega
        have hcz := cut_size s
        have HCZ := Lib.hid hcz
        have HSZ := Lib.hid hsz
        have hg2 := only_trans G0 hg
        have HO := hide hown
        have HR := Lib.hid hR
        have HN2 := next_any w2 R s2 b2 hE (by omega)
        have d0 := hE.c0
        have d1 := hE.c1
        have e0 := hE.f0
        have e1 := hE.f1
        clear hown hR hsz
        by_cases c41 : nxI s2 b2 = 41
        · obtain ⟨hb2, h2p⟩ := nxI_pos (s := s2) (b := b2) (by rw [c41]; decide)
          have HB2 := Lib.hid hb2
          have h2v : (s2[0].toNat : Int) = 41 := by rw [← nxI_at h2p]; rw [hb2] at c41; exact c41
          have HV2 := Lib.hid h2v
          rw [c41] at HN2
          have l2 : (0 : Int) < (s2.size : Int) := by omega
          have l3 : 1 ≤ s2.size := h2p
          have H2P := Lib.hid h2p
          clear c41 hb2
          go_wp2_with (first
            | (go_at_call 57; refine HN2.mono ?_; rintro r w3 ⟨rfl, rfl⟩))
          go_ret
          have E2 := hE.set0 (s2.extract 1 s2.size)
          rw [HB2.out] at E2
          have hz2 := cut_size s2
          rcases HR.out with ⟨hbt, -, -⟩ | ⟨-, r2, r3, r4⟩
          · rw [HB2.out] at hbt; cases hbt
          · refine ⟨e, v2, _, false, rfl, own_reader (own_low (unhide HO) (by rw [size_cell]; exact Nat.le_refl _)) (only_cell w2 R 0 _) h.lt, E2, only_trans hg2 (only_cell _ _ _ _), by have := HSZ.out; omega, .inr ⟨rfl, by omega, by omega, ?_⟩⟩
            rw [H40.out (by trivial), show dr s 1 = dr (s.extract 1 s.size) 0 from (cut_dr s).symm, r4, show dr s2 0 = s2[0] :: dr s2 1 from dr_cons H2P.out]
            rw [show dr (s2.extract 1 s2.size) 0 = dr s2 1 from cut_dr s2]
            exact if_pos (show s2[0] = 41 from byte_eq (n := 41) (by omega) HV2.out)
        · have c41' : (nxI s2 b2 == 41) = false := by simpa using c41
          have HC := Lib.hid c41
          obtain ⟨N0, N1⟩ := nxI_bd s2 b2
          generalize hNX : nxI s2 b2 = nx at *
          have HNX := Lib.hid hNX
          clear hNX c41
          go_wp2_with (first
            | (go_at_call 57; refine HN2.mono ?_; rintro r w3 ⟨rfl, rfl⟩))
          go_ret
          refine fail_end hE hg2 (by have := HSZ.out; have := HCZ.out; omega) ?_
          rw [H40.out (by trivial), show dr s 1 = dr (s.extract 1 s.size) 0 from (cut_dr s).symm]
          rcases HR.out with ⟨-, -, r4⟩ | ⟨hbf, r2, r3, r4⟩
          · rw [r4]
          · rw [r4]
            by_cases h2p : 0 < s2.size
            · rw [dr_cons h2p]
              have h41 : (s2[0].toNat : Int) ≠ 41 := by
                have := HNX.out
                rw [hbf, nxI_at h2p] at this
                rw [this]; exact HC.out
              simp only [if_neg (byte_ne (d := 41) (show (s2[0].toNat : Int) ≠ ((41 : Nat) : Int) from h41))]
            · rw [dr_end h2p]
      · have g3 : (v == 40) = false := by simpa using c40
        have HB2 := Lib.hid (HBD.out c48 c49 hcl c40)
        clear hcl
        go_enter Try.func67, Try.ntmps67
        go_wp2_with (first
          | (go_at_call 57; refine HN.mono ?_; rintro r w1 ⟨rfl, rfl⟩)
          | (go_at_call 70; refine (within_any _ _ _ _).mono ?_; rintro r w1 ⟨rfl, rfl⟩; rw [clt]))
        go_ret
        exact fail_end E0 G0 (by rw [cut_size]; omega) HB2.out
    · obtain ⟨l0, l1⟩ := inB_true.1 clt
      have HOW : Hid (OwnD (w.setCell ⟨R, 0, none⟩ (.string (s.extract 1 s.size))) [(3, v - 97)] (.returned (.slice (some ⟨w.heap.size, 0, none⟩) 1 1)) ((w.setCell ⟨R, 0, none⟩ (.string (s.extract 1 s.size))).alloc (pbox 3 (v - 97)))) := by
        refine ⟨_, rfl, ?_, (Below.refl _ _).alloc (Nat.le_refl _) _⟩
        have h := own_one (w.setCell ⟨R, 0, none⟩ (.string (s.extract 1 s.size))) (w.setCell ⟨R, 0, none⟩ (.string (s.extract 1 s.size))).heap.size 3 (v - 97) (Nat.le_refl _)
        rw [size_cell] at h ⊢
        exact h
      go_enter Try.func67, Try.ntmps67
      go_wp2_with (first
        | (go_at_call 57; refine HN.mono ?_; rintro r w1 ⟨rfl, rfl⟩)
        | (go_at_call 70; refine (within_any _ _ _ _).mono ?_; rintro r w1 ⟨rfl, rfl⟩; rw [clt]))
      go_ret
      exact leaf_end E0 G0 h0 (unhide HOW) (HLT.out l0 l1)
  · have HN := next_any w R s false h hs
    rw [nxI_end (by rintro ⟨-, h⟩; exact h0 h)] at HN
    have HB0 := Lib.hid (five_end (J := begC) (f := f) h0)
    go_enter Try.func67, Try.ntmps67
    go_wp2_with fail
    refine HN.mono ?_
    rintro r w1 ⟨rfl, rfl⟩
    go_wp2
    go_ret
    exact fail_end h (World.grownBy.refl _ _) (Nat.le_refl _) HB0.out
/-- In the loops: e is read and s' is left, or it has failed. -/
def ILoP (f l : Nat) (s : ByteArray) (e : List Pt) (s' : ByteArray) (b : Bool) : Prop :=
  (b = true ∧ e.length ≤ 2 * s.size ∧ rdT begC (f + 1) l (dr s 0) = none) ∨
  (b = false ∧ ∃ g, s'.size < s.size ∧ e.length + 1 ≤ 2 * (s.size - s'.size) ∧ needL s'.size ≤ g + 1 ∧ g + 1 ≤ f ∧ rdT begC (f + 1) l (dr s 0) = loT begC (g + 1) l e (dr s' 0))
theorem ILoP.start {f l : Nat} {s s' : ByteArray} {e : List Pt} {b : Bool} (hl : l ≤ 4) (hf : needR s.size l ≤ f + 1) (hlow : rdT begC (f + 1) l (dr s 0) = match rdT begC f (l + 1) (dr s 0) with | none => none | some (e, q) => loT begC f l e q)
    (h : IRdP f (l + 1) s e s' b) : ILoP f l s e s' b := by
  rcases h with ⟨rfl, h2, h3⟩ | ⟨rfl, h2, h3, h4⟩
  · exact .inl ⟨rfl, h2, by rw [hlow, h3]⟩
  · obtain ⟨g, rfl⟩ : ∃ g, f = g + 1 := ⟨f - 1, by unfold needR at hf; omega⟩
    exact .inr ⟨rfl, g, h2, h3, by unfold needR at hf; unfold needL; omega, Nat.le_refl _, by rw [hlow, h4]⟩
theorem ILoP.bd {f l : Nat} {s s' : ByteArray} {e : List Pt} {b : Bool} (h : ILoP f l s e s' b) (hs : s.size ≤ 120) : e.length ≤ 240 := by
  rcases h with ⟨-, h, -⟩ | ⟨-, g, h1, h2, -⟩ <;> omega
theorem ILoP.done {f l : Nat} {s s' : ByteArray} {e : List Pt} (h : ILoP f l s e s' true) : IRdP (f + 1) l s e s' true := by
  rcases h with ⟨-, h2, h3⟩ | ⟨hb, -⟩
  · exact .inl ⟨rfl, h2, h3⟩
  · cases hb
theorem ILoP.stop {f l : Nat} {s s' : ByteArray} {e : List Pt} (h : ILoP f l s e s' false) (hst : ∀ g, loT begC (g + 1) l e (dr s' 0) = some (e, dr s' 0)) : IRdP (f + 1) l s e s' false := by
  rcases h with ⟨hb, -⟩ | ⟨-, g, h1, h2, h3, h4, h5⟩
  · cases hb
  · exact .inr ⟨rfl, h1, h2, by rw [h5, hst]⟩
theorem ILoP.star {f : Nat} {s s' : ByteArray} {e : List Pt} (h : ILoP f 4 s e s' false) (h0 : 0 < s'.size) (hv : (s'[0].toNat : Int) = 42) : ILoP f 4 s (e ++ [(8, 0)]) (s'.extract 1 s'.size) false := by
  rcases h with ⟨hb, -⟩ | ⟨-, g, h1, h2, h3, h4, h5⟩
  · cases hb
  · have hz := cut_size s'
    obtain ⟨g', rfl⟩ : ∃ g', g = g' + 1 := ⟨g - 1, by unfold needL at h3; omega⟩
    refine .inr ⟨rfl, g', by omega, by simp; omega, by unfold needL at h3 ⊢; omega, by omega, ?_⟩
    rw [h5, lo_star h0 hv, show dr (s'.extract 1 s'.size) 0 = dr s' 1 from cut_dr s']
/-- A row of one slice, of two, as an operation's operands. -/
theorem RowS.one' {W : World} {A1 : Option Addr} {N1 c1 : Nat} {e1 : List Pt} {t : TypeId} (h1 : SL W W.heap.size A1 N1 c1 e1) :
    RowS (W.alloc (.cells #[.slice A1 N1 c1] t)) (W.alloc (.cells #[.slice A1 N1 c1] t)).heap.size (some ⟨W.heap.size, 0, none⟩) 1 [(A1, N1, c1, e1)] :=
  RowS.one (heap_alloc_new W _) (h1.up ((Below.refl _ _).alloc (Nat.le_refl _) _)) _ (Below.refl _ _)
theorem loop_bound {w wr W w2 : World} {R : Nat} {x : List Pt} {r : Ending} (hg : w.grownBy wr (some R)) (hgW : wr.grownBy W (some R)) (h : OwnD W x r w2) : ∃ v, r = .returned v ∧ w2.ownsRow w.heap.size 36 2 v x.length (flatV x) ∧ w.grownBy w2 (some R) ∧ Below W.heap.size W w2 := by
  obtain ⟨v, rfl, h1, h2⟩ := h
  exact ⟨v, rfl, own_low h1 (Nat.le_trans hg.size hgW.size), only_below' (only_trans hg hgW) h2, h2⟩
set_option maxHeartbeats 4000000 in
theorem star_any {f : Nat} (ih : AtomC f) : StarC (f + 1) := by
  intro w R s h hs hf
  have HI := ih w R s h hs (by unfold needR at hf ⊢; omega)
  have HLOW := Lib.hid (low_at (J := begC) (s := s) (f := f) (a := 0) (l := 4) (by omega) (by omega))
  have HF := Lib.hid hf
  have hRw := h.lt
  clear hf
  go_enter Try.func58, Try.ntmps58
  go_wp2_with fail
  refine HI.mono ?_
  rintro r w1 ⟨e1, v1, s1, b1, rfl, hown1, hE1, hg1, hz1, hR1⟩
  have HL1 := Lib.hid (ILoP.start (by omega) HF.out HLOW.out hR1)
  have HO1 := hide hown1
  have HE1 := hide hE1
  clear hown1 hR1 hE1
  go_wp2
  go_loopw [3] (fun ev wr => ∃ (e : List Pt) (A : Option Addr) (c : Nat) (s' : ByteArray) (b : Bool), ev = .slice A e.length c ∧ Hid (wr.ownsRow w.heap.size 36 2 (.slice A e.length c) e.length (flatV e)) ∧ Hid (Er wr R s' b) ∧ w.grownBy wr (some R) ∧ s'.size ≤ s.size ∧ Hid (ILoP f 4 s e s' b)) (fun _ wr => match wr.cell? ⟨R, 0, none⟩ with | some (.string x) => x.size | _ => 0)
  case atStart =>
    obtain ⟨A, c, hv, -⟩ := SL_own (unhide HO1) (by have := HL1.out.bd hs; unfold maxLen; omega)
    subst hv
    exact ⟨e1, A, c, s1, b1, rfl, HO1, HE1, hg1, hz1, HL1⟩
  case round =>
    obtain ⟨e, A, c, s', b, rfl, HO, HE, hg, hz, HL⟩ := hrel
    have hel := HL.out.bd hs
    have hs' : s'.size ≤ 120 := Nat.le_trans hz hs
    have HN := next_any wr R s' b (unhide HE) hs'
    have hRr := (unhide HE).lt
    have hc0 := (unhide HE).c0
    have hf0 := (unhide HE).f0
    obtain ⟨N0, N1⟩ := nxI_bd s' b
    by_cases h42 : nxI s' b = 42
    · obtain ⟨hb, h0⟩ := nxI_pos (s := s') (b := b) (by rw [h42]; decide)
      have hv : (s'[0].toNat : Int) = 42 := by rw [← nxI_at h0]; rw [hb] at h42; exact h42
      rw [h42] at HN
      subst hb
      have HL2 := Lib.hid (HL.out.star h0 hv)
      have E2 := (unhide HE).set0 (s'.extract 1 s'.size)
      have G2 := only_cell wr R 0 (.string (s'.extract 1 s'.size))
      have O2 := own_reader (unhide HO) G2 hRw
      have S2 := SL_own' O2 (by unfold maxLen; omega)
      have hlt0 : (0 : Int) < (s'.size : Int) := by omega
      have h1s : 1 ≤ s'.size := h0
      have HR2 := RowS.one' (t := 27) S2
      have G3 := only_alloc G2 (.cells #[.slice A e.length c] 27)
      have HOP := operation_any _ _ 1 1 _ 8 HR2 (by omega) (by simp [cats]; omega)
      rw [size_cell] at HOP
      have HV := Lib.hid hv
      have H0 := Lib.hid h0
      clear h42 hv
      go_wp2_with (first
        | (go_at_call 57; refine HN.mono ?_; rintro r w2 ⟨rfl, rfl⟩))
      refine HOP.mono ?_
      intro r w3 hd
      obtain ⟨v3, rfl, hown3, hg3, hb3⟩ := loop_bound hg G3 hd
      have E3 := (E2.al _).keep hb3
      have hzc := cut_size s'
      have hcats : cats [(A, e.length, c, e)] ++ [((8 : Int), (0 : Int))] = e ++ [(8, 0)] := by simp [cats]
      rw [hcats] at hown3
      have hel2 := HL2.out.bd hs
      obtain ⟨A3, c3, hv3, -⟩ := SL_own hown3 (by unfold maxLen; omega)
      subst hv3
      go_wp2
      go_roundw
      case rel => exact ⟨e ++ [(8, 0)], A3, c3, _, false, by rw [List.length_append]; rfl, Lib.hid hown3, Lib.hid E3, hg3, by omega, HL2⟩
      case measure => rw [E3.c0, hc0]; show (s'.extract 1 s'.size).size < s'.size; omega
    · have h42' : (nxI s' b == 42) = false := by simpa using h42
      have HFIN : Hid (IRdP (f + 1) 4 s e s' b) := by
        rcases b with _ | _
        · refine HL.out.stop fun g => ?_
          by_cases h0 : 0 < s'.size
          · exact lo_stop h0 (fun _ => by rw [← nxI_at h0]; exact h42) (by omega) (by omega) (by omega)
          · exact lo_end h0
        · exact HL.out.done
      generalize nxI s' b = nx at *
      go_wp2_with (first
        | (go_at_call 57; refine HN.mono ?_; rintro r w2 ⟨rfl, rfl⟩))
      go_ret
      exact ⟨e, _, s', b, rfl, unhide HO, unhide HE, hg, hz, HFIN.out⟩
end Go.Proofs.Ytglffbkldffipaa
