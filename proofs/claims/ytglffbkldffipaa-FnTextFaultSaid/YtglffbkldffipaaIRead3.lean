/-
  Reading texts of expressions: the program's walk, the levels.
-/
import Derived.Test.YtglffbkldffipaaIRead2
import Derived.Test.YtglffbkldffipaaFault
import Derived.Test.YtglffbkldffipaaPrint
namespace Go.Proofs.Ytglffbkldffipaa
open Go.RowKit
set_option linter.unusedVariables false
set_option maxRecDepth 100000

structure ILoAt (f l : Nat) (s : ByteArray) (e : List Pt) (s' : ByteArray) (g : Nat) : Prop where
  lt : s'.size < s.size
  len : e.length + 1 ≤ 2 * (s.size - s'.size)
  need : needL s'.size ≤ g + 1
  fuel : g + 1 ≤ f
  eq : rdT begC (f + 1) l (dr s 0) = loT begC (g + 1) l e (dr s' 0)
theorem ILoP.at {f l : Nat} {s s' : ByteArray} {e : List Pt} (h : ILoP f l s e s' false) : ∃ g, ILoAt f l s e s' g := by
  rcases h with ⟨hb, -⟩ | ⟨-, g, h1, h2, h3, h4, h5⟩
  · cases hb
  · exact ⟨g, h1, h2, h3, h4, h5⟩
theorem ILoAt.bin {f l m g : Nat} {s s' p s2 : ByteArray} {e x : List Pt} {k : Int} {b : Bool} (h : ILoAt f l s e s' g) (hp : p.size ≤ s'.size) (hp1 : s'.size ≤ p.size + 1)
    (hq : loT begC (g + 1) l e (dr s' 0) = match rdT begC g m (dr p 0) with | none => none | some (x, q2) => loT begC g l (e ++ x ++ [(k, 0)]) q2)
    (hx : IRdP g m p x s2 b) : ILoP f l s (e ++ x ++ [(k, 0)]) s2 b := by
  obtain ⟨h1, h2, h3, h4, h5⟩ := h
  rcases hx with ⟨rfl, x2, x3⟩ | ⟨rfl, x2, x3, x4⟩
  · exact .inl ⟨rfl, by simp; omega, by rw [h5, hq, x3]⟩
  · obtain ⟨g', rfl⟩ : ∃ g', g = g' + 1 := ⟨g - 1, by unfold needL at h3; omega⟩
    exact .inr ⟨rfl, g', by omega, by simp; omega, by unfold needL at h3 ⊢; omega, by omega, by rw [h5, hq, x4]⟩
theorem Er.start_low {f l : Nat} {s s' : ByteArray} {e : List Pt} {b : Bool} (hl : l ≤ 2) (hf : needR s.size l ≤ f + 1) (h : IRdP f (l + 1) s e s' b) : ILoP f l s e s' b :=
  ILoP.start (by omega) hf (low_at (by omega) (by omega)) h
/-- Is it a byte that begins an operand? -/
def begV (v : Int) : Bool := decide (v = 48 ∨ v = 49 ∨ v = 97 ∨ v = 98 ∨ v = 99 ∨ v = 40 ∨ v = 33)
theorem firstIdx_beg (v : Int) (h0 : 0 ≤ v) (h1 : v < 256) : ∃ i : Int, firstIdx ⟨#[48, 49, 97, 98, 99, 40, 33]⟩ v.toNat.toUInt8 = i ∧ decide (0 ≤ i) = begV v := by
  refine ⟨_, rfl, ?_⟩
  obtain ⟨n, rfl⟩ := Int.eq_ofNat_of_zero_le h0
  have hn : n < 256 := by omega
  have : ∀ n : Fin 256, decide (0 ≤ firstIdx ⟨#[48, 49, 97, 98, 99, 40, 33]⟩ (((n.val : Nat) : Int)).toNat.toUInt8) = begV ((n.val : Nat) : Int) := by decide +kernel
  exact this ⟨n, hn⟩
theorem begC_at {c : UInt8} {v : Int} (h : (c.toNat : Int) = v) : begC c = begV v := by
  subst h
  have hc := byte_lt c
  have : ∀ n : Fin 256, begC (UInt8.ofNat n) = begV ((n.val : Nat) : Int) := by decide +kernel
  have h2 := this ⟨c.toNat, by omega⟩
  simp only [UInt8.ofNat_toNat] at h2
  exact h2
theorem kind_at (W : World) : (Instr.index 81 (.agg #[.int .i64 0, .int .i64 5, .int .i64 6, .int .i64 4]) (.int .i64 1)).run Try.prog W = .ok (.int .i64 5) W ∧
    (Instr.index 81 (.agg #[.int .i64 0, .int .i64 5, .int .i64 6, .int .i64 4]) (.int .i64 2)).run Try.prog W = .ok (.int .i64 6) W ∧
    (Instr.index 81 (.agg #[.int .i64 0, .int .i64 5, .int .i64 6, .int .i64 4]) (.int .i64 3)).run Try.prog W = .ok (.int .i64 4) W :=
  ⟨by kernel_rfl, by kernel_rfl, by kernel_rfl⟩
/-- How far the loop still goes. -/
def roM (R : Nat) (w : World) : Nat := match w.cell? ⟨R, 1, none⟩, w.cell? ⟨R, 0, none⟩ with
  | some (.bool false), some (.string x) => x.size + 1
  | _, _ => 0
theorem roM_on {w : World} {R : Nat} {s : ByteArray} (h : Er w R s false) : roM R w = s.size + 1 := by
  unfold roM; rw [h.c0, h.c1]
theorem roM_off {w : World} {R : Nat} {s : ByteArray} (h : Er w R s true) : roM R w = 0 := by
  unfold roM; rw [h.c0, h.c1]
theorem RowS.two' {W : World} {A1 A2 : Option Addr} {N1 c1 N2 c2 : Nat} {e1 e2 : List Pt} {t : TypeId} (h1 : SL W W.heap.size A1 N1 c1 e1) (h2 : SL W W.heap.size A2 N2 c2 e2) :
    RowS (W.alloc (.cells #[.slice A1 N1 c1, .slice A2 N2 c2] t)) (W.alloc (.cells #[.slice A1 N1 c1, .slice A2 N2 c2] t)).heap.size (some ⟨W.heap.size, 0, none⟩) 2 [(A1, N1, c1, e1), (A2, N2, c2, e2)] :=
  RowS.two (fr := (0, 0)) (heap_alloc_new W _) (h1.up ((Below.refl _ _).alloc (Nat.le_refl _) _)) (h2.up ((Below.refl _ _).alloc (Nat.le_refl _) _)) _ (Below.refl _ _)
theorem cats_two {A A2 : Option Addr} {n c n2 c2 : Nat} {e x : List Pt} {k : Int} : cats [(A, n, c, e), (A2, n2, c2, x)] ++ [(k, 0)] = e ++ x ++ [(k, 0)] := by simp [cats]
theorem low_star {f : Nat} {s s' : ByteArray} {e : List Pt} {b : Bool} (hs : s.size ≤ 120) (hf : needR s.size 3 ≤ f + 1) (h33 : ∀ h : 0 < s.size, (s[0].toNat : Int) ≠ 33) (h : IRdP f 4 s e s' b) : IRdP (f + 1) 3 s e s' b := by
  have hlow := low_at (J := begC) (s := s) (f := f) (a := 0) (l := 3) (by omega) (fun _ => h33)
  obtain ⟨g, rfl⟩ : ∃ g, f = g + 1 := ⟨f - 1, by unfold needR at hf; omega⟩
  rcases h with ⟨rfl, h2, h3⟩ | ⟨rfl, h2, h3, h4⟩
  · exact .inl ⟨rfl, h2, by rw [hlow, h3]⟩
  · refine .inr ⟨rfl, h2, h3, ?_⟩
    rw [hlow, h4]
    show loT begC (g + 1) 3 e (dr s' 0) = _
    by_cases h0 : 0 < s'.size
    · exact lo_stop h0 (by omega) (by omega) (by omega) (by omega)
    · exact lo_end h0
theorem not_read {f : Nat} {s s' : ByteArray} {e : List Pt} {b : Bool} (h0 : 0 < s.size) (hv : (s[0].toNat : Int) = 33) (h : IRdP f 3 (s.extract 1 s.size) e s' b) : IRdP (f + 1) 3 s (e ++ [(7, 0)]) s' b := by
  have hn := not_at (J := begC) (f := f) h0 hv
  have hz := cut_size s
  have hd : dr s (0 + 1) = dr (s.extract 1 s.size) 0 := (cut_dr s).symm
  rcases h with ⟨rfl, h2, h3⟩ | ⟨rfl, h2, h3, h4⟩
  · exact .inl ⟨rfl, by simp; omega, by rw [hn, hd, h3]⟩
  · exact .inr ⟨rfl, by omega, by simp; omega, by rw [hn, hd, h4]⟩
set_option maxHeartbeats 4000000 in
theorem level_not {f : Nat} (ihL : LevelC f) (ihS : StarC f) (w : World) (R : Nat) (s : ByteArray) (h : Er w R s false) (hs : s.size ≤ 120) (hf : needR s.size 3 ≤ f + 1) :
    Calls Try.prog 39 #[.pointer (some ⟨R, 0, none⟩), .int .i64 4] w (IReadD w R (f + 1) 3 s) := by
  have HN := next_any w R s false h hs
  have hc0 := h.c0
  have hf0 := h.f0
  have hRw := h.lt
  have HBI : Hid (∀ W : World, Calls Try.prog 45 #[.int .i64 7] W fun e w' => e = .returned (.int .i64 4) ∧ W = w') := fun W => binding_any 7 W
  by_cases h33 : nxI s false = 33
  · obtain ⟨-, h0⟩ := nxI_pos (s := s) (b := false) (by rw [h33]; decide)
    have hv : (s[0].toNat : Int) = 33 := by rw [← nxI_at h0]; exact h33
    rw [h33] at HN
    have hlen0 : (0 : Int) < (s.size : Int) := by omega
    have h1s : 1 ≤ s.size := h0
    have hzc := cut_size s
    have E0 := h.set0 (s.extract 1 s.size)
    have G0 := only_cell w R 0 (.string (s.extract 1 s.size))
    have HI := ihL (w.setCell ⟨R, 0, none⟩ (.string (s.extract 1 s.size))) R 3 4 (s.extract 1 s.size) rfl (by omega) E0 (by omega) (by unfold needR at hf ⊢; omega)
    have HF := Lib.hid hf
    have H0 := Lib.hid h0
    have HV := Lib.hid hv
    have HZC := Lib.hid hzc
    clear hf h33 hv hzc
    go_enter Try.func39, Try.ntmps39
    go_wp2_with (first
      | (go_at_call 45; refine ((unhide HBI) _).mono ?_; rintro r w1 ⟨rfl, rfl⟩)
      | (go_at_call 57; refine HN.mono ?_; rintro r w1 ⟨rfl, rfl⟩))
    refine HI.mono ?_
    rintro r w2 ⟨e, v2, s2, b2, rfl, hown, hE, hg, hsz, hR⟩
    have hel := hR.bd
    have HEL := Lib.hid (show e.length ≤ 240 by have := HZC.out; omega)
    obtain ⟨A2, c2, hv2, hs2⟩ := SL_own hown (by have := HEL.out; unfold maxLen; omega)
    subst hv2
    have HOP := operation_any _ _ 1 1 _ 7 (RowS.one' (t := 27) hs2) (by omega) (by have := HEL.out; simp [cats]; omega)
    have HR := Lib.hid hR
    have HSZ := Lib.hid hsz
    clear hel hown hR hs2 hsz
    go_wp2_with fail
    refine HOP.mono ?_
    intro r w3 hd
    obtain ⟨v3, rfl, hown3, hg3, hb3⟩ := loop_bound (only_trans G0 hg) (World.grownBy_alloc w2 _ _) hd
    have hcats : cats [(A2, e.length, c2, e)] ++ [((7 : Int), (0 : Int))] = e ++ [(7, 0)] := by simp [cats]
    rw [hcats] at hown3
    go_wp2
    go_ret
    exact ⟨e ++ [(7, 0)], _, s2, b2, rfl, hown3, (hE.al _).keep hb3, hg3, by have := HSZ.out; have := HZC.out; omega, not_read H0.out HV.out HR.out⟩
  · have h33' : (nxI s false == 33) = false := by simpa using h33
    have h33n : (nxI s false != 33) = true := by simpa using h33
    have HB := Lib.hid (fun h0 : 0 < s.size => show (s[0].toNat : Int) ≠ 33 by rw [← nxI_at h0]; exact h33)
    have HI := ihS w R s h hs (by unfold needR at hf ⊢; omega)
    have HF := Lib.hid hf
    obtain ⟨N0, N1⟩ := nxI_bd s false
    clear hf
    generalize nxI s false = nx at *
    go_enter Try.func39, Try.ntmps39
    go_wp2_with (first
      | (go_at_call 45; refine ((unhide HBI) _).mono ?_; rintro r w1 ⟨rfl, rfl⟩)
      | (go_at_call 57; refine HN.mono ?_; rintro r w1 ⟨rfl, rfl⟩))
    refine HI.mono ?_
    rintro r w2 ⟨e, v2, s2, b2, rfl, hown, hE, hg, hsz, hR⟩
    go_wp2
    go_ret
    exact ⟨e, v2, s2, b2, rfl, hown, hE, hg, hsz, low_star hs HF.out HB.out hR⟩
set_option maxHeartbeats 8000000 in
theorem level_lv0 {f : Nat} (ih : ∀ g, g ≤ f → LevelC g) (w : World) (R : Nat) (s : ByteArray) (h : Er w R s false) (hs : s.size ≤ 120) (hf : needR s.size 0 ≤ f + 1) :
    Calls Try.prog 39 #[.pointer (some ⟨R, 0, none⟩), .int .i64 1] w (IReadD w R (f + 1) 0 s) := by
  have HBI : Hid (∀ W : World, Calls Try.prog 45 #[.int .i64 7] W fun e w' => e = .returned (.int .i64 4) ∧ W = w') := fun W => binding_any 7 W
  have HI := ih f (Nat.le_refl _) w R 1 2 s rfl (by omega) h hs (by unfold needR at hf ⊢; omega)
  have HF := Lib.hid hf
  have hRw := h.lt
  clear hf
  go_enter Try.func39, Try.ntmps39
  go_wp2_with (first
    | (go_at_call 45; refine ((unhide HBI) _).mono ?_; rintro r w1 ⟨rfl, rfl⟩))
  refine HI.mono ?_
  rintro r w1 ⟨e1, v1, s1, b1, rfl, hown1, hE1, hg1, hz1, hR1⟩
  have HL1 := Lib.hid (Er.start_low (by omega) HF.out hR1)
  have HO1 := hide hown1
  have HE1 := hide hE1
  clear hown1 hR1 hE1
  go_wp2
  go_loopw [5] (fun ev wr => ∃ (e : List Pt) (A : Option Addr) (c : Nat) (s' : ByteArray) (b : Bool), ev = .slice A e.length c ∧ Hid (wr.ownsRow w.heap.size 36 2 (.slice A e.length c) e.length (flatV e)) ∧ Hid (Er wr R s' b) ∧ w.grownBy wr (some R) ∧ s'.size ≤ s.size ∧ Hid (ILoP f 0 s e s' b)) (fun _ wr => roM R wr)
  case atStart =>
    obtain ⟨A, c, hv, -⟩ := SL_own (unhide HO1) (by have := HL1.out.bd hs; unfold maxLen; omega)
    subst hv
    exact ⟨e1, A, c, s1, b1, rfl, HO1, HE1, hg1, hz1, HL1⟩
  case round =>
    obtain ⟨e, A, c, s', b, rfl, HO, HE, hg, hz, HL⟩ := hrel
    have hel := HL.out.bd hs
    have hs' : s'.size ≤ 120 := Nat.le_trans hz hs
    have hRr := (unhide HE).lt
    have hc0 := (unhide HE).c0
    have hc1 := (unhide HE).c1
    have hf0 := (unhide HE).f0
    rcases b with _ | _
    · have HN := next_any wr R s' false (unhide HE) hs'
      obtain ⟨N0, N1⟩ := nxI_bd s' false
      have HM := Lib.hid (roM_on (unhide HE))
      obtain ⟨g, hAt⟩ := HL.out.at
      have HA := Lib.hid hAt
      clear hAt
      by_cases hch : nxI s' false = 124
      · obtain ⟨-, h0⟩ := nxI_pos (s := s') (b := false) (by rw [hch]; decide)
        have hv : (s'[0].toNat : Int) = 124 := by rw [← nxI_at h0]; exact hch
        rw [hch] at HN
        have hlen0 : (0 : Int) < (s'.size : Int) := by omega
        have h1s : 1 ≤ s'.size := h0
        have hzc := cut_size s'
        have E0 := (unhide HE).set0 (s'.extract 1 s'.size)
        have G0 := only_cell wr R 0 (.string (s'.extract 1 s'.size))
        have HI2 := ih g (by have := HA.out.fuel; omega) (wr.setCell ⟨R, 0, none⟩ (.string (s'.extract 1 s'.size))) R 1 2 (s'.extract 1 s'.size) rfl (by omega) E0 (by omega) (by have := HA.out.need; unfold needL at this; unfold needR; omega)
        have HQ := Lib.hid ((lo_bar (J := begC) (f := g) (e := e) h0 hv).trans (show _ = (match rdT begC g 1 (dr (s'.extract 1 s'.size) 0) with | none => none | some (x, q2) => loT begC g 0 (e ++ x ++ [(5, 0)]) q2) by rw [show dr (s'.extract 1 s'.size) 0 = dr s' (0 + 1) from cut_dr s']; rfl))
        have HZC := Lib.hid hzc
        clear hch hv hzc
        obtain ⟨ka1, ka2, ka3⟩ := kind_at (wr.setCell ⟨R, 0, none⟩ (.string (s'.extract 1 s'.size)))
        go_wp2_with (first
          | (go_at_call 57; refine HN.mono ?_; rintro r w2 ⟨rfl, rfl⟩))
        refine HI2.mono ?_
        rintro r w3 ⟨x, v3, s3, b3, rfl, hown3, hE3, hg3, hz3, hR3⟩
        have hxl : x.length ≤ 240 := by have := hR3.bd; have := HZC.out; omega
        have hs3 : s3.size ≤ s'.size := by have := HZC.out; omega
        have HS3 := Lib.hid (show b3 = false → s3.size < s'.size by
          rcases hR3 with ⟨rfl, -⟩ | ⟨-, h1, -⟩
          · intro h; cases h
          · intro _; have := HZC.out; omega)
        have HL3 := Lib.hid (HA.out.bin (k := 5) (by have := HZC.out; omega) (by have := HZC.out; omega) HQ.out hR3)
        have O3 := (own_reader (own_reader (unhide HO) G0 hRw) hg3 hRw)
        have S3 := SL_own' O3 (by unfold maxLen; omega)
        obtain ⟨A3, c3, hv3, hsx⟩ := SL_own hown3 (by unfold maxLen; omega)
        subst hv3
        have HOP := operation_any _ _ 2 2 [(A, e.length, c, e), (A3, x.length, c3, x)] 5 (RowS.two' (t := 27) S3 hsx) (by omega) (by simp [cats]; omega)
        have hbd3 := HL3.out.bd hs
        have HBD := Lib.hid hbd3
        clear hown3 hR3 O3 S3 hsx hbd3
        go_wp2_with fail
        refine HOP.mono ?_
        intro r w4 hd
        obtain ⟨v4, rfl, hown4, hg4, hb4⟩ := loop_bound (only_trans hg (only_trans G0 hg3)) (World.grownBy_alloc w3 _ _) hd
        rw [cats_two] at hown4
        obtain ⟨A4, c4, hv4, -⟩ := SL_own hown4 (by have := HBD.out; unfold maxLen; omega)
        subst hv4
        have hE4 := (hE3.al _).keep hb4
        go_wp2
        go_roundw
        case rel => exact ⟨e ++ x ++ [(5, 0)], A4, c4, s3, b3, by first | rfl | (rw [List.length_append, List.length_append]; rfl) | (simp; omega), Lib.hid hown4, Lib.hid hE4, hg4, Nat.le_trans hs3 hz, HL3⟩
        case measure =>
          rw [HM.out]
          rcases b3 with _ | _
          · rw [roM_on hE4]; have := HS3.out rfl; omega
          · rw [roM_off hE4]; omega
      · have hch' : (nxI s' false == 124) = false := by simpa using hch
        have HFIN : Hid (IRdP (f + 1) 0 s e s' false) := HL.out.stop fun g => by
          by_cases h0 : 0 < s'.size
          · exact lo_stop h0 (by omega) (fun _ => by rw [← nxI_at h0]; exact hch) (by omega) (by omega)
          · exact lo_end h0
        generalize nxI s' false = nx at *
        go_wp2_with (first
          | (go_at_call 57; refine HN.mono ?_; rintro r w2 ⟨rfl, rfl⟩))
        go_ret
        exact ⟨e, _, s', false, rfl, unhide HO, unhide HE, hg, hz, HFIN.out⟩
    · have HFIN := Lib.hid (HL.out.done)
      go_wp2
      go_ret
      exact ⟨e, _, s', true, rfl, unhide HO, unhide HE, hg, hz, HFIN.out⟩
set_option maxHeartbeats 8000000 in
theorem level_lv1 {f : Nat} (ih : ∀ g, g ≤ f → LevelC g) (w : World) (R : Nat) (s : ByteArray) (h : Er w R s false) (hs : s.size ≤ 120) (hf : needR s.size 1 ≤ f + 1) :
    Calls Try.prog 39 #[.pointer (some ⟨R, 0, none⟩), .int .i64 2] w (IReadD w R (f + 1) 1 s) := by
  have HBI : Hid (∀ W : World, Calls Try.prog 45 #[.int .i64 7] W fun e w' => e = .returned (.int .i64 4) ∧ W = w') := fun W => binding_any 7 W
  have HI := ih f (Nat.le_refl _) w R 2 3 s rfl (by omega) h hs (by unfold needR at hf ⊢; omega)
  have HF := Lib.hid hf
  have hRw := h.lt
  clear hf
  go_enter Try.func39, Try.ntmps39
  go_wp2_with (first
    | (go_at_call 45; refine ((unhide HBI) _).mono ?_; rintro r w1 ⟨rfl, rfl⟩))
  refine HI.mono ?_
  rintro r w1 ⟨e1, v1, s1, b1, rfl, hown1, hE1, hg1, hz1, hR1⟩
  have HL1 := Lib.hid (Er.start_low (by omega) HF.out hR1)
  have HO1 := hide hown1
  have HE1 := hide hE1
  clear hown1 hR1 hE1
  go_wp2
  go_loopw [5] (fun ev wr => ∃ (e : List Pt) (A : Option Addr) (c : Nat) (s' : ByteArray) (b : Bool), ev = .slice A e.length c ∧ Hid (wr.ownsRow w.heap.size 36 2 (.slice A e.length c) e.length (flatV e)) ∧ Hid (Er wr R s' b) ∧ w.grownBy wr (some R) ∧ s'.size ≤ s.size ∧ Hid (ILoP f 1 s e s' b)) (fun _ wr => roM R wr)
  case atStart =>
    obtain ⟨A, c, hv, -⟩ := SL_own (unhide HO1) (by have := HL1.out.bd hs; unfold maxLen; omega)
    subst hv
    exact ⟨e1, A, c, s1, b1, rfl, HO1, HE1, hg1, hz1, HL1⟩
  case round =>
    obtain ⟨e, A, c, s', b, rfl, HO, HE, hg, hz, HL⟩ := hrel
    have hel := HL.out.bd hs
    have hs' : s'.size ≤ 120 := Nat.le_trans hz hs
    have hRr := (unhide HE).lt
    have hc0 := (unhide HE).c0
    have hc1 := (unhide HE).c1
    have hf0 := (unhide HE).f0
    rcases b with _ | _
    · have HN := next_any wr R s' false (unhide HE) hs'
      obtain ⟨N0, N1⟩ := nxI_bd s' false
      have HM := Lib.hid (roM_on (unhide HE))
      obtain ⟨g, hAt⟩ := HL.out.at
      have HA := Lib.hid hAt
      clear hAt
      by_cases hch : nxI s' false = 38
      · obtain ⟨-, h0⟩ := nxI_pos (s := s') (b := false) (by rw [hch]; decide)
        have hv : (s'[0].toNat : Int) = 38 := by rw [← nxI_at h0]; exact hch
        rw [hch] at HN
        have hlen0 : (0 : Int) < (s'.size : Int) := by omega
        have h1s : 1 ≤ s'.size := h0
        have hzc := cut_size s'
        have E0 := (unhide HE).set0 (s'.extract 1 s'.size)
        have G0 := only_cell wr R 0 (.string (s'.extract 1 s'.size))
        have HI2 := ih g (by have := HA.out.fuel; omega) (wr.setCell ⟨R, 0, none⟩ (.string (s'.extract 1 s'.size))) R 2 3 (s'.extract 1 s'.size) rfl (by omega) E0 (by omega) (by have := HA.out.need; unfold needL at this; unfold needR; omega)
        have HQ := Lib.hid ((lo_amp (J := begC) (f := g) (e := e) h0 hv).trans (show _ = (match rdT begC g 2 (dr (s'.extract 1 s'.size) 0) with | none => none | some (x, q2) => loT begC g 1 (e ++ x ++ [(6, 0)]) q2) by rw [show dr (s'.extract 1 s'.size) 0 = dr s' (0 + 1) from cut_dr s']; rfl))
        have HZC := Lib.hid hzc
        clear hch hv hzc
        obtain ⟨ka1, ka2, ka3⟩ := kind_at (wr.setCell ⟨R, 0, none⟩ (.string (s'.extract 1 s'.size)))
        go_wp2_with (first
          | (go_at_call 57; refine HN.mono ?_; rintro r w2 ⟨rfl, rfl⟩))
        refine HI2.mono ?_
        rintro r w3 ⟨x, v3, s3, b3, rfl, hown3, hE3, hg3, hz3, hR3⟩
        have hxl : x.length ≤ 240 := by have := hR3.bd; have := HZC.out; omega
        have hs3 : s3.size ≤ s'.size := by have := HZC.out; omega
        have HS3 := Lib.hid (show b3 = false → s3.size < s'.size by
          rcases hR3 with ⟨rfl, -⟩ | ⟨-, h1, -⟩
          · intro h; cases h
          · intro _; have := HZC.out; omega)
        have HL3 := Lib.hid (HA.out.bin (k := 6) (by have := HZC.out; omega) (by have := HZC.out; omega) HQ.out hR3)
        have O3 := (own_reader (own_reader (unhide HO) G0 hRw) hg3 hRw)
        have S3 := SL_own' O3 (by unfold maxLen; omega)
        obtain ⟨A3, c3, hv3, hsx⟩ := SL_own hown3 (by unfold maxLen; omega)
        subst hv3
        have HOP := operation_any _ _ 2 2 [(A, e.length, c, e), (A3, x.length, c3, x)] 6 (RowS.two' (t := 27) S3 hsx) (by omega) (by simp [cats]; omega)
        have hbd3 := HL3.out.bd hs
        have HBD := Lib.hid hbd3
        clear hown3 hR3 O3 S3 hsx hbd3
        go_wp2_with fail
        refine HOP.mono ?_
        intro r w4 hd
        obtain ⟨v4, rfl, hown4, hg4, hb4⟩ := loop_bound (only_trans hg (only_trans G0 hg3)) (World.grownBy_alloc w3 _ _) hd
        rw [cats_two] at hown4
        obtain ⟨A4, c4, hv4, -⟩ := SL_own hown4 (by have := HBD.out; unfold maxLen; omega)
        subst hv4
        have hE4 := (hE3.al _).keep hb4
        go_wp2
        go_roundw
        case rel => exact ⟨e ++ x ++ [(6, 0)], A4, c4, s3, b3, by first | rfl | (rw [List.length_append, List.length_append]; rfl) | (simp; omega), Lib.hid hown4, Lib.hid hE4, hg4, Nat.le_trans hs3 hz, HL3⟩
        case measure =>
          rw [HM.out]
          rcases b3 with _ | _
          · rw [roM_on hE4]; have := HS3.out rfl; omega
          · rw [roM_off hE4]; omega
      · have hch' : (nxI s' false == 38) = false := by simpa using hch
        have HFIN : Hid (IRdP (f + 1) 1 s e s' false) := HL.out.stop fun g => by
          by_cases h0 : 0 < s'.size
          · exact lo_stop h0 (by omega) (by omega) (fun _ => by rw [← nxI_at h0]; exact hch) (by omega)
          · exact lo_end h0
        generalize nxI s' false = nx at *
        go_wp2_with (first
          | (go_at_call 57; refine HN.mono ?_; rintro r w2 ⟨rfl, rfl⟩))
        go_ret
        exact ⟨e, _, s', false, rfl, unhide HO, unhide HE, hg, hz, HFIN.out⟩
    · have HFIN := Lib.hid (HL.out.done)
      go_wp2
      go_ret
      exact ⟨e, _, s', true, rfl, unhide HO, unhide HE, hg, hz, HFIN.out⟩
set_option maxHeartbeats 8000000 in
theorem level_lv2 {f : Nat} (ih : ∀ g, g ≤ f → LevelC g) (w : World) (R : Nat) (s : ByteArray) (h : Er w R s false) (hs : s.size ≤ 120) (hf : needR s.size 2 ≤ f + 1) :
    Calls Try.prog 39 #[.pointer (some ⟨R, 0, none⟩), .int .i64 3] w (IReadD w R (f + 1) 2 s) := by
  have HBI : Hid (∀ W : World, Calls Try.prog 45 #[.int .i64 7] W fun e w' => e = .returned (.int .i64 4) ∧ W = w') := fun W => binding_any 7 W
  have HI := ih f (Nat.le_refl _) w R 3 4 s rfl (by omega) h hs (by unfold needR at hf ⊢; omega)
  have HF := Lib.hid hf
  have hRw := h.lt
  clear hf
  go_enter Try.func39, Try.ntmps39
  go_wp2_with (first
    | (go_at_call 45; refine ((unhide HBI) _).mono ?_; rintro r w1 ⟨rfl, rfl⟩))
  refine HI.mono ?_
  rintro r w1 ⟨e1, v1, s1, b1, rfl, hown1, hE1, hg1, hz1, hR1⟩
  have HL1 := Lib.hid (Er.start_low (by omega) HF.out hR1)
  have HO1 := hide hown1
  have HE1 := hide hE1
  clear hown1 hR1 hE1
  go_wp2
  go_loopw [5] (fun ev wr => ∃ (e : List Pt) (A : Option Addr) (c : Nat) (s' : ByteArray) (b : Bool), ev = .slice A e.length c ∧ Hid (wr.ownsRow w.heap.size 36 2 (.slice A e.length c) e.length (flatV e)) ∧ Hid (Er wr R s' b) ∧ w.grownBy wr (some R) ∧ s'.size ≤ s.size ∧ Hid (ILoP f 2 s e s' b)) (fun _ wr => roM R wr)
  case atStart =>
    obtain ⟨A, c, hv, -⟩ := SL_own (unhide HO1) (by have := HL1.out.bd hs; unfold maxLen; omega)
    subst hv
    exact ⟨e1, A, c, s1, b1, rfl, HO1, HE1, hg1, hz1, HL1⟩
  case round =>
    obtain ⟨e, A, c, s', b, rfl, HO, HE, hg, hz, HL⟩ := hrel
    have hel := HL.out.bd hs
    have hs' : s'.size ≤ 120 := Nat.le_trans hz hs
    have hRr := (unhide HE).lt
    have hc0 := (unhide HE).c0
    have hc1 := (unhide HE).c1
    have hf0 := (unhide HE).f0
    rcases b with _ | _
    · have HN := next_any wr R s' false (unhide HE) hs'
      obtain ⟨N0, N1⟩ := nxI_bd s' false
      have HM := Lib.hid (roM_on (unhide HE))
      obtain ⟨g, hAt⟩ := HL.out.at
      have HA := Lib.hid hAt
      clear hAt
      rcases hch : begV (nxI s' false)
      · have HFIN : Hid (IRdP (f + 1) 2 s e s' false) := HL.out.stop fun g => by
          by_cases h0 : 0 < s'.size
          · refine lo_stop h0 (by omega) (by omega) (by omega) (fun _ => ?_)
            rw [begC_at (nxI_at h0).symm]; exact hch
          · exact lo_end h0
        obtain ⟨ix, hix, hiy⟩ := firstIdx_beg _ N0 N1
        have CI : Hid (∀ W : World, Calls Try.prog 28 #[.string ⟨#[48, 49, 97, 98, 99, 40, 33]⟩, .int .u8 (nxI s' false)] W fun e w' => e = .returned (.int .i64 ix) ∧ W = w') := fun W => by rw [← hix]; exact indexByte_any _ _ W
        have hi : ix < 0 := by rw [hch] at hiy; simpa using hiy
        clear hix hiy hch
        generalize nxI s' false = nx at *
        by_cases hz0 : nx = 0
        · subst hz0
          go_wp2_with (first
            | (go_at_call 57; refine HN.mono ?_; rintro r w2 ⟨rfl, rfl⟩))
          go_ret
          exact ⟨e, _, s', false, rfl, unhide HO, unhide HE, hg, hz, HFIN.out⟩
        · have hz0' : (nx == 0) = false := by simpa using hz0
          have hz0n : (nx != 0) = true := by simpa using hz0
          go_wp2_with (first
            | (go_at_call 57; refine HN.mono ?_; rintro r w2 ⟨rfl, rfl⟩)
            | (go_at_call 28; refine (unhide CI _).mono ?_; rintro e w' ⟨rfl, rfl⟩))
          go_ret
          exact ⟨e, _, s', false, rfl, unhide HO, unhide HE, hg, hz, HFIN.out⟩
      · have hne0 : nxI s' false ≠ 0 := by intro h0; rw [h0] at hch; exact absurd hch (by decide)
        obtain ⟨-, h0⟩ := nxI_pos (s := s') (b := false) hne0
        obtain ⟨ix, hix, hiy⟩ := firstIdx_beg _ N0 N1
        have CI : Hid (∀ W : World, Calls Try.prog 28 #[.string ⟨#[48, 49, 97, 98, 99, 40, 33]⟩, .int .u8 (nxI s' false)] W fun e w' => e = .returned (.int .i64 ix) ∧ W = w') := fun W => by rw [← hix]; exact indexByte_any _ _ W
        have hi : 0 ≤ ix := by rw [hch] at hiy; simpa using hiy
        have HI2 := ih g (by have := HA.out.fuel; omega) wr R 3 4 s' rfl (by omega) (unhide HE) hs' (by have := HA.out.need; unfold needL at this; unfold needR; omega)
        have HQ := Lib.hid (lo_join (J := begC) (f := g) (e := e) h0 (by rw [begC_at (nxI_at h0).symm]; exact hch))
        have hz0' : (nxI s' false == 0) = false := by simpa using hne0
        have hz0n : (nxI s' false != 0) = true := by simpa using hne0
        clear hix hiy hch h0
        generalize nxI s' false = nx at *
        obtain ⟨ka1, ka2, ka3⟩ := kind_at wr
        go_wp2_with (first
          | (go_at_call 57; refine HN.mono ?_; rintro r w2 ⟨rfl, rfl⟩)
          | (go_at_call 28; refine (unhide CI _).mono ?_; rintro e w' ⟨rfl, rfl⟩))
        refine HI2.mono ?_
        rintro r w3 ⟨x, v3, s3, b3, rfl, hown3, hE3, hg3, hz3, hR3⟩
        have hxl : x.length ≤ 240 := by have := hR3.bd; omega
        have hs3 : s3.size ≤ s'.size := by omega
        have HS3 := Lib.hid (show b3 = false → s3.size < s'.size by
          rcases hR3 with ⟨rfl, -⟩ | ⟨-, h1, -⟩
          · intro h; cases h
          · intro _; omega)
        have HL3 := Lib.hid (HA.out.bin (k := 4) (by omega) (by omega) HQ.out hR3)
        have O3 := (own_reader (unhide HO) hg3 hRw)
        have S3 := SL_own' O3 (by unfold maxLen; omega)
        obtain ⟨A3, c3, hv3, hsx⟩ := SL_own hown3 (by unfold maxLen; omega)
        subst hv3
        have HOP := operation_any _ _ 2 2 [(A, e.length, c, e), (A3, x.length, c3, x)] 4 (RowS.two' (t := 27) S3 hsx) (by omega) (by simp [cats]; omega)
        have hbd3 := HL3.out.bd hs
        have HBD := Lib.hid hbd3
        clear hown3 hR3 O3 S3 hsx hbd3
        go_wp2_with fail
        refine HOP.mono ?_
        intro r w4 hd
        obtain ⟨v4, rfl, hown4, hg4, hb4⟩ := loop_bound (only_trans hg hg3) (World.grownBy_alloc w3 _ _) hd
        rw [cats_two] at hown4
        obtain ⟨A4, c4, hv4, -⟩ := SL_own hown4 (by have := HBD.out; unfold maxLen; omega)
        subst hv4
        have hE4 := (hE3.al _).keep hb4
        go_wp2
        go_roundw
        case rel => exact ⟨e ++ x ++ [(4, 0)], A4, c4, s3, b3, by first | rfl | (rw [List.length_append, List.length_append]; rfl) | (simp; omega), Lib.hid hown4, Lib.hid hE4, hg4, Nat.le_trans hs3 hz, HL3⟩
        case measure =>
          rw [HM.out]
          rcases b3 with _ | _
          · rw [roM_on hE4]; have := HS3.out rfl; omega
          · rw [roM_off hE4]; omega
    · have HFIN := Lib.hid (HL.out.done)
      go_wp2
      go_ret
      exact ⟨e, _, s', true, rfl, unhide HO, unhide HE, hg, hz, HFIN.out⟩
theorem iread_any (f : Nat) : ∀ g, g ≤ f → LevelC g ∧ AtomC g ∧ StarC g := by
  induction f with
  | zero =>
    intro g hg
    obtain rfl : g = 0 := by omega
    refine ⟨?_, ?_, ?_⟩
    · intro w R l li s hli hl h hs hf; exfalso; unfold needR at hf; omega
    · intro w R s h hs hf; exfalso; unfold needR at hf; omega
    · intro w R s h hs hf; exfalso; unfold needR at hf; omega
  | succ f ih =>
    intro g hg
    by_cases hgf : g ≤ f
    · exact ih g hgf
    · obtain rfl : g = f + 1 := by omega
      obtain ⟨ihL, ihA, ihS⟩ := ih f (Nat.le_refl _)
      refine ⟨?_, atom_any ihL, star_any ihA⟩
      intro w R l li s hli hl h hs hf
      rcases (show l = 0 ∨ l = 1 ∨ l = 2 ∨ l = 3 by omega) with rfl | rfl | rfl | rfl
      · subst hli; exact level_lv0 (fun j hj => (ih j hj).1) w R s h hs hf
      · subst hli; exact level_lv1 (fun j hj => (ih j hj).1) w R s h hs hf
      · subst hli; exact level_lv2 (fun j hj => (ih j hj).1) w R s h hs hf
      · subst hli; exact level_not ihL ihS w R s h hs hf
end Go.Proofs.Ytglffbkldffipaa
