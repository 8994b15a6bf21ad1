/-
  Reading texts of expressions: the reference's walk, the levels with a loop.
-/
import Derived.Test.YtglffbkldffipaaRead
import Derived.Test.YtglffbkldffipaaOper2
namespace Go.Proofs.Ytglffbkldffipaa
open Go.RowKit
set_option linter.unusedVariables false
set_option maxRecDepth 100000

/-- In the loop: e is read up to place z, or nothing can be read any more. -/
def LoP (s : ByteArray) (f a l : Nat) (e : List Pt) (z : Int) : Prop :=
  (z = -1 ∧ e.length ≤ 2 * (s.size - a) ∧ rdT specJ (f + 1) l (dr s a) = none) ∨
  (∃ q g : Nat, z = q ∧ a < q ∧ q ≤ s.size ∧ e.length + 1 ≤ 2 * (q - a) ∧ needL (s.size - q) ≤ g ∧ g ≤ f ∧ rdT specJ (f + 1) l (dr s a) = loT specJ g l e (dr s q))
theorem LoP.bd {s : ByteArray} {f a l : Nat} {e : List Pt} {z : Int} (h : LoP s f a l e z) (hs : s.size ≤ 120) (ha : a ≤ s.size) : e.length ≤ 240 ∧ -1 ≤ z ∧ z ≤ s.size := by
  rcases h with ⟨rfl, h, -⟩ | ⟨q, g, rfl, h1, h2, h3, -⟩ <;> omega
theorem LoP.start {s : ByteArray} {f a l : Nat} {e : List Pt} {z : Int} (hl : l ≤ 4) (hf : needR (s.size - a) l ≤ f + 1) (hlow : rdT specJ (f + 1) l (dr s a) = match rdT specJ f (l + 1) (dr s a) with | none => none | some (e, q) => loT specJ f l e q)
    (h : RdP s f a (l + 1) e z) : LoP s f a l e z := by
  rcases h with ⟨rfl, h2, h3⟩ | ⟨q, rfl, h2, h3, h4, h5⟩
  · exact .inl ⟨rfl, h2, by rw [hlow, h3]⟩
  · exact .inr ⟨q, f, rfl, h2, h3, h4, by unfold needR at hf; unfold needL; omega, Nat.le_refl _, by rw [hlow, h5]⟩
/-- The loop stands at a byte. -/
structure LoAt (s : ByteArray) (f a l : Nat) (e : List Pt) (q g : Nat) : Prop where
  lt : a < q
  le : q ≤ s.size
  len : e.length + 1 ≤ 2 * (q - a)
  need : needL (s.size - q) ≤ g + 1
  fuel : g + 1 ≤ f
  eq : rdT specJ (f + 1) l (dr s a) = loT specJ (g + 1) l e (dr s q)
theorem LoP.cases {s : ByteArray} {f a l : Nat} {e : List Pt} {z : Int} (h : LoP s f a l e z) : (z = -1 ∧ RdP s (f + 1) a l e (-1)) ∨ ∃ q g : Nat, z = q ∧ LoAt s f a l e q g := by
  rcases h with ⟨rfl, h2, h3⟩ | ⟨q, g, rfl, h1, h2, h3, h4, h5, h6⟩
  · exact .inl ⟨rfl, .inl ⟨rfl, h2, h3⟩⟩
  · obtain ⟨g', rfl⟩ : ∃ g', g = g' + 1 := ⟨g - 1, by unfold needL at h4; omega⟩
    exact .inr ⟨q, g', rfl, h1, h2, h3, h4, h5, h6⟩
theorem LoAt.stop {s : ByteArray} {f a l : Nat} {e : List Pt} {q g : Nat} (h : LoAt s f a l e q g) (he : loT specJ (g + 1) l e (dr s q) = some (e, dr s q)) : RdP s (f + 1) a l e q :=
  .inr ⟨q, rfl, h.lt, h.le, h.len, by rw [h.eq, he]⟩
theorem LoAt.star {s : ByteArray} {f a : Nat} {e : List Pt} {q g : Nat} (h : LoAt s f a 4 e q g) (hq : q < s.size) (hv : (s[q].toNat : Int) = 42) : LoP s f a 4 (e ++ [(8, 0)]) ((q : Int) + 1) := by
  obtain ⟨h1, h2, h3, h4, h5, h6⟩ := h
  refine .inr ⟨q + 1, g, by omega, by omega, by omega, by simp; omega, by unfold needL at h4 ⊢; omega, by omega, ?_⟩
  rw [h6, lo_star hq hv]
theorem LoAt.bin {s : ByteArray} {f a l m p : Nat} {e x : List Pt} {k z : Int} {q g : Nat} (h : LoAt s f a l e q g) (hp : q ≤ p) (hp1 : p ≤ q + 1) (hps : p ≤ s.size)
    (hq : loT specJ (g + 1) l e (dr s q) = match rdT specJ g m (dr s p) with | none => none | some (x, q2) => loT specJ g l (e ++ x ++ [(k, 0)]) q2)
    (hx : RdP s g p m x z) : LoP s f a l (e ++ x ++ [(k, 0)]) z := by
  obtain ⟨h1, h2, h3, h4, h5, h6⟩ := h
  rcases hx with ⟨rfl, x2, x3⟩ | ⟨j, rfl, x2, x3, x4, x5⟩
  · exact .inl ⟨rfl, by simp; omega, by rw [h6, hq, x3]⟩
  · exact .inr ⟨j, g, rfl, by omega, x3, by simp; omega, by unfold needL at h4 ⊢; omega, by omega, by rw [h6, hq, x5]⟩
def loN (s : ByteArray) (z : Int) : Nat := if z < 0 then 0 else s.size + 1 - z.toNat
def loM (s : ByteArray) (z : Value) : Nat := loN s (intOf z)
theorem loM_lt {s : ByteArray} {q z : Int} (h0 : 0 ≤ q) (h : q < z) (hs : q ≤ s.size) : loM s (.int .i64 z) < loM s (.int .i64 q) := by
  show loN s z < loN s q
  unfold loN
  rw [if_neg (by omega), if_neg (by omega)]; omega
theorem loM_bad {s : ByteArray} {q : Int} (h0 : 0 ≤ q) (hs : q ≤ s.size) : loM s (.int .i64 (-1)) < loM s (.int .i64 q) := by
  show loN s (-1) < loN s q
  unfold loN
  rw [if_pos (by decide), if_neg (by omega)]; omega
set_option maxHeartbeats 8000000 in
theorem read_lv4 {s : ByteArray} (hs : s.size ≤ 120) {f : Nat} (ih : ∀ g, g ≤ f → ReadC s g) (w : World) (a : Nat) (ai : Int) (hai : ai = a) (ha : a ≤ s.size) (hf : needR (s.size - a) 4 ≤ f + 1) :
    Calls Try.prog 38 #[.string s, .int .i64 ai, .int .i64 4] w (ReadD w s (f + 1) a 4) := by
  subst hai
  have HI := ih f (Nat.le_refl _) w a 5 (a : Int) 5 rfl rfl ha (by omega) (by unfold needR at hf ⊢; omega)
  have HLOW := Lib.hid (low_at (J := specJ) (s := s) (f := f) (a := a) (l := 4) (by omega) (by omega))
  have HF := Lib.hid hf
  have a0 : (0 : Int) ≤ (a : Int) := Int.natCast_nonneg _
  clear hf
  go_enter Try.func38, Try.ntmps38
  go_wp2_with fail
  refine HI.mono ?_
  rintro r w1 ⟨e1, v1, z1, rfl, hown1, hb1, hR1⟩
  have HL1 := Lib.hid (LoP.start (by omega) HF.out HLOW.out hR1)
  have HO1 := hide hown1
  clear hown1 hR1
  go_wp2
  go_loopw [12, 13] (fun ev zv wr => ∃ (e : List Pt) (z : Int), zv = .int .i64 z ∧ Hid (wr.ownsRow w.heap.size 36 2 ev e.length (flatV e)) ∧ Below w.heap.size w wr ∧ Hid (LoP s f a 4 e z)) (fun _ zv _ => loM s zv)
  case atStart => exact ⟨e1, z1, rfl, HO1, hb1, HL1⟩
  case round =>
    obtain ⟨e, z, rfl, HO, hb, HL⟩ := hrel
    have hbd := HL.out.bd hs ha
    obtain ⟨hel, hz0, hz1⟩ := hbd
    rcases HL.out.cases with ⟨hz, hR⟩ | ⟨q, g, hz, hA⟩
    · subst hz
      have HR := Lib.hid hR
      clear hR
      go_wp2
      go_ret2
      exact ⟨e, _, _, rfl, unhide HO, hb, HR.out⟩
    · subst hz
      have HA := Lib.hid hA
      clear hA
      by_cases hq : q < s.size
      · have hq' : (q : Int) < (s.size : Int) := by omega
        obtain ⟨v, hv⟩ : ∃ v : Int, (s[q].toNat : Int) = v := ⟨_, rfl⟩
        have hvb := byte_lt s[q]
        rw [hv] at hvb
        have hv0 : 0 ≤ v := by omega
        have HV := Lib.hid hv
        have HQ := Lib.hid hq
        by_cases h42 : v = 42
        · subst h42
          have HL2 := Lib.hid (HA.out.star hq hv)
          go_wp2_with (at_builtin; refine wpList_append_parts rfl (.tmp 149) (.tmp 151) rfl w.heap.size (wr.heap.size + 1) u12 e.length e rfl ((unhide HO).alloc _) (some ⟨wr.heap.size, 0, none⟩) 1 1 [(8, 0)] rfl (fun h => nomatch h) (PS_one_lit _ _ _) ?_ ?_ ?_; go_must (omega); go_must (exact le_alloc' hb.size); (intro v4 w4 hown4 hgrow4; have hb4 : Below w.heap.size w w4 := (hb.alloc hb.size _).grown hgrow4 (le_alloc' hb.size) (own_block (unhide HO))))
          go_roundw
          case rel => exact ⟨e ++ [(8, 0)], (q : Int) + 1, by first | rfl | go_num, Lib.hid (by rw [List.length_append]; exact hown4), hb4, HL2⟩
          case measure => exact loM_lt (by omega) (by omega) (by omega)
        · have h42' : (v == 42) = false := by simpa using h42
          have HE := Lib.hid (HA.out.stop (lo_stop hq (fun _ => by rw [hv]; exact h42) (by omega) (by omega) (by omega)))
          go_wp2
          go_ret2
          exact ⟨e, _, _, rfl, unhide HO, hb, HE.out⟩
      · have HE := Lib.hid (HA.out.stop (lo_end hq))
        have hqe : (s.size : Int) ≤ (q : Int) := by omega
        go_wp2
        go_ret2
        exact ⟨e, _, _, rfl, unhide HO, hb, HE.out⟩
set_option maxHeartbeats 8000000 in
theorem read_lv0 {s : ByteArray} (hs : s.size ≤ 120) {f : Nat} (ih : ∀ g, g ≤ f → ReadC s g) (w : World) (a : Nat) (ai : Int) (hai : ai = a) (ha : a ≤ s.size) (hf : needR (s.size - a) 0 ≤ f + 1) :
    Calls Try.prog 38 #[.string s, .int .i64 ai, .int .i64 0] w (ReadD w s (f + 1) a 0) := by
  subst hai
  have HI := ih f (Nat.le_refl _) w a 1 (a : Int) 1 rfl rfl ha (by omega) (by unfold needR at hf ⊢; omega)
  have HLOW := Lib.hid (low_at (J := specJ) (s := s) (f := f) (a := a) (l := 0) (by omega) (by omega))
  have HF := Lib.hid hf
  have a0 : (0 : Int) ≤ (a : Int) := Int.natCast_nonneg _
  clear hf
  go_enter Try.func38, Try.ntmps38
  go_wp2_with fail
  refine HI.mono ?_
  rintro r w1 ⟨e1, v1, z1, rfl, hown1, hb1, hR1⟩
  have HL1 := Lib.hid (LoP.start (by omega) HF.out HLOW.out hR1)
  have HO1 := hide hown1
  clear hown1 hR1
  go_wp2
  go_loopw [12, 13] (fun ev zv wr => ∃ (e : List Pt) (z : Int), zv = .int .i64 z ∧ Hid (wr.ownsRow w.heap.size 36 2 ev e.length (flatV e)) ∧ Below w.heap.size w wr ∧ Hid (LoP s f a 0 e z)) (fun _ zv _ => loM s zv)
  case atStart => exact ⟨e1, z1, rfl, HO1, hb1, HL1⟩
  case round =>
    obtain ⟨e, z, rfl, HO, hb, HL⟩ := hrel
    have hbd := HL.out.bd hs ha
    obtain ⟨hel, hz0, hz1⟩ := hbd
    rcases HL.out.cases with ⟨hz, hR⟩ | ⟨q, g, hz, hA⟩
    · subst hz
      have HR := Lib.hid hR
      clear hR
      go_wp2
      go_ret2
      exact ⟨e, _, _, rfl, unhide HO, hb, HR.out⟩
    · subst hz
      have HA := Lib.hid hA
      clear hA
      by_cases hq : q < s.size
      · have hq' : (q : Int) < (s.size : Int) := by omega
        obtain ⟨v, hv⟩ : ∃ v : Int, (s[q].toNat : Int) = v := ⟨_, rfl⟩
        have hvb := byte_lt s[q]
        rw [hv] at hvb
        have hv0 : 0 ≤ v := by omega
        have HV := Lib.hid hv
        have HQ := Lib.hid hq
        by_cases hch : v = 124
        · subst hch
          go_wp2_with fail
          refine (ih g (by have := HA.out.fuel; omega) wr (q + 1) 1 ((q : Int) + 1) 1 (by omega) rfl (by omega) (by omega) (by have := HA.out.need; unfold needL at this; unfold needR; omega)).mono ?_
          rintro r w2 ⟨x, v2, z2, rfl, hown2, hb2, hR2⟩
          have hxb := hR2.bd hs (by omega)
          obtain ⟨hxl, hx0, hx1⟩ := hxb
          have hR3 := Lib.hid hR2
          have HL2 := Lib.hid (HA.out.bin (k := 5) (by omega) (by omega) (by omega) (lo_bar hq hv) hR2)
          obtain ⟨A2, c2, hv2, hs2⟩ := SL_own hown2 (by unfold maxLen; omega)
          subst hv2
          have HX := hide hs2
          have HOw := hide (own_keep (unhide HO) hb2)
          have hbb2 := hb.trans (hb2.mono hb.size)
          have hbA := hbb2.size
          clear hown2 hR2 hs2
          go_wp2_with (first
            | (at_builtin; refine wpList_append_parts rfl (.tmp 185) (.tmp 186) rfl w.heap.size w2.heap.size u12 e.length e rfl (unhide HOw) A2 x.length c2 x rfl (unhide HX).2.2.2 (unhide HX).1 ?_ ?_ ?_; go_must (omega); go_must (exact hbA); (intro v3 w3 hown3 hgrow3; have hb3 : Below w.heap.size w w3 := hbb2.grown hgrow3 hbA (own_block (unhide HOw)); have HO3 := hide hown3; clear hown3))
            | (at_builtin; refine wpList_append_parts rfl (.tmp 187) (.tmp 190) rfl w.heap.size (w3.heap.size + 1) v3 (e.length + x.length) (e ++ x) rfl ((unhide HO3).alloc _) (some ⟨w3.heap.size, 0, none⟩) 1 1 [(5, 0)] rfl (fun h => nomatch h) (PS_one_lit _ _ _) ?_ ?_ ?_; go_must (omega); go_must (exact le_alloc' hb3.size); (intro v4 w4 hown4 hgrow4; have hb4 : Below w.heap.size w w4 := (hb3.alloc hb3.size _).grown hgrow4 (le_alloc' hb3.size) (own_block (unhide HO3)))))
          go_roundw
          case rel => exact ⟨e ++ x ++ [(5, 0)], z2, rfl, Lib.hid (by rw [List.length_append, List.length_append]; exact hown4), hb4, HL2⟩
          case measure => rcases hR3.out with ⟨rfl, -, -⟩ | ⟨j, rfl, j1, j2, -⟩; exact loM_bad (by omega) (by omega); exact loM_lt (by omega) (by omega) (by omega)
        · have hch' : (v == 124) = false := by simpa using hch
          have HE := Lib.hid (HA.out.stop (lo_stop hq (by omega) (fun _ => by rw [hv]; exact hch) (by omega) (by omega)))
          go_wp2
          go_ret2
          exact ⟨e, _, _, rfl, unhide HO, hb, HE.out⟩
      · have HE := Lib.hid (HA.out.stop (lo_end hq))
        have hqe : (s.size : Int) ≤ (q : Int) := by omega
        go_wp2
        go_ret2
        exact ⟨e, _, _, rfl, unhide HO, hb, HE.out⟩
set_option maxHeartbeats 8000000 in
theorem read_lv1 {s : ByteArray} (hs : s.size ≤ 120) {f : Nat} (ih : ∀ g, g ≤ f → ReadC s g) (w : World) (a : Nat) (ai : Int) (hai : ai = a) (ha : a ≤ s.size) (hf : needR (s.size - a) 1 ≤ f + 1) :
    Calls Try.prog 38 #[.string s, .int .i64 ai, .int .i64 1] w (ReadD w s (f + 1) a 1) := by
  subst hai
  have HI := ih f (Nat.le_refl _) w a 2 (a : Int) 2 rfl rfl ha (by omega) (by unfold needR at hf ⊢; omega)
  have HLOW := Lib.hid (low_at (J := specJ) (s := s) (f := f) (a := a) (l := 1) (by omega) (by omega))
  have HF := Lib.hid hf
  have a0 : (0 : Int) ≤ (a : Int) := Int.natCast_nonneg _
  clear hf
  go_enter Try.func38, Try.ntmps38
  go_wp2_with fail
  refine HI.mono ?_
  rintro r w1 ⟨e1, v1, z1, rfl, hown1, hb1, hR1⟩
  have HL1 := Lib.hid (LoP.start (by omega) HF.out HLOW.out hR1)
  have HO1 := hide hown1
  clear hown1 hR1
  go_wp2
  go_loopw [12, 13] (fun ev zv wr => ∃ (e : List Pt) (z : Int), zv = .int .i64 z ∧ Hid (wr.ownsRow w.heap.size 36 2 ev e.length (flatV e)) ∧ Below w.heap.size w wr ∧ Hid (LoP s f a 1 e z)) (fun _ zv _ => loM s zv)
  case atStart => exact ⟨e1, z1, rfl, HO1, hb1, HL1⟩
  case round =>
    obtain ⟨e, z, rfl, HO, hb, HL⟩ := hrel
    have hbd := HL.out.bd hs ha
    obtain ⟨hel, hz0, hz1⟩ := hbd
    rcases HL.out.cases with ⟨hz, hR⟩ | ⟨q, g, hz, hA⟩
    · subst hz
      have HR := Lib.hid hR
      clear hR
      go_wp2
      go_ret2
      exact ⟨e, _, _, rfl, unhide HO, hb, HR.out⟩
    · subst hz
      have HA := Lib.hid hA
      clear hA
      by_cases hq : q < s.size
      · have hq' : (q : Int) < (s.size : Int) := by omega
        obtain ⟨v, hv⟩ : ∃ v : Int, (s[q].toNat : Int) = v := ⟨_, rfl⟩
        have hvb := byte_lt s[q]
        rw [hv] at hvb
        have hv0 : 0 ≤ v := by omega
        have HV := Lib.hid hv
        have HQ := Lib.hid hq
        by_cases hch : v = 38
        · subst hch
          go_wp2_with fail
          refine (ih g (by have := HA.out.fuel; omega) wr (q + 1) 2 ((q : Int) + 1) 2 (by omega) rfl (by omega) (by omega) (by have := HA.out.need; unfold needL at this; unfold needR; omega)).mono ?_
          rintro r w2 ⟨x, v2, z2, rfl, hown2, hb2, hR2⟩
          have hxb := hR2.bd hs (by omega)
          obtain ⟨hxl, hx0, hx1⟩ := hxb
          have hR3 := Lib.hid hR2
          have HL2 := Lib.hid (HA.out.bin (k := 6) (by omega) (by omega) (by omega) (lo_amp hq hv) hR2)
          obtain ⟨A2, c2, hv2, hs2⟩ := SL_own hown2 (by unfold maxLen; omega)
          subst hv2
          have HX := hide hs2
          have HOw := hide (own_keep (unhide HO) hb2)
          have hbb2 := hb.trans (hb2.mono hb.size)
          have hbA := hbb2.size
          clear hown2 hR2 hs2
          go_wp2_with (first
            | (at_builtin; refine wpList_append_parts rfl (.tmp 185) (.tmp 186) rfl w.heap.size w2.heap.size u12 e.length e rfl (unhide HOw) A2 x.length c2 x rfl (unhide HX).2.2.2 (unhide HX).1 ?_ ?_ ?_; go_must (omega); go_must (exact hbA); (intro v3 w3 hown3 hgrow3; have hb3 : Below w.heap.size w w3 := hbb2.grown hgrow3 hbA (own_block (unhide HOw)); have HO3 := hide hown3; clear hown3))
            | (at_builtin; refine wpList_append_parts rfl (.tmp 187) (.tmp 190) rfl w.heap.size (w3.heap.size + 1) v3 (e.length + x.length) (e ++ x) rfl ((unhide HO3).alloc _) (some ⟨w3.heap.size, 0, none⟩) 1 1 [(6, 0)] rfl (fun h => nomatch h) (PS_one_lit _ _ _) ?_ ?_ ?_; go_must (omega); go_must (exact le_alloc' hb3.size); (intro v4 w4 hown4 hgrow4; have hb4 : Below w.heap.size w w4 := (hb3.alloc hb3.size _).grown hgrow4 (le_alloc' hb3.size) (own_block (unhide HO3)))))
          go_roundw
          case rel => exact ⟨e ++ x ++ [(6, 0)], z2, rfl, Lib.hid (by rw [List.length_append, List.length_append]; exact hown4), hb4, HL2⟩
          case measure => rcases hR3.out with ⟨rfl, -, -⟩ | ⟨j, rfl, j1, j2, -⟩; exact loM_bad (by omega) (by omega); exact loM_lt (by omega) (by omega) (by omega)
        · have hch' : (v == 38) = false := by simpa using hch
          have HE := Lib.hid (HA.out.stop (lo_stop hq (by omega) (by omega) (fun _ => by rw [hv]; exact hch) (by omega)))
          go_wp2
          go_ret2
          exact ⟨e, _, _, rfl, unhide HO, hb, HE.out⟩
      · have HE := Lib.hid (HA.out.stop (lo_end hq))
        have hqe : (s.size : Int) ≤ (q : Int) := by omega
        go_wp2
        go_ret2
        exact ⟨e, _, _, rfl, unhide HO, hb, HE.out⟩
set_option maxHeartbeats 8000000 in
theorem read_lv2 {s : ByteArray} (hs : s.size ≤ 120) {f : Nat} (ih : ∀ g, g ≤ f → ReadC s g) (w : World) (a : Nat) (ai : Int) (hai : ai = a) (ha : a ≤ s.size) (hf : needR (s.size - a) 2 ≤ f + 1) :
    Calls Try.prog 38 #[.string s, .int .i64 ai, .int .i64 2] w (ReadD w s (f + 1) a 2) := by
  subst hai
  have HI := ih f (Nat.le_refl _) w a 3 (a : Int) 3 rfl rfl ha (by omega) (by unfold needR at hf ⊢; omega)
  have HLOW := Lib.hid (low_at (J := specJ) (s := s) (f := f) (a := a) (l := 2) (by omega) (by omega))
  have HF := Lib.hid hf
  have a0 : (0 : Int) ≤ (a : Int) := Int.natCast_nonneg _
  clear hf
  go_enter Try.func38, Try.ntmps38
  go_wp2_with fail
  refine HI.mono ?_
  rintro r w1 ⟨e1, v1, z1, rfl, hown1, hb1, hR1⟩
  have HL1 := Lib.hid (LoP.start (by omega) HF.out HLOW.out hR1)
  have HO1 := hide hown1
  clear hown1 hR1
  go_wp2
  go_loopw [12, 13] (fun ev zv wr => ∃ (e : List Pt) (z : Int), zv = .int .i64 z ∧ Hid (wr.ownsRow w.heap.size 36 2 ev e.length (flatV e)) ∧ Below w.heap.size w wr ∧ Hid (LoP s f a 2 e z)) (fun _ zv _ => loM s zv)
  case atStart => exact ⟨e1, z1, rfl, HO1, hb1, HL1⟩
  case round =>
    obtain ⟨e, z, rfl, HO, hb, HL⟩ := hrel
    have hbd := HL.out.bd hs ha
    obtain ⟨hel, hz0, hz1⟩ := hbd
    rcases HL.out.cases with ⟨hz, hR⟩ | ⟨q, g, hz, hA⟩
    · subst hz
      have HR := Lib.hid hR
      clear hR
      go_wp2
      go_ret2
      exact ⟨e, _, _, rfl, unhide HO, hb, HR.out⟩
    · subst hz
      have HA := Lib.hid hA
      clear hA
      by_cases hq : q < s.size
      · have hq' : (q : Int) < (s.size : Int) := by omega
        obtain ⟨v, hv⟩ : ∃ v : Int, (s[q].toNat : Int) = v := ⟨_, rfl⟩
        have hvb := byte_lt s[q]
        rw [hv] at hvb
        have hv0 : 0 ≤ v := by omega
        have HV := Lib.hid hv
        have HQ := Lib.hid hq
        by_cases hch : v ≠ 124 ∧ v ≠ 38 ∧ v ≠ 41 ∧ v ≠ 42
        · obtain ⟨k1, k2, k3, k4⟩ := hch
          have hch : v ≠ 124 ∧ v ≠ 38 ∧ v ≠ 41 ∧ v ≠ 42 := ⟨k1, k2, k3, k4⟩
          have j1 : (v != 124) = true := by simpa using k1
          have j2 : (v != 38) = true := by simpa using k2
          have j3 : (v != 41) = true := by simpa using k3
          have j4 : (v != 42) = true := by simpa using k4
          have m1 : (v == 124) = false := by simpa using k1
          have m2 : (v == 38) = false := by simpa using k2
          go_wp2_with fail
          refine (ih g (by have := HA.out.fuel; omega) wr q 3 (q : Int) 3 rfl rfl (by omega) (by omega) (by have := HA.out.need; unfold needL at this; unfold needR; omega)).mono ?_
          rintro r w2 ⟨x, v2, z2, rfl, hown2, hb2, hR2⟩
          have hxb := hR2.bd hs (by omega)
          obtain ⟨hxl, hx0, hx1⟩ := hxb
          have hR3 := Lib.hid hR2
          have HL2 := Lib.hid (HA.out.bin (k := 4) (by omega) (by omega) (by omega) (lo_join hq (by rw [specJ_at hv]; simpa using hch)) hR2)
          obtain ⟨A2, c2, hv2, hs2⟩ := SL_own hown2 (by unfold maxLen; omega)
          subst hv2
          have HX := hide hs2
          have HOw := hide (own_keep (unhide HO) hb2)
          have hbb2 := hb.trans (hb2.mono hb.size)
          have hbA := hbb2.size
          clear hown2 hR2 hs2
          go_wp2_with (first
            | (at_builtin; refine wpList_append_parts rfl (.tmp 226) (.tmp 227) rfl w.heap.size w2.heap.size u12 e.length e rfl (unhide HOw) A2 x.length c2 x rfl (unhide HX).2.2.2 (unhide HX).1 ?_ ?_ ?_; go_must (omega); go_must (exact hbA); (intro v3 w3 hown3 hgrow3; have hb3 : Below w.heap.size w w3 := hbb2.grown hgrow3 hbA (own_block (unhide HOw)); have HO3 := hide hown3; clear hown3))
            | (at_builtin; refine wpList_append_parts rfl (.tmp 228) (.tmp 230) rfl w.heap.size (w3.heap.size + 1) v3 (e.length + x.length) (e ++ x) rfl ((unhide HO3).alloc _) (some ⟨w3.heap.size, 0, none⟩) 1 1 [(4, 0)] rfl (fun h => nomatch h) (PS_one_lit _ _ _) ?_ ?_ ?_; go_must (omega); go_must (exact le_alloc' hb3.size); (intro v4 w4 hown4 hgrow4; have hb4 : Below w.heap.size w w4 := (hb3.alloc hb3.size _).grown hgrow4 (le_alloc' hb3.size) (own_block (unhide HO3)))))
          go_roundw
          case rel => exact ⟨e ++ x ++ [(4, 0)], z2, rfl, Lib.hid (by rw [List.length_append, List.length_append]; exact hown4), hb4, HL2⟩
          case measure => rcases hR3.out with ⟨rfl, -, -⟩ | ⟨j, rfl, j1, j2, -⟩; exact loM_bad (by omega) (by omega); exact loM_lt (by omega) (by omega) (by omega)
        · have HE := Lib.hid (HA.out.stop (lo_stop hq (by omega) (by omega) (by omega) (fun _ => by rw [specJ_at hv]; simpa using hch)))
          have hcs : v = 124 ∨ v = 38 ∨ v = 41 ∨ v = 42 := by omega
          clear hch
          rcases hcs with rfl | rfl | rfl | rfl
          all_goals
            go_wp2
            go_ret2
            exact ⟨e, _, _, rfl, unhide HO, hb, HE.out⟩
      · have HE := Lib.hid (HA.out.stop (lo_end hq))
        have hqe : (s.size : Int) ≤ (q : Int) := by omega
        go_wp2
        go_ret2
        exact ⟨e, _, _, rfl, unhide HO, hb, HE.out⟩
set_option maxHeartbeats 8000000 in
theorem read_lv3 {s : ByteArray} (hs : s.size ≤ 120) {f : Nat} (ih : ∀ g, g ≤ f → ReadC s g) (w : World) (a : Nat) (ai : Int) (hai : ai = a) (ha : a ≤ s.size) (h33 : ∀ h : a < s.size, (s[a].toNat : Int) ≠ 33) (hf : needR (s.size - a) 3 ≤ f + 1) :
    Calls Try.prog 38 #[.string s, .int .i64 ai, .int .i64 3] w (ReadD w s (f + 1) a 3) := by
  subst hai
  have HI := ih f (Nat.le_refl _) w a 4 (a : Int) 4 rfl rfl ha (by omega) (by unfold needR at hf ⊢; omega)
  have HLOW := Lib.hid (low_at (J := specJ) (s := s) (f := f) (a := a) (l := 3) (by omega) (fun _ => h33))
  have HF := Lib.hid hf
  have a0 : (0 : Int) ≤ (a : Int) := Int.natCast_nonneg _
  have H33 := Lib.hid h33
  clear h33
  clear hf
  by_cases hlt : a < s.size
  · have hlt' : (a : Int) < (s.size : Int) := by omega
    obtain ⟨u, hu⟩ : ∃ u : Int, (s[a].toNat : Int) = u := ⟨_, rfl⟩
    have hu33 : ¬ u = 33 := by rw [← hu]; exact H33.out hlt
    have hu33' : (u == 33) = false := by simpa using hu33
    go_enter Try.func38, Try.ntmps38
    go_wp2_with fail
    refine HI.mono ?_
    rintro r w1 ⟨e1, v1, z1, rfl, hown1, hb1, hR1⟩
    have HL1 := Lib.hid (LoP.start (by omega) HF.out HLOW.out hR1)
    have HO1 := hide hown1
    clear hown1 hR1
    go_wp2
    go_loopw [12, 13] (fun ev zv wr => ∃ (e : List Pt) (z : Int), zv = .int .i64 z ∧ Hid (wr.ownsRow w.heap.size 36 2 ev e.length (flatV e)) ∧ Below w.heap.size w wr ∧ Hid (LoP s f a 3 e z)) (fun _ zv _ => loM s zv)
    case atStart => exact ⟨e1, z1, rfl, HO1, hb1, HL1⟩
    case round =>
      obtain ⟨e, z, rfl, HO, hb, HL⟩ := hrel
      have hbd := HL.out.bd hs ha
      obtain ⟨hel, hz0, hz1⟩ := hbd
      rcases HL.out.cases with ⟨hz, hR⟩ | ⟨q, g, hz, hA⟩
      · subst hz
        have HR := Lib.hid hR
        clear hR
        go_wp2
        go_ret2
        exact ⟨e, _, _, rfl, unhide HO, hb, HR.out⟩
      · subst hz
        have HA := Lib.hid hA
        clear hA
        by_cases hq : q < s.size
        · have hq' : (q : Int) < (s.size : Int) := by omega
          obtain ⟨v, hv⟩ : ∃ v : Int, (s[q].toNat : Int) = v := ⟨_, rfl⟩
          have hvb := byte_lt s[q]
          rw [hv] at hvb
          have hv0 : 0 ≤ v := by omega
          have HV := Lib.hid hv
          have HQ := Lib.hid hq
          go_wp2
          go_ret2
          exact ⟨e, _, _, rfl, unhide HO, hb, HA.out.stop (lo_stop HQ.out (by omega) (by omega) (by omega) (by omega))⟩
        · have HE := Lib.hid (HA.out.stop (lo_end hq))
          have hqe : (s.size : Int) ≤ (q : Int) := by omega
          go_wp2
          go_ret2
          exact ⟨e, _, _, rfl, unhide HO, hb, HE.out⟩
  · have hlt' : (s.size : Int) ≤ (a : Int) := by omega
    go_enter Try.func38, Try.ntmps38
    go_wp2_with fail
    refine HI.mono ?_
    rintro r w1 ⟨e1, v1, z1, rfl, hown1, hb1, hR1⟩
    have HL1 := Lib.hid (LoP.start (by omega) HF.out HLOW.out hR1)
    have HO1 := hide hown1
    clear hown1 hR1
    go_wp2
    go_loopw [12, 13] (fun ev zv wr => ∃ (e : List Pt) (z : Int), zv = .int .i64 z ∧ Hid (wr.ownsRow w.heap.size 36 2 ev e.length (flatV e)) ∧ Below w.heap.size w wr ∧ Hid (LoP s f a 3 e z)) (fun _ zv _ => loM s zv)
    case atStart => exact ⟨e1, z1, rfl, HO1, hb1, HL1⟩
    case round =>
      obtain ⟨e, z, rfl, HO, hb, HL⟩ := hrel
      have hbd := HL.out.bd hs ha
      obtain ⟨hel, hz0, hz1⟩ := hbd
      rcases HL.out.cases with ⟨hz, hR⟩ | ⟨q, g, hz, hA⟩
      · subst hz
        have HR := Lib.hid hR
        clear hR
        go_wp2
        go_ret2
        exact ⟨e, _, _, rfl, unhide HO, hb, HR.out⟩
      · subst hz
        have HA := Lib.hid hA
        clear hA
        by_cases hq : q < s.size
        · have hq' : (q : Int) < (s.size : Int) := by omega
          obtain ⟨v, hv⟩ : ∃ v : Int, (s[q].toNat : Int) = v := ⟨_, rfl⟩
          have hvb := byte_lt s[q]
          rw [hv] at hvb
          have hv0 : 0 ≤ v := by omega
          have HV := Lib.hid hv
          have HQ := Lib.hid hq
          go_wp2
          go_ret2
          exact ⟨e, _, _, rfl, unhide HO, hb, HA.out.stop (lo_stop HQ.out (by omega) (by omega) (by omega) (by omega))⟩
        · have HE := Lib.hid (HA.out.stop (lo_end hq))
          have hqe : (s.size : Int) ≤ (q : Int) := by omega
          go_wp2
          go_ret2
          exact ⟨e, _, _, rfl, unhide HO, hb, HE.out⟩
theorem read_any {s : ByteArray} (hs : s.size ≤ 120) (f : Nat) : ∀ g, g ≤ f → ReadC s g := by
  induction f with
  | zero =>
    intro g hg w a l ai li hai hli ha hl hf
    exfalso; unfold needR at hf; omega
  | succ f ih =>
    intro g hg w a l ai li hai hli ha hl hf
    obtain ⟨g', rfl⟩ : ∃ g', g = g' + 1 := ⟨g - 1, by unfold needR at hf; omega⟩
    have ih' : ∀ j, j ≤ g' → ReadC s j := fun j hj => ih j (by omega)
    rcases (show l = 0 ∨ l = 1 ∨ l = 2 ∨ l = 3 ∨ l = 4 ∨ l = 5 by omega) with rfl | rfl | rfl | rfl | rfl | rfl
    · subst hli; exact read_lv0 hs ih' w a ai hai ha hf
    · subst hli; exact read_lv1 hs ih' w a ai hai ha hf
    · subst hli; exact read_lv2 hs ih' w a ai hai ha hf
    · subst hli
      by_cases h33 : ∃ h : a < s.size, (s[a].toNat : Int) = 33
      · obtain ⟨h, hv⟩ := h33
        exact read_not hs (ih' g' (Nat.le_refl _)) w a ai hai h hv hf
      · exact read_lv3 hs ih' w a ai hai ha (fun h hv => h33 ⟨h, hv⟩) hf
    · subst hli; exact read_lv4 hs ih' w a ai hai ha hf
    · subst hli; exact read_five hs (ih' g' (Nat.le_refl _)) w a ai hai ha hf
end Go.Proofs.Ytglffbkldffipaa
