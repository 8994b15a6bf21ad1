/-
  Reading texts of expressions: both functions, whole.
-/
import Derived.Test.YtglffbkldffipaaRead2
import Derived.Test.YtglffbkldffipaaIRead3
import Derived.Test.YtglffbkldffipaaPrint2
import Derived.Test.YtglffbkldffipaaTxt2
namespace Go.Proofs.Ytglffbkldffipaa
open Go.RowKit
set_option linter.unusedVariables false
set_option maxRecDepth 100000

/-- What a function leaves that reads a text. -/
def ReadT (w : World) (s : ByteArray) (r : Ending) (w' : World) : Prop :=
  ∃ (e : List Pt) (v : Value) (b : Bool), r = .returned (.tuple #[v, .bool b]) ∧ w'.ownsRow w.heap.size 36 2 v e.length (flatV e) ∧ Below w.heap.size w w' ∧ ReadR s.data.toList e b
theorem ReadT.opn {w w' : World} {s : ByteArray} {r : Ending} (h : ReadT w s r w') :
    ∃ (e : List Pt) (A : Option Addr) (c : Nat) (b : Bool), r = .returned (.tuple #[.slice A e.length c, .bool b]) ∧ e.length ≤ 60 ∧ SL w' w'.heap.size A e.length c e ∧ w'.ownsRow w.heap.size 36 2 (.slice A e.length c) e.length (flatV e) ∧ Below w.heap.size w w' ∧ ReadR s.data.toList e b := by
  obtain ⟨e, v, b, rfl, h1, h2, h3⟩ := h
  have hl := h3.len
  obtain ⟨A, c, hv, hs⟩ := SL_own h1 (by unfold maxLen; omega)
  subst hv
  exact ⟨e, A, c, b, rfl, hl, hs, h1, h2, h3⟩
theorem long_bad {s : ByteArray} (h : ¬ s.size ≤ 120) : ReadR s.data.toList [] false := .inr ⟨rfl, rfl, fun k => h k.1⟩
theorem none_bad {J : UInt8 → Bool} (hJ : JOk J) {s : ByteArray} (h : rdT J (needR s.size 0) 0 (dr s 0) = none) : ReadR s.data.toList [] false := by
  refine .inr ⟨rfl, rfl, ?_⟩
  rintro ⟨-, t, hg, -, ht⟩
  have hr := rd_whole hJ hg (f := needR s.size 0) (by rw [← ht]; exact Nat.le_refl _)
  rw [← ht] at hr
  have h' : rdT J (needR s.size 0) 0 s.data.toList = none := h
  rw [hr] at h'; cases h'
theorem rest_bad {J : UInt8 → Bool} (hJ : JOk J) {s : ByteArray} {e : List Pt} {q : List UInt8} (h : rdT J (needR s.size 0) 0 (dr s 0) = some (e, q)) (hq : q ≠ []) : ReadR s.data.toList [] false := by
  refine .inr ⟨rfl, rfl, ?_⟩
  rintro ⟨-, t, hg, -, ht⟩
  have hr := rd_whole hJ hg (f := needR s.size 0) (by rw [← ht]; exact Nat.le_refl _)
  rw [← ht] at hr
  have h' : rdT J (needR s.size 0) 0 s.data.toList = some (e, q) := h
  rw [hr] at h'
  injection h' with h'
  injection h' with h1 h2
  exact hq h2.symm
theorem text_bad {J : UInt8 → Bool} (hJ : JOk J) {s X : ByteArray} {e : List Pt} (h : rdT J (needR s.size 0) 0 (dr s 0) = some (e, [])) (hX : TxR e X) (hne : ¬ X = s) : ReadR s.data.toList [] false := by
  refine .inr ⟨rfl, rfl, ?_⟩
  rintro ⟨-, t, hg, hs, ht⟩
  have hr := rd_whole hJ hg (f := needR s.size 0) (by rw [← ht]; exact Nat.le_refl _)
  rw [← ht] at hr
  have h' : rdT J (needR s.size 0) 0 s.data.toList = some (e, []) := h
  rw [hr] at h'
  injection h' with h'
  injection h' with h1 _
  refine hne (ByteArray.ext (Array.ext' ?_))
  rw [txtS.uniq hX.1 (.inr ⟨t, hg, h1, hs, rfl⟩), ht]
theorem text_good {s : ByteArray} {e : List Pt} (hX : TxR e s) (hs : s.size ≤ 120) (h0 : 0 < s.size) : ReadR s.data.toList e true := by
  rcases hX.1 with ⟨-, h⟩ | ⟨t, hg, hf, hsz, ht⟩
  · have : s.data.toList.length = 0 := by rw [h]; rfl
    have h2 : s.data.toList.length = s.size := rfl
    omega
  · exact .inl ⟨rfl, hs, t, hg, hf, hsz, ht⟩
theorem str_ne {X s : ByteArray} (h : ¬ X = s) : ¬ X.toList = s.toList ∧ (X.toList == s.toList) = false := by
  have h1 : ¬ X.toList = s.toList := by
    intro e
    rw [Lib.toList_data, Lib.toList_data] at e
    exact h (ByteArray.ext (Array.ext' e))
  exact ⟨h1, by simpa using h1⟩
theorem str_pos {s : ByteArray} (h : 0 < s.size) : ¬ s.toList = [] ∧ s.toList.isEmpty = false := by
  have h1 : ¬ s.toList = [] := by
    intro e
    rw [Lib.toList_data] at e
    have : s.data.toList.length = 0 := by rw [e]; rfl
    have h2 : s.data.toList.length = s.size := rfl
    omega
  refine ⟨h1, ?_⟩
  cases hl : s.toList with
  | nil => exact absurd hl h1
  | cons a l => rfl
set_option maxHeartbeats 2000000 in
theorem specReadExpr_any (s : ByteArray) (w : World) (hsm : s.size ≤ maxLen) : Calls Try.prog 21 #[.string s] w (ReadT w s) := by
  by_cases hs : s.size ≤ 120
  · have HI := read_any hs _ _ (Nat.le_refl _) w 0 0 0 0 rfl rfl (Nat.zero_le _) (by omega) (by rw [Nat.sub_zero]; exact Nat.le_refl (needR s.size 0))
    have HSZ := Lib.hid hs
    clear hsm
    go_enter Try.func21, Try.ntmps21
    go_wp2_with fail
    refine HI.mono ?_
    rintro r w1 ⟨e, v, z, rfl, hown, hb, hR⟩
    have hbd := hR.bd hs (Nat.zero_le _)
    have HEL := Lib.hid hbd.1
    obtain ⟨A, c, hv, hsl⟩ := SL_own hown (by have := hbd.1; unfold maxLen; omega)
    subst hv
    obtain ⟨-, z0, z1⟩ := hbd
    have HO := hide hown
    have HS := hide hsl
    clear hown hsl HI
    rcases hR with ⟨rfl, -, h3⟩ | ⟨q, rfl, h2, h3, -, h5⟩
    · have HB := Lib.hid (none_bad specJ_ok h3)
      clear h3
      have hne : ¬ (-1 : Int) = (s.size : Int) := by omega
      go_wp2
      go_ret2
      exact ⟨[], _, false, rfl, own_empty _ _ _ hb.size, hb.alloc hb.size _, HB.out⟩
    · by_cases hq : q = s.size
      · subst hq
        have hp := str_pos h2
        obtain ⟨p1, p2⟩ := hp
        have H5 := Lib.hid (show rdT specJ (needR s.size 0) 0 (dr s 0) = some (e, []) by rw [h5, dr_end (Nat.lt_irrefl _)])
        have H2 := Lib.hid h2
        clear h5 h2 z0
        go_wp2_with (first
          | (go_at_call 13; refine (specExprText_any _ _ _ _ e (unhide HS).1 (by have := HEL.out; omega) (unhide HS).2.1 (unhide HS).2.2.1).mono ?_; rintro r w2 ⟨X, rfl, hX, hb2⟩; by_cases hXs : X = s; rotate_left; obtain ⟨x1, x2⟩ := str_ne hXs; rotate_left; subst hXs))
        · go_ret2
          exact ⟨e, _, true, rfl, own_keep (unhide HO) hb2, hb.trans (hb2.mono hb.size), text_good hX HSZ.out H2.out⟩
        · go_ret2
          exact ⟨[], _, false, rfl, own_empty _ _ _ (hb.trans (hb2.mono hb.size)).size, (hb.trans (hb2.mono hb.size)).alloc (hb.trans (hb2.mono hb.size)).size _, text_bad specJ_ok H5.out hX hXs⟩
      · have HB := Lib.hid (rest_bad specJ_ok h5 (by
          have hq' : q < s.size := by omega
          rw [dr_cons hq']; simp))
        clear h5
        have hne : ¬ (q : Int) = (s.size : Int) := by omega
        have hqs : q < s.size := by omega
        go_wp2
        go_ret2
        exact ⟨[], _, false, rfl, own_empty _ _ _ hb.size, hb.alloc hb.size _, HB.out⟩
  · have HB := Lib.hid (long_bad hs)
    go_enter Try.func21, Try.ntmps21
    go_wp2
    go_ret2
    exact ⟨[], _, false, rfl, own_empty _ _ _ (Nat.le_refl _), (Below.refl _ _).alloc (Nat.le_refl _) _, HB.out⟩
set_option maxHeartbeats 2000000 in
theorem implReadExpr_any (s : ByteArray) (w : World) (hsm : s.size ≤ maxLen) : Calls Try.prog 22 #[.string s] w (ReadT w s) := by
  by_cases hs : s.size ≤ 120
  · have hE0 : Er (w.alloc (.cells #[.string s, .bool false] 57)) w.heap.size s false := heap_alloc_new w _
    have HI := (iread_any (needR s.size 0) _ (Nat.le_refl _)).1 _ w.heap.size 0 1 s rfl (by omega) hE0 hs (Nat.le_refl _)
    have hb0 : Below w.heap.size w (w.alloc (.cells #[.string s, .bool false] 57)) := (Below.refl _ _).alloc (Nat.le_refl _) _
    have HSZ := Lib.hid hs
    clear hsm
    go_enter Try.func22, Try.ntmps22
    go_wp2_with fail
    refine HI.mono ?_
    rintro r w1 ⟨e, v, s1, b, rfl, hown, hE, hg, hz, hR⟩
    have hel := hR.bd
    have hb := below_only hb0 hg (Nat.le_refl _)
    have HEL := Lib.hid (show e.length ≤ 240 by omega)
    obtain ⟨A, c, hv, hsl⟩ := SL_own hown (by have := HEL.out; unfold maxLen; omega)
    subst hv
    have HO := hide (own_low hown hb0.size)
    have HS := hide hsl
    have d0 := hE.c0
    have d1 := hE.c1
    clear hown hsl HI hel
    rcases hR with ⟨rfl, -, h3⟩ | ⟨rfl, h2, h3, h5⟩
    · have HB := Lib.hid (none_bad begC_ok h3)
      clear h3
      go_wp2
      go_ret2
      exact ⟨[], _, false, rfl, own_nil _ _ _, hb, HB.out⟩
    · by_cases hq : s1.size = 0
      · have hse : s1.toList = [] := by rw [Lib.toList_data]; exact List.eq_nil_of_length_eq_zero hq
        have hse2 : s1.toList.isEmpty = true := by rw [hse]; rfl
        have H5 := Lib.hid (show rdT begC (needR s.size 0) 0 (dr s 0) = some (e, []) by rw [h5, dr_end (by omega)])
        have H2 := Lib.hid (show 0 < s.size by omega)
        clear h5 h2 h3 hq
        go_wp2_with (first
          | (go_at_call 15; refine (implExprText_any _ _ _ _ e (unhide HS).1 (by have := HEL.out; omega) (unhide HS).2.1 (unhide HS).2.2.1).mono ?_; rintro r w2 ⟨X, rfl, hX, hb2⟩; by_cases hXs : X = s; rotate_left; obtain ⟨x1, x2⟩ := str_ne hXs; rotate_left; subst hXs))
        · go_ret2
          exact ⟨e, _, true, rfl, own_keep (unhide HO) hb2, hb.trans (hb2.mono hb.size), text_good hX HSZ.out H2.out⟩
        · go_ret2
          exact ⟨[], _, false, rfl, own_nil _ _ _, hb.trans (hb2.mono hb.size), text_bad begC_ok H5.out hX hXs⟩
      · have h1p : 0 < s1.size := by omega
        have hp := str_pos h1p
        obtain ⟨p1, p2⟩ := hp
        have HB := Lib.hid (rest_bad begC_ok h5 (by rw [dr_cons h1p]; simp))
        clear h5
        go_wp2
        go_ret2
        exact ⟨[], _, false, rfl, own_nil _ _ _, hb, HB.out⟩
  · have HB := Lib.hid (long_bad hs)
    go_enter Try.func22, Try.ntmps22
    go_wp2
    go_ret2
    exact ⟨[], _, false, rfl, own_nil _ _ _, Below.refl _ _, HB.out⟩
end Go.Proofs.Ytglffbkldffipaa
