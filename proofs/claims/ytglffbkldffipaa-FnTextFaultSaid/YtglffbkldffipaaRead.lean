/-
  Reading texts of expressions: the reference's walk.
-/
import Derived.Test.YtglffbkldffipaaTxt
import Derived.Test.YtglffbkldffipaaDrawE
import Derived.Test.YtglffbkldffipaaLists
namespace Go.Proofs.Ytglffbkldffipaa
open Go.RowKit
set_option linter.unusedVariables false
set_option maxRecDepth 100000

/-- The text from a place on. -/
abbrev dr (s : ByteArray) (a : Nat) : List UInt8 := s.data.toList.drop a
theorem dr_cons {s : ByteArray} {a : Nat} (h : a < s.size) : dr s a = s[a] :: dr s (a + 1) := by
  rw [dr, List.drop_eq_getElem_cons (by simpa using h)]; rfl
theorem dr_end {s : ByteArray} {a : Nat} (h : ¬ a < s.size) : dr s a = [] := List.drop_of_length_le (by simp; omega)
theorem dr_len (s : ByteArray) (a : Nat) : (dr s a).length = s.size - a := by simp [dr]
theorem byte_eq {c : UInt8} {n : Nat} (hn : n < 256) (h : (c.toNat : Int) = n) : c = UInt8.ofNat n := by
  apply UInt8.toNat_inj.1
  rw [UInt8.toNat_ofNat']
  omega
theorem byte_ne {c d : UInt8} (h : (c.toNat : Int) ≠ (d.toNat : Int)) : c ≠ d := by rintro rfl; exact h rfl
section
variable {J : UInt8 → Bool} {s : ByteArray} {f a l : Nat} {e : List Pt}
theorem five_end (h : ¬ a < s.size) : rdT J (f + 1) 5 (dr s a) = none := by rw [dr_end h, rdT_five]
theorem five_48 (h : a < s.size) (hv : (s[a].toNat : Int) = 48) : rdT J (f + 1) 5 (dr s a) = some ([(1, 0)], dr s (a + 1)) := by
  rw [dr_cons h, rdT_five]
  simp only [byte_eq (n := 48) (by omega) hv]
  rfl
theorem five_49 (h : a < s.size) (hv : (s[a].toNat : Int) = 49) : rdT J (f + 1) 5 (dr s a) = some ([(2, 0)], dr s (a + 1)) := by
  rw [dr_cons h, rdT_five]
  simp only [byte_eq (n := 49) (by omega) hv]
  rfl
theorem five_let (h : a < s.size) (h0 : 97 ≤ (s[a].toNat : Int)) (h1 : (s[a].toNat : Int) ≤ 99) : rdT J (f + 1) 5 (dr s a) = some ([(3, (s[a].toNat : Int) - 97)], dr s (a + 1)) := by
  rw [dr_cons h, rdT_five]
  simp only [if_neg (byte_ne (d := 48) (show (s[a].toNat : Int) ≠ ((48 : Nat) : Int) by omega)), if_neg (byte_ne (d := 49) (show (s[a].toNat : Int) ≠ ((49 : Nat) : Int) by omega)), if_pos (show letB s[a] = true from inB_true.2 ⟨h0, h1⟩)]
  rfl
theorem five_open (h : a < s.size) (hv : (s[a].toNat : Int) = 40) : rdT J (f + 1) 5 (dr s a) = match rdT J f 0 (dr s (a + 1)) with
    | none => none
    | some (_, []) => none
    | some (e, d :: q2) => if d = 41 then some (e, q2) else none := by
  rw [dr_cons h, rdT_five]
  simp only [byte_eq (n := 40) (by omega) hv]
  rfl
theorem five_bad (h : a < s.size) (h1 : (s[a].toNat : Int) ≠ 48) (h2 : (s[a].toNat : Int) ≠ 49) (h3 : (s[a].toNat : Int) < 97 ∨ 99 < (s[a].toNat : Int)) (h4 : (s[a].toNat : Int) ≠ 40) : rdT J (f + 1) 5 (dr s a) = none := by
  rw [dr_cons h, rdT_five]
  have hl : ¬ letB s[a] = true := by
    rw [show letB s[a] = false from inB_false.2 h3]; simp
  simp only [if_neg (byte_ne (d := 48) (show (s[a].toNat : Int) ≠ ((48 : Nat) : Int) from h1)), if_neg (byte_ne (d := 49) (show (s[a].toNat : Int) ≠ ((49 : Nat) : Int) from h2)), if_neg hl, if_neg (byte_ne (d := 40) (show (s[a].toNat : Int) ≠ ((40 : Nat) : Int) from h4))]
theorem not_at (h : a < s.size) (hv : (s[a].toNat : Int) = 33) : rdT J (f + 1) 3 (dr s a) = match rdT J f 3 (dr s (a + 1)) with
    | none => none
    | some (e, q) => some (e ++ [(7, 0)], q) := by
  rw [dr_cons h, byte_eq (n := 33) (by omega) hv]
  exact rdT_not _ _
theorem low_at (h5 : l ≠ 5) (h3 : l = 3 → ∀ h : a < s.size, (s[a].toNat : Int) ≠ 33) : rdT J (f + 1) l (dr s a) = match rdT J f (l + 1) (dr s a) with
    | none => none
    | some (e, q) => loT J f l e q := by
  refine rdT_low _ _ _ h5 ?_
  rintro ⟨hl, hh⟩
  by_cases h : a < s.size
  · rw [dr_cons h] at hh
    have h33 : s[a] = 33 := by simpa using hh
    exact h3 hl h (by rw [h33]; rfl)
  · rw [dr_end h] at hh; cases hh
theorem lo_end (h : ¬ a < s.size) : loT J (f + 1) l e (dr s a) = some (e, dr s a) := by rw [dr_end h]; exact loT_nil _ _ _
theorem lo_star (h : a < s.size) (hv : (s[a].toNat : Int) = 42) : loT J (f + 1) 4 e (dr s a) = loT J f 4 (e ++ [(8, 0)]) (dr s (a + 1)) := by
  rw [dr_cons h, byte_eq (n := 42) (by omega) hv, loT_cons, if_pos ⟨rfl, rfl⟩]
theorem lo_bar (h : a < s.size) (hv : (s[a].toNat : Int) = 124) : loT J (f + 1) 0 e (dr s a) = match rdT J f 1 (dr s (a + 1)) with
    | none => none
    | some (x, q2) => loT J f 0 (e ++ x ++ [(5, 0)]) q2 := by
  rw [dr_cons h, byte_eq (n := 124) (by omega) hv, loT_cons, if_neg (by omega), if_pos (.inl ⟨rfl, rfl⟩)]
  rfl
theorem lo_amp (h : a < s.size) (hv : (s[a].toNat : Int) = 38) : loT J (f + 1) 1 e (dr s a) = match rdT J f 2 (dr s (a + 1)) with
    | none => none
    | some (x, q2) => loT J f 1 (e ++ x ++ [(6, 0)]) q2 := by
  rw [dr_cons h, byte_eq (n := 38) (by omega) hv, loT_cons, if_neg (by omega), if_pos (.inr ⟨rfl, rfl⟩)]
  rfl
theorem lo_join (h : a < s.size) (hv : J s[a] = true) : loT J (f + 1) 2 e (dr s a) = match rdT J f 3 (dr s a) with
    | none => none
    | some (x, q2) => loT J f 2 (e ++ x ++ [(4, 0)]) q2 := by
  rw [dr_cons h, loT_cons, if_neg (by omega), if_neg (by omega), if_pos ⟨rfl, hv⟩]
  rfl
theorem lo_stop (h : a < s.size) (h4 : l = 4 → (s[a].toNat : Int) ≠ 42) (h0 : l = 0 → (s[a].toNat : Int) ≠ 124) (h1 : l = 1 → (s[a].toNat : Int) ≠ 38) (h2 : l = 2 → J s[a] = false) : loT J (f + 1) l e (dr s a) = some (e, dr s a) := by
  rw [dr_cons h, loT_cons, if_neg (fun k => h4 k.1 (by rw [k.2]; rfl)), if_neg, if_neg]
  · rintro ⟨k, hj⟩; rw [h2 k] at hj; cases hj
  · rintro (⟨k, hc⟩ | ⟨k, hc⟩)
    · exact h0 k (by rw [hc]; rfl)
    · exact h1 k (by rw [hc]; rfl)
end
/-- The reference goes on with a join behind all but these. -/
def specJ (c : UInt8) : Bool := !(endC c)
theorem specJ_ok : JOk specJ := ⟨fun c h => by rw [specJ, (begC_ne h).2]; rfl, fun c h => by rw [specJ, h]; rfl⟩
theorem specJ_at {c : UInt8} {v : Int} (h : (c.toNat : Int) = v) : specJ c = decide (v ≠ 124 ∧ v ≠ 38 ∧ v ≠ 41 ∧ v ≠ 42) := by
  subst h
  have hc := byte_lt c
  have : ∀ n : Fin 256, specJ (UInt8.ofNat n) = decide (((n.val : Nat) : Int) ≠ 124 ∧ ((n.val : Nat) : Int) ≠ 38 ∧ ((n.val : Nat) : Int) ≠ 41 ∧ ((n.val : Nat) : Int) ≠ 42) := by decide +kernel
  have h2 := this ⟨c.toNat, by omega⟩
  simp only [UInt8.ofNat_toNat] at h2
  exact h2
/-- What a reading from place a leaves: e is read up to place z, or nothing can be read (z = -1). -/
def RdP (s : ByteArray) (f a l : Nat) (e : List Pt) (z : Int) : Prop :=
  (z = -1 ∧ e.length ≤ 2 * (s.size - a) ∧ rdT specJ f l (dr s a) = none) ∨
  (∃ q : Nat, z = q ∧ a < q ∧ q ≤ s.size ∧ e.length + 1 ≤ 2 * (q - a) ∧ rdT specJ f l (dr s a) = some (e, dr s q))
def ReadD (w : World) (s : ByteArray) (f a l : Nat) (r : Ending) (w' : World) : Prop :=
  ∃ (e : List Pt) (v : Value) (z : Int), r = .returned (.tuple #[v, .int .i64 z]) ∧ w'.ownsRow w.heap.size 36 2 v e.length (flatV e) ∧ Below w.heap.size w w' ∧ RdP s f a l e z
theorem RdP.bad {s : ByteArray} {f a l : Nat} (h : rdT specJ f l (dr s a) = none) : RdP s f a l [] (-1) := .inl ⟨rfl, Nat.zero_le _, h⟩
theorem RdP.bd {s : ByteArray} {f a l : Nat} {e : List Pt} {z : Int} (h : RdP s f a l e z) (hs : s.size ≤ 120) (ha : a ≤ s.size) : e.length ≤ 240 ∧ -1 ≤ z ∧ z ≤ 120 := by
  rcases h with ⟨rfl, h, -⟩ | ⟨q, rfl, h1, h2, h3, -⟩ <;> omega
def ReadC (s : ByteArray) (f : Nat) : Prop := ∀ (w : World) (a l : Nat) (ai li : Int), ai = a → li = l → a ≤ s.size → l ≤ 5 → needR (s.size - a) l ≤ f →
  Calls Try.prog 38 #[.string s, .int .i64 ai, .int .i64 li] w (ReadD w s f a l)
set_option maxHeartbeats 4000000 in
theorem read_five {s : ByteArray} (hs : s.size ≤ 120) {f : Nat} (ih : ReadC s f) (w : World) (a : Nat) (ai : Int) (hai : ai = a) (ha : a ≤ s.size) (hf : needR (s.size - a) 5 ≤ f + 1) :
    Calls Try.prog 38 #[.string s, .int .i64 ai, .int .i64 5] w (ReadD w s (f + 1) a 5) := by
  subst hai
  by_cases hlt : a < s.size
  · obtain ⟨v, hv⟩ : ∃ v : Int, (s[a].toNat : Int) = v := ⟨_, rfl⟩
    have hb := byte_lt s[a]
    rw [hv] at hb
    have hb0 : 0 ≤ v := by omega
    have H48 := Lib.hid (fun h : v = 48 => five_48 (J := specJ) (f := f) hlt (by rw [hv]; exact h))
    have H49 := Lib.hid (fun h : v = 49 => five_49 (J := specJ) (f := f) hlt (by rw [hv]; exact h))
    have HLT := Lib.hid (fun (h : 97 ≤ v) (h' : v ≤ 99) => five_let (J := specJ) (f := f) hlt (by rw [hv]; exact h) (by rw [hv]; exact h'))
    have H40 := Lib.hid (fun h : v = 40 => five_open (J := specJ) (f := f) hlt (by rw [hv]; exact h))
    have HBD := Lib.hid (fun h1 h2 h3 h4 => five_bad (J := specJ) (f := f) hlt (by rw [hv]; exact h1) (by rw [hv]; exact h2) (by rw [hv]; exact h3) (by rw [hv]; exact h4))
    rw [hv] at HLT
    by_cases c48 : v = 48
    · subst c48
      go_enter Try.func38, Try.ntmps38
      go_wp2
      go_ret2
      exact ⟨[(1, 0)], _, _, rfl, own_one w _ 1 0 (Nat.le_refl _), (Below.refl _ _).alloc (Nat.le_refl _) _, .inr ⟨a + 1, by first | rfl | omega, by omega, by omega, by simp <;> omega, H48.out (by trivial)⟩⟩
    by_cases c49 : v = 49
    · subst c49
      go_enter Try.func38, Try.ntmps38
      go_wp2
      go_ret2
      exact ⟨[(2, 0)], _, _, rfl, own_one w _ 2 0 (Nat.le_refl _), (Below.refl _ _).alloc (Nat.le_refl _) _, .inr ⟨a + 1, by first | rfl | omega, by omega, by omega, by simp <;> omega, H49.out (by trivial)⟩⟩
    by_cases clt : 97 ≤ v ∧ v ≤ 99
    · obtain ⟨l0, l1⟩ := clt
      have g1 : (v == 48) = false := by simp; omega
      have g2 : (v == 49) = false := by simp; omega
      have hlt4 : v < 100 := by omega
      go_enter Try.func38, Try.ntmps38
      go_wp2
      go_ret2
      exact ⟨[(3, v - 97)], _, _, rfl, own_one w _ 3 _ (Nat.le_refl _), (Below.refl _ _).alloc (Nat.le_refl _) _, .inr ⟨a + 1, by first | rfl | omega, by omega, by omega, by simp <;> omega, HLT.out l0 l1⟩⟩
    have CL := Lib.hid clt
    have hcl : v < 97 ∨ 99 < v := by omega
    by_cases c40 : v = 40
    · subst c40
      have HI := ih w (a + 1) 0 ((a : Int) + 1) 0 (by omega) rfl (by omega) (by omega) (by unfold needR at hf ⊢; omega)
      have HF := Lib.hid hf
      clear hf hcl
      go_enter Try.func38, Try.ntmps38
      go_wp2_with fail
      refine HI.mono ?_
      rintro r w1 ⟨e, v1, z, rfl, hown, hb1, hR⟩
      have hz := (hR.bd hs (by omega)).2
      obtain ⟨z0, z1⟩ := hz
      have HO := hide hown
      have HR := Lib.hid hR
      clear hown
      rcases hR with ⟨rfl, h2, h3⟩ | ⟨q, rfl, h2, h3, h4, h5⟩
      · have H3 := Lib.hid h3
        clear h3
        go_wp2
        go_ret2
        exact ⟨[], _, _, rfl, own_empty w1 _ _ hb1.size, hb1.alloc hb1.size _, RdP.bad (by rw [H40.out (by trivial), H3.out])⟩
      · have H5 := Lib.hid h5
        clear h5
        by_cases hq : q < s.size
        · have hq' : (q : Int) < (s.size : Int) := by omega
          obtain ⟨u, hu⟩ : ∃ u : Int, (s[q].toNat : Int) = u := ⟨_, rfl⟩
          have hub := byte_lt s[q]
          rw [hu] at hub
          have hu0 : 0 ≤ u := by omega
          have HU := Lib.hid hu
          have HDQ := Lib.hid (dr_cons hq)
          by_cases hu41 : u = 41
          · subst hu41
            go_wp2
            go_ret2
            exact ⟨e, v1, _, rfl, unhide HO, hb1, .inr ⟨q + 1, by first | rfl | omega, by omega, by omega, by omega, by rw [H40.out (by trivial), H5.out, HDQ.out]; simp only [byte_eq (n := 41) (by omega) HU.out]; rfl⟩⟩
          · have hu41' : (u == 41) = false := by simpa using hu41
            have hu41n : (u != 41) = true := by simpa using hu41
            go_wp2
            go_ret2
            exact ⟨[], _, _, rfl, own_empty w1 _ _ hb1.size, hb1.alloc hb1.size _, RdP.bad (by rw [H40.out (by trivial), H5.out, HDQ.out]; simp only [if_neg (byte_ne (d := 41) (show (s[q].toNat : Int) ≠ ((41 : Nat) : Int) by rw [HU.out]; exact hu41))])⟩
        · have HDQ := Lib.hid (dr_end hq)
          have hq' : (s.size : Int) ≤ (q : Int) := by omega
          go_wp2
          go_ret2
          exact ⟨[], _, _, rfl, own_empty w1 _ _ hb1.size, hb1.alloc hb1.size _, RdP.bad (by rw [H40.out (by trivial), H5.out, HDQ.out])⟩
    · have HB2 := Lib.hid (HBD.out c48 c49 hcl c40)
      have g1 : (v == 48) = false := by simpa using c48
      have g2 : (v == 49) = false := by simpa using c49
      have g3 : (v == 40) = false := by simpa using c40
      rcases hcl with hcl | hcl
      all_goals
        go_enter Try.func38, Try.ntmps38
        go_wp2
        go_ret2
        exact ⟨[], _, _, rfl, own_empty w _ _ (Nat.le_refl _), (Below.refl _ _).alloc (Nat.le_refl _) _, RdP.bad HB2.out⟩
  · have h0 : (s.size : Int) ≤ (a : Int) := by omega
    go_enter Try.func38, Try.ntmps38
    go_wp2
    go_ret2
    exact ⟨[], _, _, rfl, own_empty w _ _ (Nat.le_refl _), (Below.refl _ _).alloc (Nat.le_refl _) _, RdP.bad (five_end hlt)⟩
theorem PS_one_lit (w : World) (k l : Int) : PS (w.alloc (.cells #[.int .i64 k, .int .i64 l] 36)) (w.heap.size + 1) (some ⟨w.heap.size, 0, none⟩) 1 [(k, l)] := PS.one _ _ _ _ _ (Nat.lt_succ_self _)
theorem RdP.not {s : ByteArray} {f a : Nat} {e : List Pt} {z : Int} (hf : rdT specJ (f + 1) 3 (dr s a) = match rdT specJ f 3 (dr s (a + 1)) with | none => none | some (e, q) => some (e ++ [(7, 0)], q))
    (ha : a < s.size) (h : RdP s f (a + 1) 3 e z) : RdP s (f + 1) a 3 (e ++ [(7, 0)]) z := by
  rcases h with ⟨rfl, h2, h3⟩ | ⟨q, rfl, h2, h3, h4, h5⟩
  · exact .inl ⟨rfl, by simp; omega, by rw [hf, h3]⟩
  · exact .inr ⟨q, rfl, by omega, h3, by simp; omega, by rw [hf, h5]⟩
set_option maxHeartbeats 4000000 in
theorem read_not {s : ByteArray} (hs : s.size ≤ 120) {f : Nat} (ih : ReadC s f) (w : World) (a : Nat) (ai : Int) (hai : ai = a) (hlt : a < s.size) (hv : (s[a].toNat : Int) = 33) (hf : needR (s.size - a) 3 ≤ f + 1) :
    Calls Try.prog 38 #[.string s, .int .i64 ai, .int .i64 3] w (ReadD w s (f + 1) a 3) := by
  subst hai
  have HI := ih w (a + 1) 3 ((a : Int) + 1) 3 (by omega) rfl (by omega) (by omega) (by unfold needR at hf ⊢; omega)
  have HN := Lib.hid (not_at (J := specJ) (f := f) hlt hv)
  have HF := Lib.hid hf
  have hlt' : (a : Int) < (s.size : Int) := by omega
  clear hf
  go_enter Try.func38, Try.ntmps38
  go_wp2_with fail
  refine HI.mono ?_
  rintro r w1 ⟨e, v1, z, rfl, hown, hb1, hR⟩
  have hel := (hR.bd hs (by omega)).1
  have HO := hide hown
  have HR := Lib.hid hR
  clear hown hR
  go_wp2_with (at_builtin; refine wpList_append_parts rfl (.tmp 117) (.tmp 119) rfl w.heap.size (w1.heap.size + 1) v1 e.length e rfl ((unhide HO).alloc _) (some ⟨w1.heap.size, 0, none⟩) 1 1 [(7, 0)] rfl (fun h => nomatch h) (PS_one_lit _ _ _) ?_ ?_ ?_; go_must (omega); go_must (exact le_alloc' hb1.size); go_must (intro v2 w2 hown2 hgrow2))
  go_ret2
  exact ⟨e ++ [(7, 0)], v2, z, rfl, by rw [List.length_append]; exact hown2, (hb1.alloc hb1.size _).grown hgrow2 (le_alloc' hb1.size) (own_block (unhide HO)), HR.out.not HN.out hlt⟩
end Go.Proofs.Ytglffbkldffipaa
