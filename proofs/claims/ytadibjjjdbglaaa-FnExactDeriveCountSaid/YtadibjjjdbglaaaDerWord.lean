/-
  Derived expressions by words.
-/
import Derived.Test.YtadibjjjdbglaaaDer
import Derived.Test.YtadibjjjdbglaaaWords
namespace Go.Proofs.Ytadibjjjdbglaaa
open Go.RowKit
set_option linter.unusedVariables false
set_option maxRecDepth 100000

/-- The derivatives by the letters of a word, one after the other. -/
noncomputable def dwF : List UInt8 → List Pt → Bool × List Pt
  | [], e => (true, e)
  | c :: r, e => if (derF (digI c) e).1 = true then dwF r (derF (digI c) e).2 else (false, [])
noncomputable def dwordF (s : ByteArray) (e : List Pt) : Bool × List Pt := if exprB e = true ∧ wordB s.data.toList = true then dwF s.data.toList e else (false, [])
theorem dwF_step {s : ByteArray} {k : Nat} (h : k < s.size) {b : Bool} {x y : List Pt} (hd : derF (digI s[k]) x = (b, y)) : dwF (s.data.toList.drop k) x = if b = true then dwF (s.data.toList.drop (k + 1)) y else (false, []) := by
  have e : s.data.toList.drop k = s[k] :: s.data.toList.drop (k + 1) := by
    rw [List.drop_eq_getElem_cons (by simpa using h)]; rfl
  rw [e, dwF, hd]
theorem dwF_end {s : ByteArray} {x : List Pt} : dwF (s.data.toList.drop s.size) x = (true, x) := by
  rw [List.drop_of_length_le (by simp)]; rfl
theorem dwF_len : ∀ (l : List UInt8) (e : List Pt), e.length ≤ 60 → (dwF l e).2.length ≤ 60 := by
  intro l
  induction l with
  | nil => intro e h; exact h
  | cons c r ih =>
    intro e h
    rw [dwF]
    split
    · exact ih _ (derF_len _ _)
    · simp
theorem exprB_len {e : List Pt} (h : exprB e = true) : e.length ≤ 60 := by
  simp [exprB] at h; omega
theorem dwordF_len (s : ByteArray) (e : List Pt) : (dwordF s e).2.length ≤ 60 := by
  unfold dwordF
  split
  · rename_i h; exact dwF_len _ _ (exprB_len h.1)
  · simp
theorem TupD.pair {w w' : World} {p : Bool × List Pt} {b : Bool} {y : List Pt} {r : Ending} (h : TupD w p r w') (hp : p = (b, y)) (hl : y.length ≤ 60) :
    ∃ A c, r = .returned (.tuple #[.slice A y.length c, .bool b]) ∧ SL w' w'.heap.size A y.length c y ∧ w'.ownsRow w.heap.size 45 2 (.slice A y.length c) y.length (flatV y) ∧ Below w.heap.size w w' := by
  subst hp
  exact h.opn (by show y.length ≤ _; omega)
set_option maxHeartbeats 2000000 in
theorem specDeriveWord_all (s : ByteArray) (w : World) (A : Option Addr) (n c : Nat) (e : List Pt) (h : PS w w.heap.size A n e) (hn : n ≤ 1000000000) (hc : n ≤ c) (hcm : c ≤ maxLen) (hs : s.size ≤ maxLen) :
    Calls Try.prog 47 #[.slice A n c, .string s] w (TupD w (dwordF s e)) := by
  have HH := hide h
  have HLE := Lib.hid h.1
  rcases hv : exprB e
  · have HV := Lib.hid hv
    clear hv h
    go_enter Try.func47, Try.ntmps47
    go_wp2_with fail
    refine (specExprValid_any w A n c e (unhide HH) hn).mono ?_
    rintro r w1 ⟨rfl, hb⟩
    rw [HV.out]
    go_wp2
    refine bodyPost_ret (v := .tuple #[.slice (some ⟨w1.heap.size, 0, none⟩) 0 0, .bool false]) (by simp [results, Try.results47, go_sem]) rfl ?_
    exact TupD.emp hb (by rw [dwordF, if_neg (by rw [HV.out]; simp)])
  · have HV := Lib.hid hv
    have h60 := exprB_len hv
    clear hv h
    rcases hi : wordB s.data.toList
    · have HI := Lib.hid hi
      clear h60
      go_enter Try.func47, Try.ntmps47
      go_wp2_with fail
      refine (specExprValid_any w A n c e (unhide HH) hn).mono ?_
      rintro r w1 ⟨rfl, hb⟩
      rw [HV.out]
      go_wp2_with (go_at_call 34; refine (specWordValid_any _ _ hs).mono ?_; rintro e w' ⟨rfl, rfl⟩)
      refine bodyPost_ret (v := .tuple #[.slice (some ⟨w1.heap.size, 0, none⟩) 0 0, .bool false]) (by simp [results, Try.results47, go_sem]) rfl ?_
      exact TupD.emp hb (by rw [dwordF, if_neg (by rw [HI.out]; simp)])
    · have HI := Lib.hid hi
      have hn60 : n ≤ 60 := by have := HLE.out; omega
      clear h60
      obtain ⟨hl, h8⟩ := wordB_iff.1 hi
      have HL := Lib.hid hl
      have h8' : s.size ≤ 8 := by simpa using h8
      have HD := Lib.hid (show dwordF s e = dwF s.data.toList e by rw [dwordF, if_pos ⟨HV.out, HI.out⟩])
      clear hl h8
      have hA0 : A = none → n = 0 ∧ c = 0 := by
        obtain ⟨t, hg, hf, hs⟩ := exprB_iff.1 HV.out
        intro hA
        have h1 := Ex.flat_length t
        have h2 := Ex.sz_pos t
        rw [hf, HLE.out] at h1
        obtain ⟨b, off, e1, -⟩ := (unhide HH).addr (by omega)
        rw [hA] at e1; cases e1
      have HAA := hide hA0
      clear hA0
      go_enter Try.func47, Try.ntmps47
      go_wp2_with fail
      refine (specExprValid_any w A n c e (unhide HH) hn).mono ?_
      rintro r w1 ⟨rfl, hb⟩
      rw [HV.out]
      go_wp2_with (first
        | (go_at_call 34; refine (specWordValid_any _ _ hs).mono ?_; rintro e w' ⟨rfl, rfl⟩)
        | (at_builtin; go_must (refine wpList_append_parts rfl (.tmp 19) (.tmp 20) rfl w.heap.size (w1.heap.size + 1) (.slice (some ⟨w1.heap.size, 0, none⟩) 0 0) 0 [] rfl (own_empty w1 _ _ hb.size) A n c e rfl (unhide HAA) (PS_al ((unhide HH).up hb)) ?_ ?_ ?_); go_must (omega); go_must (exact le_alloc hb.size); go_must (intro v9 w9 hown9 hgrow9)))
      rw [List.nil_append, Nat.zero_add] at hown9
      obtain ⟨A9, c9, hv9, hs9⟩ := SL_own hown9 (by unfold maxLen; omega)
      subst hv9
      have HO9 := hide hown9
      have hbb9 : Below w.heap.size w w9 := (hb.alloc hb.size _).grown hgrow9 (le_alloc hb.size) (own_block (own_empty w1 w.heap.size 45 hb.size))
      clear hs9 hown9 hgrow9
      clear HH HLE
      go_loopw [6, 7] (fun v i wr => ∃ (k m c : Nat) (A : Option Addr) (x : List Pt), k ≤ s.size ∧ i = .int .i64 k ∧ v = .slice A m c ∧ m ≤ 60 ∧ Hid (dwF (s.data.toList.drop k) x = dwF s.data.toList e) ∧ Hid (wr.ownsRow w.heap.size 45 2 (.slice A m c) m (flatV x)) ∧ Below w.heap.size w wr) (fun v i _ => s.size - (intOf i).toNat)
      case atStart => exact ⟨0, n, c9, A9, e, Nat.zero_le _, rfl, rfl, hn60, Lib.hid rfl, HO9, hbb9⟩
      case round =>
        obtain ⟨k, m, c3, A3, x, hk, rfl, rfl, hm60, hq, hown, hbl⟩ := hrel
        obtain ⟨A3', c3', hv3, hsl3⟩ := SL_own (unhide hown) (by unfold maxLen; omega)
        injection hv3 with e1 e2 e3
        subst e1; subst e3
        have HS3 := hide hsl3
        have HM := Lib.hid (own_len (unhide hown))
        clear hsl3 e2
        by_cases hlt : k < s.size
        · have hm : letB s[k] = true := by
            have := HL.out
            rw [letsB, List.all_eq_true] at this
            exact this _ (List.getElem_mem (by simpa using hlt))
          obtain ⟨d1, d2⟩ := inB_true.1 hm
          obtain ⟨b, y, hd⟩ : ∃ b y, derF (digI s[k]) x = (b, y) := ⟨_, _, rfl⟩
          have HDD := Lib.hid hd
          have HY := Lib.hid (show y.length ≤ 60 by have := derF_len (digI s[k]) x; rw [hd] at this; exact this)
          have HST := Lib.hid (dwF_step hlt hd)
          clear hd hm
          go_wp2_with fail
          refine (specDerive_all ((s[k].toNat : Int) - 97) _ _ _ _ x (unhide HS3).1 (by omega) (unhide HS3).2.1 (unhide HS3).2.2.1).mono ?_
          intro r w4 hdd
          have hdd' : TupD _ (derF (digI s[k]) x) r w4 := hdd
          obtain ⟨A4, c4, rfl, hsl4, hown4, hb4⟩ := hdd'.pair HDD.out HY.out
          have hbb4 := hbl.trans (hb4.mono hbl.size)
          have HO4 := hide (own_base hown4 hbl.size)
          clear hdd hdd' hsl4 hown4
          cases b
          · go_wp2
            refine bodyPost_ret (v := .tuple #[.slice (some ⟨w4.heap.size, 0, none⟩) 0 0, .bool false]) (by simp [results, Try.results47, go_sem]) rfl ?_
            exact TupD.emp hbb4 (by rw [HD.out, ← hq.out, HST.out]; simp)
          · have hy60 := HY.out
            go_wp2
            go_roundw
            case rel => exact ⟨k + 1, y.length, c4, A4, y, by omega, by go_num, rfl, hy60, Lib.hid (by rw [← hq.out, HST.out]; simp), HO4, hbb4⟩
            case measure => simp [intOf]; omega
        · obtain rfl : k = s.size := by omega
          go_wp2
          refine bodyPost_ret (v := .tuple #[.slice A3 m c3, .bool true]) (by simp [results, Try.results47, go_sem]) rfl ?_
          rw [show dwordF s e = (true, x) by rw [HD.out, ← hq.out, dwF_end]]
          refine ⟨_, rfl, ?_, hbl⟩
          show World.ownsRow _ _ _ _ _ x.length (flatV x)
          rw [HM.out]
          exact unhide hown
set_option maxHeartbeats 2000000 in
theorem implDeriveWord_all (s : ByteArray) (w : World) (A : Option Addr) (n c : Nat) (e : List Pt) (h : SL w w.heap.size A n c e) (hn : n ≤ 1000000000) (hs : s.size ≤ maxLen) :
    Calls Try.prog 48 #[.slice A n c, .string s] w (TupD w (dwordF s e)) := by
  have HH := hide h
  have HLE := Lib.hid h.1.1
  rcases hv : exprB e
  · have HV := Lib.hid hv
    clear hv h
    go_enter Try.func48, Try.ntmps48
    go_wp2_with fail
    refine (implExprValid_any w A n c e (unhide HH).1).mono ?_
    rintro r w1 ⟨rfl, hb⟩
    rw [HV.out]
    go_wp2
    refine bodyPost_ret (v := .tuple #[.slice none 0 0, .bool false]) (by simp [results, Try.results48, go_sem]) rfl ?_
    exact TupD.no hb (by rw [dwordF, if_neg (by rw [HV.out]; simp)])
  · have HV := Lib.hid hv
    have h60 := exprB_len hv
    clear hv h
    rcases hi : wordB s.data.toList
    · have HI := Lib.hid hi
      clear h60
      go_enter Try.func48, Try.ntmps48
      go_wp2_with fail
      refine (implExprValid_any w A n c e (unhide HH).1).mono ?_
      rintro r w1 ⟨rfl, hb⟩
      rw [HV.out]
      go_wp2_with (go_at_call 58; refine (implWordValid_any _ _ hs).mono ?_; rintro e w' ⟨rfl, rfl⟩)
      refine bodyPost_ret (v := .tuple #[.slice none 0 0, .bool false]) (by simp [results, Try.results48, go_sem]) rfl ?_
      exact TupD.no hb (by rw [dwordF, if_neg (by rw [HI.out]; simp)])
    · have HI := Lib.hid hi
      have hn60 : n ≤ 60 := by have := HLE.out; omega
      clear h60
      obtain ⟨hl, h8⟩ := wordB_iff.1 hi
      have HL := Lib.hid hl
      have h8' : s.size ≤ 8 := by simpa using h8
      have HD := Lib.hid (show dwordF s e = dwF s.data.toList e by rw [dwordF, if_pos ⟨HV.out, HI.out⟩])
      clear hl h8
      go_enter Try.func48, Try.ntmps48
      go_wp2_with fail
      refine (implExprValid_any w A n c e (unhide HH).1).mono ?_
      rintro r w1 ⟨rfl, hb⟩
      rw [HV.out]
      go_wp2_with (go_at_call 58; refine (implWordValid_any _ _ hs).mono ?_; rintro e w' ⟨rfl, rfl⟩)
      refine (clone_any _ _ _ _ _ ((unhide HH).up hb) (by omega)).mono ?_
      rintro r w9 ⟨v9, rfl, hown9, hb9⟩
      have hbb9 := hb.trans (hb9.mono hb.size)
      have hown8 := own_base hown9 hb.size
      rw [HLE.out] at hown8
      obtain ⟨A9, c9, hv9, hs9⟩ := SL_own hown8 (by unfold maxLen; omega)
      subst hv9
      have HO9 := hide hown8
      clear hs9 hown9 hown8
      go_wp2
      clear HH HLE
      go_loopw [6, 22] (fun v i wr => ∃ (k m c : Nat) (A : Option Addr) (x : List Pt), k ≤ s.size ∧ i = .int .i64 k ∧ v = .slice A m c ∧ m ≤ 60 ∧ Hid (dwF (s.data.toList.drop k) x = dwF s.data.toList e) ∧ Hid (wr.ownsRow w.heap.size 45 2 (.slice A m c) m (flatV x)) ∧ Below w.heap.size w wr) (fun v i _ => s.size - (intOf i).toNat)
      case atStart => exact ⟨0, n, c9, A9, e, Nat.zero_le _, rfl, rfl, hn60, Lib.hid rfl, HO9, hbb9⟩
      case round =>
        obtain ⟨k, m, c3, A3, x, hk, rfl, rfl, hm60, hq, hown, hbl⟩ := hrel
        obtain ⟨A3', c3', hv3, hsl3⟩ := SL_own (unhide hown) (by unfold maxLen; omega)
        injection hv3 with e1 e2 e3
        subst e1; subst e3
        have HS3 := hide hsl3
        have HM := Lib.hid (own_len (unhide hown))
        clear hsl3 e2
        by_cases hlt : k < s.size
        · have hm : letB s[k] = true := by
            have := HL.out
            rw [letsB, List.all_eq_true] at this
            exact this _ (List.getElem_mem (by simpa using hlt))
          obtain ⟨d1, d2⟩ := letB_dig hm
          obtain ⟨b, y, hd⟩ : ∃ b y, derF (digI s[k]) x = (b, y) := ⟨_, _, rfl⟩
          have HDD := Lib.hid hd
          have HY := Lib.hid (show y.length ≤ 60 by have := derF_len (digI s[k]) x; rw [hd] at this; exact this)
          have HST := Lib.hid (dwF_step hlt hd)
          clear hd
          go_wp2_with (go_at_call 77; refine (letter_any _ _ s[k] _ (by omega) (get_byte s k hlt) hm).mono ?_; rintro e w' ⟨rfl, rfl⟩)
          refine (implDerive_all (digI s[k]) _ _ _ _ x (unhide HS3) (by omega)).mono ?_
          intro r w4 hdd
          have hdd' : TupD _ (derF (digI s[k]) x) r w4 := hdd
          obtain ⟨A4, c4, rfl, hsl4, hown4, hb4⟩ := hdd'.pair HDD.out HY.out
          have hbb4 := hbl.trans (hb4.mono hbl.size)
          have HO4 := hide (own_base hown4 hbl.size)
          clear hdd hdd' hsl4 hown4
          cases b
          · go_wp2
            refine bodyPost_ret (v := .tuple #[.slice none 0 0, .bool false]) (by simp [results, Try.results48, go_sem]) rfl ?_
            exact TupD.no hbb4 (by rw [HD.out, ← hq.out, HST.out]; simp)
          · have hy60 := HY.out
            go_wp2
            go_roundw
            case rel => exact ⟨k + 1, y.length, c4, A4, y, by omega, by go_num, rfl, hy60, Lib.hid (by rw [← hq.out, HST.out]; simp), HO4, hbb4⟩
            case measure => simp [intOf]; omega
        · obtain rfl : k = s.size := by omega
          go_wp2
          refine bodyPost_ret (v := .tuple #[.slice A3 m c3, .bool true]) (by simp [results, Try.results48, go_sem]) rfl ?_
          rw [show dwordF s e = (true, x) by rw [HD.out, ← hq.out, dwF_end]]
          refine ⟨_, rfl, ?_, hbl⟩
          show World.ownsRow _ _ _ _ _ x.length (flatV x)
          rw [HM.out]
          exact unhide hown
end Go.Proofs.Ytadibjjjdbglaaa
