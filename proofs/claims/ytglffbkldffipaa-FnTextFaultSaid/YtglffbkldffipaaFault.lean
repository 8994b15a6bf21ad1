/-
  The first byte of a text that cannot be read: both functions do the same steps.
-/
import Derived.Test.YtglffbkldffipaaBase
import Derived.Laws.Externs
namespace Go.Proofs.Ytglffbkldffipaa
open Go.RowKit
set_option linter.unusedVariables false
set_option maxRecDepth 100000

/-- One byte is read: brackets open, an operand is behind; nothing where it cannot be read. -/
def stepT (o : Int) (r : Bool) (v : Int) : Option (Int × Bool) :=
  if v = 48 ∨ v = 49 ∨ v = 97 ∨ v = 98 ∨ v = 99 then some (o, true)
  else if v = 40 then some (o + 1, false)
  else if v = 33 then some (o, false)
  else if r = false then none
  else if v = 42 then some (o, r)
  else if v = 124 ∨ v = 38 then some (o, false)
  else if v = 41 ∧ 0 < o then some (o - 1, r)
  else none
/-- How many bytes of a text can be read. -/
def faultT : List UInt8 → Int → Bool → Int
  | [], _, _ => 0
  | c :: l, o, r => match stepT o r (c.toNat : Int) with
    | some (o', r') => 1 + faultT l o' r'
    | none => 0
def faultI (l : List UInt8) : Int := if 120 < l.length then -1 else faultT l 0 false
theorem faultT_bd (l : List UInt8) (o : Int) (r : Bool) : 0 ≤ faultT l o r ∧ faultT l o r ≤ l.length := by
  induction l generalizing o r with
  | nil => simp [faultT]
  | cons c l ih =>
    unfold faultT
    split
    · rename_i o' r' _; have := ih o' r'; simp; omega
    · simp; omega

theorem byteString_any (s : ByteArray) (c : Int) (w : World) : (callFunc 60 #[.string s, .int .u8 c]).run Try.prog w = .ok (.value (.int .i64 (firstIdx s c.toNat.toUInt8))) w := by
  rw [run_callFunc_extern (fn := Try.f60) (e := Extern.BytealgIndexByte.indexByte) Try.func60 (by kernel_rfl) (by kernel_rfl) (by kernel_rfl) (by kernel_rfl), run_indexByte_string]
  rfl
theorem indexByte_any (s : ByteArray) (c : Int) (w : World) :
    Calls Try.prog 28 #[.string s, .int .u8 c] w fun e w' => e = .returned (.int .i64 (firstIdx s c.toNat.toUInt8)) ∧ w = w' := by
  have h := byteString_any s c
  go_enter Try.func28, Try.ntmps28
  go_wp2
  go_ret
  exact ⟨rfl, rfl⟩
/-- Is it a sign of an operand? -/
def opnB (v : Int) : Bool := decide (v = 48 ∨ v = 49 ∨ v = 97 ∨ v = 98 ∨ v = 99)
theorem firstIdx_opn (v : Int) (h0 : 0 ≤ v) (h1 : v < 256) : ∃ i : Int, firstIdx ⟨#[48, 49, 97, 98, 99]⟩ v.toNat.toUInt8 = i ∧ decide (0 ≤ i) = opnB v := by
  refine ⟨_, rfl, ?_⟩
  obtain ⟨n, rfl⟩ := Int.eq_ofNat_of_zero_le h0
  have hn : n < 256 := by omega
  have : ∀ n : Fin 256, decide (0 ≤ firstIdx ⟨#[48, 49, 97, 98, 99]⟩ (((n.val : Nat) : Int)).toNat.toUInt8) = opnB ((n.val : Nat) : Int) := by decide +kernel
  exact this ⟨n, hn⟩

/-- The classes of bytes, with what each test says. -/
def Cls (v : Int) : Prop := (v = 48 ∨ v = 49 ∨ v = 97 ∨ v = 98 ∨ v = 99) ∨ v = 40 ∨ v = 33 ∨ v = 42 ∨ v = 124 ∨ v = 38 ∨ v = 41 ∨
  (v ≠ 48 ∧ v ≠ 49 ∧ v ≠ 97 ∧ v ≠ 98 ∧ v ≠ 99 ∧ v ≠ 40 ∧ v ≠ 33 ∧ v ≠ 42 ∧ v ≠ 124 ∧ v ≠ 38 ∧ v ≠ 41)
theorem cls (v : Int) : Cls v := by unfold Cls; omega

/-- After k bytes: what is left to read tells the rest. -/
def FaultAt (l : List UInt8) (k : Nat) (o : Int) (r : Bool) : Prop := k ≤ l.length ∧ 0 ≤ o ∧ o ≤ k ∧ faultT l 0 false = k + faultT (l.drop k) o r
theorem FaultAt.zero (l : List UInt8) : FaultAt l 0 0 false := ⟨Nat.zero_le _, Int.le_refl _, Int.le_refl _, by simp⟩
theorem FaultAt.next {s : ByteArray} {k : Nat} {o o' : Int} {r r' : Bool} (h : FaultAt s.data.toList k o r) (hk : k < s.size) (hs : stepT o r (s[k].toNat : Int) = some (o', r')) (h0 : 0 ≤ o') (h1 : o' ≤ o + 1) : FaultAt s.data.toList (k + 1) o' r' := by
  have hl : k < s.data.toList.length := by simpa using hk
  obtain ⟨a, b, c, d⟩ := h
  refine ⟨by omega, h0, by omega, ?_⟩
  rw [d, List.drop_eq_getElem_cons hl]
  have e : s.data.toList[k] = s[k] := rfl
  rw [faultT, e, hs]
  simp; omega
theorem FaultAt.stop {s : ByteArray} {k : Nat} {o : Int} {r : Bool} (h : FaultAt s.data.toList k o r) (hk : k < s.size) (hs : stepT o r (s[k].toNat : Int) = none) (h120 : s.size ≤ 120) : faultI s.data.toList = k := by
  have hl : k < s.data.toList.length := by simpa using hk
  obtain ⟨a, b, c, d⟩ := h
  have h2 : ¬ 120 < s.data.toList.length := by simp; omega
  rw [faultI, if_neg h2, d, List.drop_eq_getElem_cons hl]
  have e : s.data.toList[k] = s[k] := rfl
  rw [faultT, e, hs]; simp
theorem FaultAt.done {s : ByteArray} {o : Int} {r : Bool} (h : FaultAt s.data.toList s.size o r) (h120 : s.size ≤ 120) : faultI s.data.toList = s.size := by
  obtain ⟨a, b, c, d⟩ := h
  have h2 : ¬ 120 < s.data.toList.length := by simp; omega
  rw [faultI, if_neg h2, d, List.drop_of_length_le (by simp)]; simp [faultT]

set_option maxHeartbeats 4000000 in
theorem implTextFault_any (s : ByteArray) (w : World) (hs : s.size ≤ maxLen) :
    Calls Try.prog 11 #[.string s] w fun e w' => e = .returned (.int .i64 (faultI s.data.toList)) ∧ w = w' := by
  unfold maxLen at hs
  by_cases h120 : s.size ≤ 120
  · go_enter Try.func11, Try.ntmps11
    go_wp2
    go_loop [3, 4, 12] (fun o r i => ∃ (k : Nat) (ov : Int) (rv : Bool), i = .int .i64 k ∧ o = .int .i64 ov ∧ r = .bool rv ∧ k ≤ s.size ∧ 0 ≤ ov ∧ ov ≤ k ∧ Hid (FaultAt s.data.toList k ov rv)) (fun _ _ i => s.size - (intOf i).toNat)
    case atStart => exact ⟨0, 0, false, rfl, rfl, rfl, Nat.zero_le _, Int.le_refl _, Int.le_refl _, Lib.hid (FaultAt.zero _)⟩
    case round =>
      obtain ⟨k, ov, rv, rfl, rfl, rfl, hk, ho0, ho1, hF⟩ := hrel
      by_cases hlt : k < s.size
      · obtain ⟨v, hv⟩ : ∃ v : Int, (s[k].toNat : Int) = v := ⟨_, rfl⟩
        have hb := byte_lt s[k]
        rw [hv] at hb
        have hb0 : 0 ≤ v := by omega
        have HN : Hid (∀ o' r', stepT ov rv v = some (o', r') → 0 ≤ o' → o' ≤ ov + 1 → FaultAt s.data.toList (k + 1) o' r') := fun o' r' e => hF.out.next hlt (by rw [hv]; exact e)
        have HS : Hid (stepT ov rv v = none → faultI s.data.toList = k) := fun e => hF.out.stop hlt (by rw [hv]; exact e) h120
        obtain ⟨ix, hix, hiy⟩ := firstIdx_opn v hb0 hb
        have CI : Hid (∀ W : World, Calls Try.prog 28 #[.string ⟨#[48, 49, 97, 98, 99]⟩, .int .u8 v] W fun e w' => e = .returned (.int .i64 ix) ∧ W = w') := fun W => by rw [← hix]; exact indexByte_any _ _ W
        clear hix hF
        rcases cls v with hc | hc | hc | hc | hc | hc | hc | hc
        · have hi : 0 ≤ ix := by
            have : opnB v = true := by simpa [opnB] using hc
            rw [this] at hiy; simpa using hiy
          have HC := Lib.hid hc
          clear hiy hc
          go_wp2_with (go_at_call 28; refine (unhide CI _).mono ?_; rintro e w' ⟨rfl, rfl⟩)
          go_round
          case rel => exact ⟨k + 1, ov, true, by go_num, rfl, rfl, by omega, by omega, by omega, Lib.hid (HN.out ov true (by rw [stepT, if_pos HC.out]) (by omega) (by omega))⟩
          case measure => simp [intOf]; omega
        · subst hc
          have hi : ix < 0 := by
            have : decide (0 ≤ ix) = false := hiy
            simpa using this
          clear hiy
          go_wp2_with (go_at_call 28; refine (unhide CI _).mono ?_; rintro e w' ⟨rfl, rfl⟩)
          go_round
          case rel => exact ⟨k + 1, (ov + 1), false, by go_num, rfl, rfl, by omega, by omega, by omega, Lib.hid (HN.out (ov + 1) false (by simp [stepT]) (by omega) (by omega))⟩
          case measure => simp [intOf]; omega
        · subst hc
          have hi : ix < 0 := by
            have : decide (0 ≤ ix) = false := hiy
            simpa using this
          clear hiy
          go_wp2_with (go_at_call 28; refine (unhide CI _).mono ?_; rintro e w' ⟨rfl, rfl⟩)
          go_round
          case rel => exact ⟨k + 1, ov, false, by go_num, rfl, rfl, by omega, by omega, by omega, Lib.hid (HN.out ov false (by simp [stepT]) (by omega) (by omega))⟩
          case measure => simp [intOf]; omega
        · subst hc
          have hi : ix < 0 := by
            have : decide (0 ≤ ix) = false := hiy
            simpa using this
          clear hiy
          cases rv
          · go_wp2_with (go_at_call 28; refine (unhide CI _).mono ?_; rintro e w' ⟨rfl, rfl⟩)
            go_ret
            exact ⟨ret_int (HS.out (by simp [stepT])).symm, rfl⟩
          · go_wp2_with (go_at_call 28; refine (unhide CI _).mono ?_; rintro e w' ⟨rfl, rfl⟩)
            go_round
            case rel => exact ⟨k + 1, ov, true, by go_num, rfl, rfl, by omega, by omega, by omega, Lib.hid (HN.out ov true (by simp [stepT]) (by omega) (by omega))⟩
            case measure => simp [intOf]; omega
        · subst hc
          have hi : ix < 0 := by
            have : decide (0 ≤ ix) = false := hiy
            simpa using this
          clear hiy
          cases rv
          · go_wp2_with (go_at_call 28; refine (unhide CI _).mono ?_; rintro e w' ⟨rfl, rfl⟩)
            go_ret
            exact ⟨ret_int (HS.out (by simp [stepT])).symm, rfl⟩
          · go_wp2_with (go_at_call 28; refine (unhide CI _).mono ?_; rintro e w' ⟨rfl, rfl⟩)
            go_round
            case rel => exact ⟨k + 1, ov, false, by go_num, rfl, rfl, by omega, by omega, by omega, Lib.hid (HN.out ov false (by simp [stepT]) (by omega) (by omega))⟩
            case measure => simp [intOf]; omega
        · subst hc
          have hi : ix < 0 := by
            have : decide (0 ≤ ix) = false := hiy
            simpa using this
          clear hiy
          cases rv
          · go_wp2_with (go_at_call 28; refine (unhide CI _).mono ?_; rintro e w' ⟨rfl, rfl⟩)
            go_ret
            exact ⟨ret_int (HS.out (by simp [stepT])).symm, rfl⟩
          · go_wp2_with (go_at_call 28; refine (unhide CI _).mono ?_; rintro e w' ⟨rfl, rfl⟩)
            go_round
            case rel => exact ⟨k + 1, ov, false, by go_num, rfl, rfl, by omega, by omega, by omega, Lib.hid (HN.out ov false (by simp [stepT]) (by omega) (by omega))⟩
            case measure => simp [intOf]; omega
        · subst hc
          have hi : ix < 0 := by
            have : decide (0 ≤ ix) = false := hiy
            simpa using this
          clear hiy
          cases rv
          · go_wp2_with (go_at_call 28; refine (unhide CI _).mono ?_; rintro e w' ⟨rfl, rfl⟩)
            go_ret
            exact ⟨ret_int (HS.out (by simp [stepT])).symm, rfl⟩
          · by_cases ho : 0 < ov
            · go_wp2_with (go_at_call 28; refine (unhide CI _).mono ?_; rintro e w' ⟨rfl, rfl⟩)
              go_round
              case rel => exact ⟨k + 1, ov - 1, true, by go_num, rfl, rfl, by omega, by omega, by omega, Lib.hid (HN.out (ov - 1) true (by simp [stepT, ho]) (by omega) (by omega))⟩
              case measure => simp [intOf]; omega
            · go_wp2_with (go_at_call 28; refine (unhide CI _).mono ?_; rintro e w' ⟨rfl, rfl⟩)
              go_ret
              exact ⟨ret_int (HS.out (by simp [stepT, ho])).symm, rfl⟩
        · have HC := Lib.hid hc
          have hi : ix < 0 := by
            have h1 : opnB v = false := by simp only [opnB, decide_eq_false_iff_not]; omega
            rw [h1] at hiy; simpa using hiy
          have g1 : (v == 40) = false := by simp; omega
          have g2 : (v == 33) = false := by simp; omega
          have g3 : (v == 42) = false := by simp; omega
          have g4 : (v == 124) = false := by simp; omega
          have g5 : (v == 38) = false := by simp; omega
          have g6 : (v == 41) = false := by simp; omega
          clear hiy hc
          have HT : Hid (stepT ov rv v = none) := by
            have := HC.out
            show stepT ov rv v = none
            unfold stepT
            rw [if_neg (by omega), if_neg (by omega), if_neg (by omega)]
            split
            · rfl
            · rw [if_neg (by omega), if_neg (by omega), if_neg (by omega)]
          cases rv
          · go_wp2_with (go_at_call 28; refine (unhide CI _).mono ?_; rintro e w' ⟨rfl, rfl⟩)
            go_ret
            exact ⟨ret_int (HS.out HT.out).symm, rfl⟩
          · go_wp2_with (go_at_call 28; refine (unhide CI _).mono ?_; rintro e w' ⟨rfl, rfl⟩)
            go_ret
            exact ⟨ret_int (HS.out HT.out).symm, rfl⟩
      · obtain rfl : k = s.size := by omega
        go_wp2
        go_ret
        exact ⟨ret_int (hF.out.done h120).symm, rfl⟩
  · go_enter Try.func11, Try.ntmps11
    go_wp2
    go_ret
    exact ⟨ret_int (by rw [faultI, if_pos (by simp; omega)]), rfl⟩

set_option maxHeartbeats 4000000 in
theorem specTextFault_any (s : ByteArray) (w : World) (hs : s.size ≤ maxLen) :
    Calls Try.prog 10 #[.string s] w fun e w' => e = .returned (.int .i64 (faultI s.data.toList)) ∧ w = w' := by
  unfold maxLen at hs
  by_cases h120 : s.size ≤ 120
  · go_enter Try.func10, Try.ntmps10
    go_wp2
    go_loop [3, 4, 5] (fun o r i => ∃ (k : Nat) (ov : Int) (rv : Bool), i = .int .i64 k ∧ o = .int .i64 ov ∧ r = .bool rv ∧ k ≤ s.size ∧ 0 ≤ ov ∧ ov ≤ k ∧ Hid (FaultAt s.data.toList k ov rv)) (fun _ _ i => s.size - (intOf i).toNat)
    case atStart => exact ⟨0, 0, false, rfl, rfl, rfl, Nat.zero_le _, Int.le_refl _, Int.le_refl _, Lib.hid (FaultAt.zero _)⟩
    case round =>
      obtain ⟨k, ov, rv, rfl, rfl, rfl, hk, ho0, ho1, hF⟩ := hrel
      by_cases hlt : k < s.size
      · obtain ⟨v, hv⟩ : ∃ v : Int, (s[k].toNat : Int) = v := ⟨_, rfl⟩
        have hb := byte_lt s[k]
        rw [hv] at hb
        have hb0 : 0 ≤ v := by rw [← hv]; omega
        have HN : Hid (∀ o' r', stepT ov rv v = some (o', r') → 0 ≤ o' → o' ≤ ov + 1 → FaultAt s.data.toList (k + 1) o' r') := fun o' r' e => hF.out.next hlt (by rw [hv]; exact e)
        have HS : Hid (stepT ov rv v = none → faultI s.data.toList = k) := fun e => hF.out.stop hlt (by rw [hv]; exact e) h120
        clear hF
        rcases cls v with hc | hc | hc | hc | hc | hc | hc | hc
        · rcases hc with hc | hc | hc | hc | hc
          all_goals
            subst hc
            go_wp2
            go_round
            case rel => exact ⟨k + 1, ov, true, by go_num, rfl, rfl, by omega, by omega, by omega, Lib.hid (HN.out ov true (by simp [stepT]) (by omega) (by omega))⟩
            case measure => simp [intOf]; omega
        · subst hc
          go_wp2
          go_round
          case rel => exact ⟨k + 1, (ov + 1), false, by go_num, rfl, rfl, by omega, by omega, by omega, Lib.hid (HN.out (ov + 1) false (by simp [stepT]) (by omega) (by omega))⟩
          case measure => simp [intOf]; omega
        · subst hc
          go_wp2
          go_round
          case rel => exact ⟨k + 1, ov, false, by go_num, rfl, rfl, by omega, by omega, by omega, Lib.hid (HN.out ov false (by simp [stepT]) (by omega) (by omega))⟩
          case measure => simp [intOf]; omega
        · subst hc
          cases rv
          · go_wp2
            go_ret
            exact ⟨ret_int (HS.out (by simp [stepT])).symm, rfl⟩
          · go_wp2
            go_round
            case rel => exact ⟨k + 1, ov, true, by go_num, rfl, rfl, by omega, by omega, by omega, Lib.hid (HN.out ov true (by simp [stepT]) (by omega) (by omega))⟩
            case measure => simp [intOf]; omega
        · subst hc
          cases rv
          · go_wp2
            go_ret
            exact ⟨ret_int (HS.out (by simp [stepT])).symm, rfl⟩
          · go_wp2
            go_round
            case rel => exact ⟨k + 1, ov, false, by go_num, rfl, rfl, by omega, by omega, by omega, Lib.hid (HN.out ov false (by simp [stepT]) (by omega) (by omega))⟩
            case measure => simp [intOf]; omega
        · subst hc
          cases rv
          · go_wp2
            go_ret
            exact ⟨ret_int (HS.out (by simp [stepT])).symm, rfl⟩
          · go_wp2
            go_round
            case rel => exact ⟨k + 1, ov, false, by go_num, rfl, rfl, by omega, by omega, by omega, Lib.hid (HN.out ov false (by simp [stepT]) (by omega) (by omega))⟩
            case measure => simp [intOf]; omega
        · subst hc
          cases rv
          · go_wp2
            go_ret
            exact ⟨ret_int (HS.out (by simp [stepT])).symm, rfl⟩
          · by_cases ho : 0 < ov
            · go_wp2
              go_round
              case rel => exact ⟨k + 1, (ov - 1), true, by go_num, rfl, rfl, by omega, by omega, by omega, Lib.hid (HN.out (ov - 1) true (by simp [stepT, ho]) (by omega) (by omega))⟩
              case measure => simp [intOf]; omega
            · go_wp2
              go_ret
              exact ⟨ret_int (HS.out (by simp [stepT, ho])).symm, rfl⟩
        · have HC := Lib.hid hc
          have g0 : (v == 48) = false := by simp; omega
          have g00 : (v == 49) = false := by simp; omega
          have g1 : (v == 40) = false := by simp; omega
          have g2 : (v == 33) = false := by simp; omega
          have g3 : (v == 42) = false := by simp; omega
          have g4 : (v == 124) = false := by simp; omega
          have g5 : (v == 38) = false := by simp; omega
          have g6 : (v == 41) = false := by simp; omega
          have HT : Hid (stepT ov rv v = none) := by
            have := HC.out
            show stepT ov rv v = none
            unfold stepT
            rw [if_neg (by omega), if_neg (by omega), if_neg (by omega)]
            split
            · rfl
            · rw [if_neg (by omega), if_neg (by omega), if_neg (by omega)]
          have hr : v < 97 ∨ 99 < v := by omega
          clear hc
          rcases hr with hr | hr
          all_goals
            cases rv
            all_goals
              go_wp2
              go_ret
              exact ⟨ret_int (HS.out HT.out).symm, rfl⟩
      · obtain rfl : k = s.size := by omega
        go_wp2
        go_ret
        exact ⟨ret_int (hF.out.done h120).symm, rfl⟩
  · go_enter Try.func10, Try.ntmps10
    go_wp2
    go_ret
    exact ⟨ret_int (by rw [faultI, if_pos (by simp; omega)]), rfl⟩

theorem wFnExactTextFault (s : ByteArray) (w : World) (hs : s.size ≤ maxLen) : Calls Try.prog 3 #[.string s] w fun e w' => e = .returned (.bool true) ∧ Below w.heap.size w w' := by
  by_cases hb : s.size ≤ 1048576
  · go_enter Try.func3, Try.ntmps3
    go_wp2_with (first | (go_at_call 10; refine (specTextFault_any _ _ hs).mono ?_; rintro e w' ⟨rfl, rfl⟩) | (go_at_call 11; refine (implTextFault_any _ _ hs).mono ?_; rintro e w' ⟨rfl, rfl⟩))
    go_ret
    exact ⟨rfl, Below.refl _ _⟩
  · go_enter Try.func3, Try.ntmps3
    go_wp2
    go_ret
    exact ⟨rfl, Below.refl _ _⟩
end Go.Proofs.Ytglffbkldffipaa
