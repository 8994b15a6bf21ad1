/-
  Walks of the functions on numbers of words and ranks.
-/
import Derived.Test.YtgcggmlekmjpdaaBase
namespace Go.Proofs.Ytgcggmlekmjpdaa
open Go.RowKit
set_option linter.unusedVariables false
set_option maxRecDepth 100000


set_option maxHeartbeats 400000 in
theorem wordsOf_any (n : Int) (w : World) (h0 : 0 ≤ n) (h9 : n ≤ 9) :
    Calls Try.prog 59 #[.int .i64 n] w fun e w' => e = .returned (.int .i64 (p3 n.toNat)) ∧ w = w' := by
  obtain ⟨n, rfl⟩ := Int.eq_ofNat_of_zero_le h0
  rw [Int.toNat_natCast]
  go_enter Try.func59, Try.ntmps59
  go_wp2
  go_loop [3, 5] (fun m i => ∃ k : Nat, k ≤ n ∧ i = .int .i64 k ∧ m = .int .i64 (p3 k)) (fun _ i => n - (intOf i).toNat)
  case atStart => exact ⟨0, Nat.zero_le _, rfl, rfl⟩
  case round =>
    obtain ⟨k, hk, rfl, rfl⟩ := hrel
    obtain ⟨b1, b2⟩ := p3_bd (n := k) (by omega)
    by_cases hlt : k < n
    · go_wp2
      go_round
      case rel => exact ⟨k + 1, by omega, by go_num, by simp [p3]; omega⟩
      case measure => simp [intOf]; omega
    · go_wp2
      go_ret
      exact ⟨ret_int (by congr 1; omega), rfl⟩
theorem implWordsOf_any (n : Int) (w : World) :
    Calls Try.prog 38 #[.int .i64 n] w fun e w' => e = .returned (.int .i64 (wordsOfI n)) ∧ w = w' := by
  rcases hc : inB n 0 8
  · go_enter Try.func38, Try.ntmps38
    go_wp2_with (go_at_call 47; refine (within_any _ _ _ _).mono ?_; rintro e w' ⟨rfl, rfl⟩)
    go_ret
    exact ⟨ret_int (by simp [wordsOfI, hc]), rfl⟩
  · have h := inB_true.1 hc
    obtain ⟨h1, h2⟩ := h
    go_enter Try.func38, Try.ntmps38
    go_wp2_with (first | (go_at_call 47; refine (within_any _ _ _ _).mono ?_; rintro e w' ⟨rfl, rfl⟩) | (go_at_call 59; refine (wordsOf_any _ _ h1 (by omega)).mono ?_; rintro e w' ⟨rfl, rfl⟩))
    go_ret
    exact ⟨ret_int (by simp [wordsOfI, hc]), rfl⟩
set_option maxHeartbeats 400000 in
theorem specWordsOf_any (n : Int) (w : World) :
    Calls Try.prog 54 #[.int .i64 n] w fun e w' => e = .returned (.int .i64 (wordsOfI n)) ∧ w = w' := by
  rcases hc : inB n 0 8
  · go_enter Try.func54, Try.ntmps54
    go_wp2_with (go_at_call 45; refine (l1In_any _ _ _ _).mono ?_; rintro e w' ⟨rfl, rfl⟩)
    go_ret
    exact ⟨ret_int (by simp [wordsOfI, hc]), rfl⟩
  · obtain ⟨h1, h2⟩ := inB_true.1 hc
    obtain ⟨n, rfl⟩ := Int.eq_ofNat_of_zero_le h1
    go_enter Try.func54, Try.ntmps54
    go_wp2_with (go_at_call 45; refine (l1In_any _ _ _ _).mono ?_; rintro e w' ⟨rfl, rfl⟩)
    go_loop [3, 4] (fun m i => ∃ k : Nat, k ≤ n ∧ i = .int .i64 k ∧ m = .int .i64 (p3 k)) (fun _ i => n - (intOf i).toNat)
    case atStart => exact ⟨0, Nat.zero_le _, rfl, rfl⟩
    case round =>
      obtain ⟨k, hk, rfl, rfl⟩ := hrel
      obtain ⟨b1, b2⟩ := p3_bd (n := k) (by omega)
      by_cases hlt : k < n
      · go_wp2
        go_round
        case rel => exact ⟨k + 1, by omega, by go_num, by simp [p3]⟩
        case measure => simp [intOf]; omega
      · go_wp2
        go_ret
        exact ⟨ret_int (by simp only [wordsOfI, hc]; simp; congr 1; omega), rfl⟩
set_option maxHeartbeats 400000 in
theorem shorter_any (n : Int) (w : World) (h0 : 0 ≤ n) (h9 : n ≤ 9) :
    Calls Try.prog 48 #[.int .i64 n] w fun e w' => e = .returned (.int .i64 (shN n.toNat)) ∧ w = w' := by
  obtain ⟨n, rfl⟩ := Int.eq_ofNat_of_zero_le h0
  rw [Int.toNat_natCast]
  go_enter Try.func48, Try.ntmps48
  go_wp2
  go_loop [3, 6] (fun m i => ∃ k : Nat, k ≤ n ∧ i = .int .i64 k ∧ m = .int .i64 (shN k)) (fun _ i => n - (intOf i).toNat)
  case atStart => exact ⟨0, Nat.zero_le _, rfl, rfl⟩
  case round =>
    obtain ⟨k, hk, rfl, rfl⟩ := hrel
    obtain ⟨b1, b2⟩ := p3_bd (n := k) (by omega)
    obtain ⟨b3, b4⟩ := shN_bd (n := k) (by omega)
    by_cases hlt : k < n
    · go_wp2_with (go_at_call 59; refine (wordsOf_any _ _ (by omega) (by omega)).mono ?_; rintro e w' ⟨rfl, rfl⟩)
      go_round
      case rel => exact ⟨k + 1, by omega, by go_num, by simp [shN]⟩
      case measure => simp [intOf]; omega
    · go_wp2
      go_ret
      exact ⟨ret_int (by congr 1; omega), rfl⟩
theorem get_byte (s : ByteArray) (k : Nat) (h : k < s.size) : s.data.toList[((k : Nat) : Int).toNat]? = some s[k] := by
  rw [Int.toNat_natCast, List.getElem?_eq_getElem (by simpa using h)]; rfl
theorem letter_any (s : ByteArray) (k : Int) (c : UInt8) (w : World) (h0 : 0 ≤ k) (h1 : s.data.toList[k.toNat]? = some c) (hc : letB c = true) :
    Calls Try.prog 57 #[.string s, .int .i64 k] w fun e w' => e = .returned (.int .i64 (digI c)) ∧ w = w' := by
  obtain ⟨k, rfl⟩ := Int.eq_ofNat_of_zero_le h0
  rw [Int.toNat_natCast] at h1
  obtain ⟨hlt, he⟩ := List.getElem?_eq_some_iff.1 h1
  have hlt' : k < s.size := by simpa using hlt
  have he' : s[k] = c := by rw [← he]; rfl
  have hb := inB_true.1 hc
  obtain ⟨hb1, hb2⟩ := hb
  clear h1 he
  subst he'
  go_enter Try.func57, Try.ntmps57
  go_wp2
  go_ret
  exact ⟨rfl, rfl⟩
theorem letterText_any (d : Int) (w : World) (h0 : 0 ≤ d) (h2 : d ≤ 2) :
    Calls Try.prog 58 #[.int .i64 d] w fun e w' => e = .returned (.string ⟨[chr d].toArray⟩) ∧ w = w' := by
  have h : d = 0 ∨ d = 1 ∨ d = 2 := by omega
  rcases h with rfl | rfl | rfl
  · go_enter Try.func58, Try.ntmps58
    go_wp2
    go_ret
    exact ⟨ret_str (by decide), rfl⟩
  · go_enter Try.func58, Try.ntmps58
    go_wp2
    go_ret
    exact ⟨ret_str (by decide), rfl⟩
  · go_enter Try.func58, Try.ntmps58
    go_wp2
    go_ret
    exact ⟨ret_str (by decide), rfl⟩
set_option maxHeartbeats 400000 in
theorem implWordRank_any (s : ByteArray) (w : World) (hs : s.size ≤ maxLen) :
    Calls Try.prog 35 #[.string s] w fun e w' => e = .returned (.int .i64 (rankI s.data.toList)) ∧ w = w' := by
  rcases hv : wordB s.data.toList
  · go_enter Try.func35, Try.ntmps35
    go_wp2_with (go_at_call 42; refine (implWordValid_any _ _ hs).mono ?_; rintro e w' ⟨rfl, rfl⟩)
    go_ret
    exact ⟨ret_int (by simp [rankI, hv]), rfl⟩
  · obtain ⟨hl, h8⟩ := wordB_iff.1 hv
    have HV := Lib.hid hv
    have HL := Lib.hid hl
    have h8' : s.size ≤ 8 := by simpa using h8
    clear hl
    go_enter Try.func35, Try.ntmps35
    go_wp2_with (go_at_call 42; refine (implWordValid_any _ _ hs).mono ?_; rintro e w' ⟨rfl, rfl⟩)
    go_loop [3, 10] (fun m i => ∃ k : Nat, k ≤ s.size ∧ i = .int .i64 k ∧ m = .int .i64 (baseL (s.data.toList.take k))) (fun _ i => s.size - (intOf i).toNat)
    case atStart => exact ⟨0, Nat.zero_le _, rfl, rfl⟩
    case round =>
      obtain ⟨k, hk, rfl, rfl⟩ := hrel
      obtain ⟨b1, b2⟩ := baseL_bd (s.data.toList.take k) (take_lets HL.out k)
      have b3 := (p3_bd (n := (s.data.toList.take k).length) (by simp; omega)).2
      have b4 := shN_bd (n := s.size) (by omega)
      by_cases hlt : k < s.size
      · have hts := Lib.hid (take_snoc s k hlt)
        have hm : letB s[k] = true := by
          have := HL.out
          rw [letsB, List.all_eq_true] at this
          exact this _ (List.getElem_mem (by simpa using hlt))
        obtain ⟨d1, d2⟩ := letB_dig hm
        go_wp2_with (go_at_call 57; refine (letter_any _ _ s[k] _ (by omega) (get_byte s k hlt) hm).mono ?_; rintro e w' ⟨rfl, rfl⟩)
        go_round
        case rel => exact ⟨k + 1, by omega, by go_num, by rw [hts.out, baseL_snoc]⟩
        case measure => simp [intOf]; omega
      · go_wp2_with (go_at_call 48; refine (shorter_any _ _ (by omega) (by omega)).mono ?_; rintro e w' ⟨rfl, rfl⟩)
        go_ret
        refine ⟨ret_int ?_, rfl⟩
        have hlen : s.data.toList.length = s.size := by simp
        rw [List.take_of_length_le (by simp; omega)]
        simp [rankI, HV.out, rank_base]
end Go.Proofs.Ytgcggmlekmjpdaa
