/-
  Walks of the functions on numbers of words and ranks.
-/
import Derived.Test.YtadibjjjdbglaaaBase
namespace Go.Proofs.Ytadibjjjdbglaaa
open Go.RowKit
set_option linter.unusedVariables false
set_option maxRecDepth 100000


set_option maxHeartbeats 400000 in
theorem wordsOf_any (n : Int) (w : World) (h0 : 0 ≤ n) (h9 : n ≤ 9) :
    Calls Try.prog 91 #[.int .i64 n] w fun e w' => e = .returned (.int .i64 (p3 n.toNat)) ∧ w = w' := by
  obtain ⟨n, rfl⟩ := Int.eq_ofNat_of_zero_le h0
  rw [Int.toNat_natCast]
  go_enter Try.func91, Try.ntmps91
  go_wp2
  go_loop [3, 5] (fun m i => ∃ k : Nat, k ≤ n ∧ i = .int .i64 k ∧ m = .int .i64 (p3 k)) (fun _ i => n - (intOf i).toNat)
  case atStart => exact ⟨0, Nat.zero_le _, rfl, rfl⟩
  case round =>
    obtain ⟨k, hk, rfl, rfl⟩ := hrel
    obtain ⟨b1, b2⟩ := p3_bd (n := k) (by omega)
    by_cases hlt : k < n
    · go_wp2
      go_round
      case rel => exact ⟨k + 1, by omega, by go_num, by simp [p3]; omega⟩
      case measure => simp [intOf]; omega
    · go_wp2
      go_ret
      exact ⟨ret_int (by congr 1; omega), rfl⟩
set_option maxHeartbeats 400000 in
theorem shorter_any (n : Int) (w : World) (h0 : 0 ≤ n) (h9 : n ≤ 9) :
    Calls Try.prog 61 #[.int .i64 n] w fun e w' => e = .returned (.int .i64 (shN n.toNat)) ∧ w = w' := by
  obtain ⟨n, rfl⟩ := Int.eq_ofNat_of_zero_le h0
  rw [Int.toNat_natCast]
  go_enter Try.func61, Try.ntmps61
  go_wp2
  go_loop [3, 6] (fun m i => ∃ k : Nat, k ≤ n ∧ i = .int .i64 k ∧ m = .int .i64 (shN k)) (fun _ i => n - (intOf i).toNat)
  case atStart => exact ⟨0, Nat.zero_le _, rfl, rfl⟩
  case round =>
    obtain ⟨k, hk, rfl, rfl⟩ := hrel
    obtain ⟨b1, b2⟩ := p3_bd (n := k) (by omega)
    obtain ⟨b3, b4⟩ := shN_bd (n := k) (by omega)
    by_cases hlt : k < n
    · go_wp2_with (go_at_call 91; refine (wordsOf_any _ _ (by omega) (by omega)).mono ?_; rintro e w' ⟨rfl, rfl⟩)
      go_round
      case rel => exact ⟨k + 1, by omega, by go_num, by simp [shN]⟩
      case measure => simp [intOf]; omega
    · go_wp2
      go_ret
      exact ⟨ret_int (by congr 1; omega), rfl⟩
theorem get_byte (s : ByteArray) (k : Nat) (h : k < s.size) : s.data.toList[((k : Nat) : Int).toNat]? = some s[k] := by
  rw [Int.toNat_natCast, List.getElem?_eq_getElem (by simpa using h)]; rfl
theorem letter_any (s : ByteArray) (k : Int) (c : UInt8) (w : World) (h0 : 0 ≤ k) (h1 : s.data.toList[k.toNat]? = some c) (hc : letB c = true) :
    Calls Try.prog 77 #[.string s, .int .i64 k] w fun e w' => e = .returned (.int .i64 (digI c)) ∧ w = w' := by
  obtain ⟨k, rfl⟩ := Int.eq_ofNat_of_zero_le h0
  rw [Int.toNat_natCast] at h1
  obtain ⟨hlt, he⟩ := List.getElem?_eq_some_iff.1 h1
  have hlt' : k < s.size := by simpa using hlt
  have he' : s[k] = c := by rw [← he]; rfl
  have hb := inB_true.1 hc
  obtain ⟨hb1, hb2⟩ := hb
  clear h1 he
  subst he'
  go_enter Try.func77, Try.ntmps77
  go_wp2
  go_ret
  exact ⟨rfl, rfl⟩
theorem letterText_any (d : Int) (w : World) (h0 : 0 ≤ d) (h2 : d ≤ 2) :
    Calls Try.prog 92 #[.int .i64 d] w fun e w' => e = .returned (.string ⟨[chr d].toArray⟩) ∧ w = w' := by
  have h : d = 0 ∨ d = 1 ∨ d = 2 := by omega
  rcases h with rfl | rfl | rfl
  · go_enter Try.func92, Try.ntmps92
    go_wp2
    go_ret
    exact ⟨ret_str (by decide), rfl⟩
  · go_enter Try.func92, Try.ntmps92
    go_wp2
    go_ret
    exact ⟨ret_str (by decide), rfl⟩
  · go_enter Try.func92, Try.ntmps92
    go_wp2
    go_ret
    exact ⟨ret_str (by decide), rfl⟩
set_option maxHeartbeats 400000 in
theorem implWordRank_any (s : ByteArray) (w : World) (hs : s.size ≤ maxLen) :
    Calls Try.prog 55 #[.string s] w fun e w' => e = .returned (.int .i64 (rankI s.data.toList)) ∧ w = w' := by
  rcases hv : wordB s.data.toList
  · go_enter Try.func55, Try.ntmps55
    go_wp2_with (go_at_call 58; refine (implWordValid_any _ _ hs).mono ?_; rintro e w' ⟨rfl, rfl⟩)
    go_ret
    exact ⟨ret_int (by simp [rankI, hv]), rfl⟩
  · obtain ⟨hl, h8⟩ := wordB_iff.1 hv
    have HV := Lib.hid hv
    have HL := Lib.hid hl
    have h8' : s.size ≤ 8 := by simpa using h8
    clear hl
    go_enter Try.func55, Try.ntmps55
    go_wp2_with (go_at_call 58; refine (implWordValid_any _ _ hs).mono ?_; rintro e w' ⟨rfl, rfl⟩)
    go_loop [3, 10] (fun m i => ∃ k : Nat, k ≤ s.size ∧ i = .int .i64 k ∧ m = .int .i64 (baseL (s.data.toList.take k))) (fun _ i => s.size - (intOf i).toNat)
    case atStart => exact ⟨0, Nat.zero_le _, rfl, rfl⟩
    case round =>
      obtain ⟨k, hk, rfl, rfl⟩ := hrel
      obtain ⟨b1, b2⟩ := baseL_bd (s.data.toList.take k) (take_lets HL.out k)
      have b3 := (p3_bd (n := (s.data.toList.take k).length) (by simp; omega)).2
      have b4 := shN_bd (n := s.size) (by omega)
      by_cases hlt : k < s.size
      · have hts := Lib.hid (take_snoc s k hlt)
        have hm : letB s[k] = true := by
          have := HL.out
          rw [letsB, List.all_eq_true] at this
          exact this _ (List.getElem_mem (by simpa using hlt))
        obtain ⟨d1, d2⟩ := letB_dig hm
        go_wp2_with (go_at_call 77; refine (letter_any _ _ s[k] _ (by omega) (get_byte s k hlt) hm).mono ?_; rintro e w' ⟨rfl, rfl⟩)
        go_round
        case rel => exact ⟨k + 1, by omega, by go_num, by rw [hts.out, baseL_snoc]⟩
        case measure => simp [intOf]; omega
      · go_wp2_with (go_at_call 61; refine (shorter_any _ _ (by omega) (by omega)).mono ?_; rintro e w' ⟨rfl, rfl⟩)
        go_ret
        refine ⟨ret_int ?_, rfl⟩
        have hlen : s.data.toList.length = s.size := by simp
        rw [List.take_of_length_le (by simp; omega)]
        simp [rankI, HV.out, rank_base]
end Go.Proofs.Ytadibjjjdbglaaa
