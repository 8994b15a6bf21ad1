/-
  Walks of the smallest functions: the two interval tests, the letter test, the tests of words.
-/
import Derived.Test.YtcphbncgkemdoaaRows
import Derived.Test.YtcphbncgkemdoaaWd
import Derived.WalkKit
import Derived.WalkSpells
import Derived.WalkLawsBesides
import Derived.Lib.Hide
namespace Go.Proofs.Ytcphbncgkemdoaa
open Go.RowKit
set_option linter.unusedVariables false
set_option maxRecDepth 100000

/-- What a contract's 'Below' gives the walk: old cells and old marks read as before; no block has gone. -/
theorem bcell {W w1 : World} (hb : Below W.heap.size W w1) : (∀ b o, b < W.heap.size → w1.cell? ⟨b, o, none⟩ = W.cell? ⟨b, o, none⟩) ∧ (∀ b o, b < W.heap.size → w1.frozen? ⟨b, o, none⟩ = W.frozen? ⟨b, o, none⟩) ∧ W.heap.size ≤ w1.heap.size :=
  ⟨fun b o h => hb.cell (p := ⟨b, o, none⟩) h, fun b o h => hb.frozen (p := ⟨b, o, none⟩) h, hb.size⟩
theorem l1In_any (n lo hi : Int) (w : World) :
    Calls Try.prog 49 #[.int .i64 n, .int .i64 lo, .int .i64 hi] w fun e w' => e = .returned (.bool (inB n lo hi)) ∧ w = w' := by
  go_enter Try.func49, Try.ntmps49
  go_wp2
  all_goals (go_ret; exact ⟨by simp [inB, *] <;> omega, rfl⟩)

theorem within_any (n lo hi : Int) (w : World) :
    Calls Try.prog 51 #[.int .i64 n, .int .i64 lo, .int .i64 hi] w fun e w' => e = .returned (.bool (inB n lo hi)) ∧ w = w' := by
  go_enter Try.func51, Try.ntmps51
  go_wp2
  all_goals (go_ret; exact ⟨by simp [inB, *] <;> omega, rfl⟩)

/-- 'string([]byte{b})'. -/
theorem conv_one (W : World) (n : Int) (h0 : 0 ≤ n) (h1 : n ≤ 255) :
    (convert 71 9 (.slice (some ⟨W.heap.size, 0, none⟩) 1 1)).run Try.prog (W.alloc (.cells #[.int .u8 n] 5)) = .ok (.string ⟨[UInt8.ofNat n.toNat].toArray⟩) (W.alloc (.cells #[.int .u8 n] 5)) := by
  refine run_convert_bytes_back (P := Try.prog) (W.alloc (.cells #[.int .u8 n] 5)) 71 9 5 ⟨W.heap.size, 0, none⟩ 1 [UInt8.ofNat n.toNat] Try.underlying71 Try.underlying5 Try.underlying9 ?_
  intro j hj
  obtain rfl : j = 0 := by simpa using hj
  have e : ((UInt8.ofNat n.toNat).toNat : Int) = n := by simp; omega
  show (W.alloc (.cells #[.int .u8 n] 5)).cell? ⟨W.heap.size, 0, none⟩ = some (.int .u8 ((UInt8.ofNat n.toNat).toNat : Int))
  rw [e]
  simp [World.cell?_alloc_new]
theorem ret_int {k : IntKind} {a b : Int} (h : a = b) : Ending.returned (.int k a) = .returned (.int k b) := by rw [h]
theorem ret_bool {a b : Bool} (h : a = b) : Ending.returned (.bool a) = .returned (.bool b) := by rw [h]
theorem ret_str {a b : ByteArray} (h : a = b) : Ending.returned (.string a) = .returned (.string b) := by rw [h]
theorem ret_val {a b : Value} (h : a = b) : Ending.returned a = .returned b := by rw [h]
theorem hide {p : Prop} (h : p) : Hid p := h
theorem unhide {p : Prop} (h : Hid p) : p := h
theorem byte_lt (c : UInt8) : (c.toNat : Int) < 256 := by have := c.toNat_lt; omega

set_option maxHeartbeats 400000 in
theorem specWordValid_any (s : ByteArray) (w : World) (hs : s.size ≤ maxLen) :
    Calls Try.prog 18 #[.string s] w fun e w' => e = .returned (.bool (wordB s.data.toList)) ∧ w = w' := by
  unfold maxLen at hs
  go_enter Try.func18, Try.ntmps18
  go_wp2
  go_loop [3] (fun i => ∃ k : Nat, k ≤ s.size ∧ i = .int .i64 k ∧ Hid (letsB (s.data.toList.take k) = true)) (fun i => s.size - (intOf i).toNat)
  case atStart => exact ⟨0, Nat.zero_le _, rfl, Lib.hid rfl⟩
  case round =>
    obtain ⟨k, hk, rfl, hl⟩ := hrel
    by_cases hlt : k < s.size
    · have hts := Lib.hid (take_snoc s k hlt)
      have hb := byte_lt s[k]
      rcases hc : inB (s[k].toNat : Int) 97 99
      · go_wp2_with (go_at_call 49; refine (l1In_any _ _ _ _).mono ?_; rintro e w' ⟨rfl, rfl⟩)
        go_ret
        refine ⟨?_, rfl⟩
        have : letsB s.data.toList = false := letsB_take_false (k := k + 1) (by rw [hts.out, letsB_snoc]; simp [letB, hc])
        simp [wordB, this]
      · go_wp2_with (go_at_call 49; refine (l1In_any _ _ _ _).mono ?_; rintro e w' ⟨rfl, rfl⟩)
        go_round
        case rel => exact ⟨k + 1, by omega, by go_num, Lib.hid (by rw [hts.out, letsB_snoc, hl.out]; simp [letB, hc])⟩
        case measure => simp [intOf]; omega
    · go_wp2
      go_ret
      refine ⟨?_, rfl⟩
      have h1 := hl.out
      rw [List.take_of_length_le (by simp; omega)] at h1
      simp [wordB, h1]
set_option maxHeartbeats 400000 in
theorem areLetters_any (s : ByteArray) (m : Int) (w : World) (hs : s.size ≤ maxLen) :
    Calls Try.prog 52 #[.string s, .int .i64 m] w fun e w' => e = .returned (.bool (letsB s.data.toList && decide ((s.data.toList.length : Int) ≤ m))) ∧ w = w' := by
  unfold maxLen at hs
  go_enter Try.func52, Try.ntmps52
  go_wp2
  go_loop [8] (fun i => ∃ k : Nat, k ≤ s.size ∧ i = .int .i64 k ∧ Hid (letsB (s.data.toList.take k) = true)) (fun i => s.size - (intOf i).toNat)
  case atStart => exact ⟨0, Nat.zero_le _, rfl, Lib.hid rfl⟩
  case round =>
    obtain ⟨k, hk, rfl, hl⟩ := hrel
    by_cases hlt : k < s.size
    · have hts := Lib.hid (take_snoc s k hlt)
      have hb := byte_lt s[k]
      rcases hc : inB (s[k].toNat : Int) 97 99
      · go_wp2_with (go_at_call 51; refine (within_any _ _ _ _).mono ?_; rintro e w' ⟨rfl, rfl⟩)
        go_ret
        refine ⟨?_, rfl⟩
        have : letsB s.data.toList = false := letsB_take_false (k := k + 1) (by rw [hts.out, letsB_snoc]; simp [letB, hc])
        simp [this]
      · go_wp2_with (go_at_call 51; refine (within_any _ _ _ _).mono ?_; rintro e w' ⟨rfl, rfl⟩)
        go_round
        case rel => exact ⟨k + 1, by omega, by go_num, Lib.hid (by rw [hts.out, letsB_snoc, hl.out]; simp [letB, hc])⟩
        case measure => simp [intOf]; omega
    · go_wp2
      go_ret
      refine ⟨?_, rfl⟩
      have h1 := hl.out
      rw [List.take_of_length_le (by simp; omega)] at h1
      simp [h1]
theorem implWordValid_any (s : ByteArray) (w : World) (hs : s.size ≤ maxLen) :
    Calls Try.prog 19 #[.string s] w fun e w' => e = .returned (.bool (wordB s.data.toList)) ∧ w = w' := by
  go_enter Try.func19, Try.ntmps19
  go_wp2_with (go_at_call 52; refine (areLetters_any _ _ _ hs).mono ?_; rintro e w' ⟨rfl, rfl⟩)
  go_ret
  exact ⟨rfl, rfl⟩
end Go.Proofs.Ytcphbncgkemdoaa
