/-
  Walks of the functions that turn words and find words by their numbers.
-/
import Derived.Test.YtgcggmlekmjpdaaWords
namespace Go.Proofs.Ytgcggmlekmjpdaa
open Go.RowKit
set_option linter.unusedVariables false
set_option maxRecDepth 100000

/-- What both functions answer: the word with a number and true, or nothing and false. -/
def watV (n : Int) : Value := if inB n 0 9840 = true then .tuple #[.string ⟨(wat n).toArray⟩, .bool true] else .tuple #[.string ⟨#[]⟩, .bool false]

set_option maxHeartbeats 400000 in
theorem implWordAt_any (n : Int) (w : World) :
    Calls Try.prog 36 #[.int .i64 n] w fun e w' => e = .returned (watV n) ∧ w = w' := by
  have e9 : shN 9 = 9841 := by decide
  rcases hc : inB n 0 9840
  · go_enter Try.func36, Try.ntmps36
    go_wp2_with (first | (go_at_call 48; refine (shorter_any _ _ (by omega) (by omega)).mono ?_; rintro e w' ⟨rfl, rfl⟩) | (go_at_call 47; refine (within_any _ _ _ _).mono ?_; rintro e w' ⟨rfl, rfl⟩))
    go_ret2
    exact ⟨ret_val (by simp [watV, hc]), rfl⟩
  · obtain ⟨h1, h2⟩ := inB_true.1 hc
    go_enter Try.func36, Try.ntmps36
    go_wp2_with (first | (go_at_call 48; refine (shorter_any _ _ (by omega) (by omega)).mono ?_; rintro e w' ⟨rfl, rfl⟩) | (go_at_call 47; refine (within_any _ _ _ _).mono ?_; rintro e w' ⟨rfl, rfl⟩))
    go_loop [4] (fun i => ∃ k : Nat, k ≤ 8 ∧ i = .int .i64 k ∧ shN k ≤ n) (fun i => 8 - (intOf i).toNat)
    case atStart => exact ⟨0, by omega, rfl, h1⟩
    case round =>
      obtain ⟨k, hk, rfl, hle⟩ := hrel
      by_cases hlt : shN (k + 1) ≤ n
      · have hk8 : k ≤ 7 := by
          rcases Nat.lt_or_ge k 8 with h | h
          · omega
          · obtain rfl : k = 8 := by omega
            have e : shN (8 + 1) = 9841 := by decide
            omega
        go_wp2_with (go_at_call 48; refine (shorter_any _ _ (by omega) (by omega)).mono ?_; rintro e w' ⟨rfl, rfl⟩)
        go_round
        case rel => exact ⟨k + 1, by omega, by go_num, hlt⟩
        case measure => simp [intOf]; omega
      · obtain ⟨b3, b4⟩ := shN_bd (n := k) (by omega)
        have b5 : n - shN k < p3 k := by
          have e : shN (k + 1) = shN k + p3 k := rfl
          omega
        have B5 := Lib.hid b5
        clear b5
        go_wp2_with (go_at_call 48; refine (shorter_any _ _ (by omega) (by omega)).mono ?_; rintro e w' ⟨rfl, rfl⟩)
        go_loop [0, 5, 23] (fun m o i => ∃ (j : Nat) (l : List UInt8) (x : Int), j ≤ k ∧ i = .int .i64 j ∧ m = .int .i64 x ∧ o = .string ⟨l.toArray⟩ ∧ 0 ≤ x ∧ x ≤ 9840 ∧ Hid (l.length = j ∧ letsB l = true ∧ n - shN k = p3 j * x + baseL l)) (fun _ _ i => k - (intOf i).toNat)
        case atStart => exact ⟨0, [], n - shN k, by omega, rfl, rfl, rfl, by omega, by omega, Lib.hid ⟨rfl, rfl, by simp [p3, baseL]⟩⟩
        case round =>
          obtain ⟨j, l, x, hj, rfl, rfl, rfl, hx0, hx9, hr⟩ := hrel
          have hlen : l.length ≤ j := by have := hr.out.1; omega
          by_cases hjk : j < k
          · go_wp2_with (go_at_call 58; refine (letterText_any _ _ (by omega) (by omega)).mono ?_; rintro e w' ⟨rfl, rfl⟩)
            go_round
            case rel =>
              refine ⟨j + 1, chr (x % 3) :: l, x / 3, by omega, by go_num, rfl, ?_, by omega, by omega, Lib.hid ?_⟩
              · rw [app_str]; rfl
              · obtain ⟨a1, a2, a3⟩ := hr.out
                have hc := chr_dig (d := x % 3) (by omega) (by omega)
                refine ⟨by simp [a1], by rw [letsB_cons, a2, hc.2]; rfl, ?_⟩
                rw [a3, ← a1, base_round hx0]
            case measure => simp [intOf]; omega
          · go_wp2
            go_ret2
            refine ⟨ret_val ?_, rfl⟩
            obtain ⟨a1, a2, a3⟩ := hr.out
            have hb := baseL_bd l a2
            obtain rfl : j = k := by omega
            have hx : x = 0 := by
              rcases Int.lt_or_le 0 x with h | h
              · have h1 := B5.out
                have h2 : p3 j * 1 ≤ p3 j * x := Int.mul_le_mul_of_nonneg_left (by omega) (by have := p3_pos j; omega)
                omega
              · omega
            rw [hx] at a3
            have e : l = wat n := wat_eq a2 (by rw [rank_base, a1]; omega) h2
            simp [watV, hc, e]
set_option maxHeartbeats 400000 in
theorem specWordAt_any (n : Int) (w : World) (hn : n ≤ 9223372036854775807) :
    Calls Try.prog 46 #[.int .i64 n] w fun e w' => e = .returned (watV n) ∧ Below w.heap.size w w' := by
  rcases Int.lt_or_le n 0 with hneg | hpos
  · have hc : inB n 0 9840 = false := by rw [inB_false]; omega
    have hle : n ≤ 0 := by omega
    have hne : (n != 0) = true := by simp; omega
    go_enter Try.func46, Try.ntmps46
    go_wp2
    go_loop [0, 4, 5] (fun m o i => m = .int .i64 n ∧ i = .int .i64 0 ∧ o = .string ⟨#[]⟩) (fun _ _ _ => 0)
    case atStart => exact ⟨rfl, rfl, rfl⟩
    case round =>
      obtain ⟨rfl, rfl, rfl⟩ := hrel
      go_wp2
      go_ret2
      exact ⟨ret_val (by simp [watV, hc]), Below.refl _ _⟩
  · go_enter Try.func46, Try.ntmps46
    go_wp2
    go_loopw [0, 4, 5] (fun m o i wr => ∃ (j : Nat) (l : List UInt8) (x : Int), j ≤ 9 ∧ i = .int .i64 j ∧ m = .int .i64 x ∧ o = .string ⟨l.toArray⟩ ∧ 0 ≤ x ∧ x ≤ n ∧ Hid (l.length = j ∧ letsB l = true ∧ n = p3 j * x + rankL l) ∧ Below w.heap.size w wr) (fun _ _ i _ => 9 - (intOf i).toNat)
    case atStart => exact ⟨0, [], n, by omega, rfl, rfl, rfl, by omega, by omega, Lib.hid ⟨rfl, rfl, by simp [p3, rankL]⟩, Below.refl _ _⟩
    case round =>
      obtain ⟨j, l, x, hj, rfl, rfl, rfl, hx0, hx9, hr, hbel⟩ := hrel
      have hlen : l.length ≤ j := by have := hr.out.1; omega
      by_cases hgo : j ≤ 8 ∧ 0 < x
      · obtain ⟨hg1, hg2⟩ := hgo
        have hcv := conv_one wr (97 + (x - 1) % 3) (by omega) (by omega)
        have HC := Lib.hid (chr_dig (d := (x - 1) % 3) (by omega) (by omega))
        go_wp2
        go_roundw
        case rel =>
          refine ⟨j + 1, chr ((x - 1) % 3) :: l, (x - 1) / 3, by omega, by go_num, rfl, ?_, by omega, by omega, Lib.hid ?_, hbel.alloc hbel.size _⟩
          · rw [app_str, show UInt8.ofNat (97 + (x - 1) % 3).toNat = chr ((x - 1) % 3) from by unfold chr; congr 1; omega]; rfl
          · obtain ⟨a1, a2, a3⟩ := hr.out
            refine ⟨by simp [a1], by rw [letsB_cons, a2, HC.out.2]; rfl, ?_⟩
            rw [← a1, ← rank_round (by omega), a1]; exact a3
        case measure => simp [intOf]; omega
      · obtain ⟨a1, a2, a3⟩ := hr.out
        have hne : (x != 0) = decide (0 < x) := by
          rcases Int.lt_or_le 0 x with h | h
          · simp [h]; omega
          · have : x = 0 := by omega
            subst this; rfl
        clear hr
        rcases Int.lt_or_le 0 x with hx | hx
        · have hj9 : 8 < (j : Int) := by omega
          have h2 : p3 9 * 1 ≤ p3 9 * x := Int.mul_le_mul_of_nonneg_left (by omega) (by decide)
          have h3 : p3 9 = 19683 := by decide
          have h4 := (rankL_ge l a2).1
          have h5 := shN_nonneg l.length
          obtain rfl : j = 9 := by omega
          have hc : inB n 0 9840 = false := by rw [inB_false]; omega
          have hne' : (x != 0) = true := by rw [hne]; simpa using hx
          clear a1 a3 h2 h3 h4 hne
          go_wp2
          go_ret2
          exact ⟨ret_val (by simp [watV, hc]), hbel⟩
        · obtain rfl : x = 0 := by omega
          have a3' : n = rankL l := by simpa using a3
          have hge := rankL_ge l a2
          clear hne a3
          have e9 : shN 9 = 9841 := by decide
          have hss : (⟨l.toArray⟩ : ByteArray).size ≤ maxLen := by
            have : (⟨l.toArray⟩ : ByteArray).size = l.length := by simp [ByteArray.size]
            unfold maxLen; omega
          rcases hv : wordB l
          · have hc : inB n 0 9840 = false := by
              rw [inB_false]
              have : 8 < l.length := by
                rcases Nat.lt_or_ge 8 l.length with h | h
                · exact h
                · exact absurd (wordB_iff.2 ⟨a2, h⟩) (by simp [hv])
              have := shN_mono (a := 9) (b := l.length) (by omega)
              omega
            have A1 := Lib.hid a1
            have A3 := Lib.hid a3'
            clear a1 a3' e9
            go_wp2_with (go_at_call 30; refine (specWordValid_any _ _ hss).mono ?_; rintro e w' ⟨rfl, rfl⟩)
            all_goals (go_ret2; exact ⟨ret_val (by simp [watV, hc]), hbel⟩)
          · have h8 := (wordB_iff.1 hv).2
            have hm := shN_mono (a := l.length + 1) (b := 9) (by omega)
            have hc : inB n 0 9840 = true := by rw [inB_true]; omega
            have A1 := Lib.hid a1
            have A3 := Lib.hid a3'
            have A4 := Lib.hid (wat_eq a2 a3'.symm (by omega))
            clear a1 a3' e9
            go_wp2_with (go_at_call 30; refine (specWordValid_any _ _ hss).mono ?_; rintro e w' ⟨rfl, rfl⟩)
            all_goals (go_ret2; exact ⟨ret_val (by simp [watV, hc, ← A4.out]), hbel⟩)
end Go.Proofs.Ytgcggmlekmjpdaa
