/-
  Walks of the laws on words and parts: each returns true.
-/
import Derived.Test.YtcphbncgkemdoaaWords2
import Derived.Test.YtcphbncgkemdoaaParts
namespace Go.Proofs.Ytcphbncgkemdoaa
open Go.RowKit
set_option linter.unusedVariables false
set_option maxRecDepth 100000

set_option maxHeartbeats 1000000 in
theorem wFnExactConstants (w : World) : Calls Try.prog 3 #[] w fun e w' => e = .returned (.bool true) ∧ Below w.heap.size w w' := by
  go_enter Try.func3, Try.ntmps3
  go_wp2
  go_ret
  exact ⟨rfl, Below.refl _ _⟩

theorem wFnExactPartValid (k l : Int) (w : World) : Calls Try.prog 4 #[part k l] w fun e w' => e = .returned (.bool true) ∧ Below w.heap.size w w' := by
  go_enter Try.func4, Try.ntmps4
  go_wp2_with (first | (go_at_call 16; refine (toPart_any _ _ _).mono ?_; rintro e w' ⟨rfl, rfl⟩) | (go_at_call 15; refine (specPartValid_any _ _ _).mono ?_; rintro e w' ⟨rfl, rfl⟩) | (go_at_call 17; refine (implPartValid_any _ _ _).mono ?_; rintro e w' ⟨rfl, rfl⟩))
  go_ret
  exact ⟨rfl, (by repeat (first | exact Below.refl _ _ | assumption | (refine Below.alloc ?_ (by first | omega | (simp; done) | (simp; omega)) _) | (refine Below.drew ?_) | (refine Below.trans ?_ (Below.mono (by assumption) (by first | omega | (simp; done) | (simp; omega))))))⟩

theorem wFnExactWordValid (s : ByteArray) (w : World) (hs : s.size ≤ maxLen) : Calls Try.prog 5 #[.string s] w fun e w' => e = .returned (.bool true) ∧ Below w.heap.size w w' := by
  by_cases hb : s.size ≤ 1048576
  · go_enter Try.func5, Try.ntmps5
    go_wp2_with (first | (go_at_call 18; refine (specWordValid_any _ _ hs).mono ?_; rintro e w' ⟨rfl, rfl⟩) | (go_at_call 19; refine (implWordValid_any _ _ hs).mono ?_; rintro e w' ⟨rfl, rfl⟩))
    go_ret
    exact ⟨rfl, Below.refl _ _⟩
  · go_enter Try.func5, Try.ntmps5
    go_wp2
    go_ret
    exact ⟨rfl, Below.refl _ _⟩

theorem wFnExactWordsOf (n : Int) (w : World) (_hb : -9223372036854775808 ≤ n ∧ n ≤ 9223372036854775807) : Calls Try.prog 6 #[.int .i64 n] w fun e w' => e = .returned (.bool true) ∧ Below w.heap.size w w' := by
  go_enter Try.func6, Try.ntmps6
  go_wp2_with (first | (go_at_call 20; refine (specWordsOf_any _ _).mono ?_; rintro e w' ⟨rfl, rfl⟩) | (go_at_call 21; refine (implWordsOf_any _ _).mono ?_; rintro e w' ⟨rfl, rfl⟩))
  go_ret
  exact ⟨rfl, Below.refl _ _⟩

theorem wFnExactTurnWord (s : ByteArray) (w : World) (hs : s.size ≤ maxLen) : Calls Try.prog 7 #[.string s] w fun e w' => e = .returned (.bool true) ∧ Below w.heap.size w w' := by
  by_cases hb : s.size ≤ 1048576
  · go_enter Try.func7, Try.ntmps7
    go_wp2_with (first | (go_at_call 22; refine (specTurnWord_any _ _ hs).mono ?_; rintro e w' ⟨rfl, rfl⟩) | (go_at_call 23; refine (implTurnWord_any _ _ hs).mono ?_; rintro e w' ⟨rfl, rfl⟩))
    go_ret
    exact ⟨rfl, Below.refl _ _⟩
  · go_enter Try.func7, Try.ntmps7
    go_wp2
    go_ret
    exact ⟨rfl, Below.refl _ _⟩

theorem wFnExactWordRank (s : ByteArray) (w : World) (hs : s.size ≤ maxLen) : Calls Try.prog 10 #[.string s] w fun e w' => e = .returned (.bool true) ∧ Below w.heap.size w w' := by
  by_cases hb : s.size ≤ 1048576
  · go_enter Try.func10, Try.ntmps10
    go_wp2_with (first | (go_at_call 28; refine (specWordRank_any _ _ hs).mono ?_; rintro e w' ⟨rfl, rfl⟩) | (go_at_call 29; refine (implWordRank_any _ _ hs).mono ?_; rintro e w' ⟨rfl, rfl⟩))
    go_ret
    exact ⟨rfl, Below.refl _ _⟩
  · go_enter Try.func10, Try.ntmps10
    go_wp2
    go_ret
    exact ⟨rfl, Below.refl _ _⟩

theorem wFnExactPartNeeds (k l : Int) (w : World) : Calls Try.prog 8 #[part k l] w fun e w' => e = .returned (.bool true) ∧ Below w.heap.size w w' := by
  go_enter Try.func8, Try.ntmps8
  go_wp2_with (first | (go_at_call 16; refine (toPart_any _ _ _).mono ?_; rintro e w' ⟨rfl, rfl⟩) | (go_at_call 24; refine (specPartNeeds_any _ _ _).mono ?_; rintro e w' ⟨rfl, hb⟩; (obtain ⟨hc, hf, hz⟩ := bcell hb; try simp at hz)) | (go_at_call 25; refine (implPartNeeds_any _ _ _).mono ?_; rintro e w' ⟨rfl, hb⟩; (obtain ⟨hc, hf, hz⟩ := bcell hb; try simp at hz)))
  go_ret
  exact ⟨rfl, (by repeat (first | exact Below.refl _ _ | assumption | (refine Below.alloc ?_ (by first | omega | (simp; done) | (simp; omega)) _) | (refine Below.drew ?_) | (refine Below.trans ?_ (Below.mono (by assumption) (by first | omega | (simp; done) | (simp; omega))))))⟩

theorem wFnExactWordAt (n : Int) (w : World) (hb : -9223372036854775808 ≤ n ∧ n ≤ 9223372036854775807) : Calls Try.prog 9 #[.int .i64 n] w fun e w' => e = .returned (.bool true) ∧ Below w.heap.size w w' := by
  have hn := hb.2
  clear hb
  rcases hc : inB n 0 9840
  · have e : watV n = .tuple #[.string ⟨#[]⟩, .bool false] := by simp [watV, hc]
    go_enter Try.func9, Try.ntmps9
    go_wp2_with (first | (go_at_call 26; refine (specWordAt_any _ _ hn).mono ?_; rintro e w' ⟨rfl, hb⟩; (obtain ⟨hc, hf, hz⟩ := bcell hb; try simp at hz)) | (go_at_call 27; refine (implWordAt_any _ _).mono ?_; rintro e w' ⟨rfl, rfl⟩))
    go_ret
    exact ⟨rfl, (by repeat (first | exact Below.refl _ _ | assumption | (refine Below.alloc ?_ (by first | omega | (simp; done) | (simp; omega)) _) | (refine Below.drew ?_) | (refine Below.trans ?_ (Below.mono (by assumption) (by first | omega | (simp; done) | (simp; omega))))))⟩
  · have e : watV n = .tuple #[.string ⟨(wat n).toArray⟩, .bool true] := by simp [watV, hc]
    go_enter Try.func9, Try.ntmps9
    go_wp2_with (first | (go_at_call 26; refine (specWordAt_any _ _ hn).mono ?_; rintro e w' ⟨rfl, hb⟩; (obtain ⟨hc, hf, hz⟩ := bcell hb; try simp at hz)) | (go_at_call 27; refine (implWordAt_any _ _).mono ?_; rintro e w' ⟨rfl, rfl⟩))
    go_ret
    exact ⟨rfl, (by repeat (first | exact Below.refl _ _ | assumption | (refine Below.alloc ?_ (by first | omega | (simp; done) | (simp; omega)) _) | (refine Below.drew ?_) | (refine Below.trans ?_ (Below.mono (by assumption) (by first | omega | (simp; done) | (simp; omega))))))⟩
end Go.Proofs.Ytcphbncgkemdoaa
