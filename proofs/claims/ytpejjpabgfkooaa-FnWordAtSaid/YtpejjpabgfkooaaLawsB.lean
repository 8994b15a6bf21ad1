/-
  Walks of the laws on words and parts that draw their arguments: each returns true.
-/
import Derived.Test.YtpejjpabgfkooaaDrawB
namespace Go.Proofs.Ytpejjpabgfkooaa
open Go.RowKit
set_option linter.unusedVariables false
set_option maxRecDepth 100000

theorem alive_any (w : World) : Calls Try.prog 15 #[] w fun e w' => e = .returned (.bool true) ∧ w = w' := by
  have e5 : rankI [97, 98] = 5 := by decide
  go_enter Try.func15, Try.ntmps15
  go_wp2_with (go_at_call 23; refine (implWordRank_any _ _ (by decide)).mono ?_; rintro e w' ⟨rfl, rfl⟩)
  go_ret
  exact ⟨rfl, rfl⟩

/-- What every law leaves. -/
def Yes (w : World) (e : Ending) (w' : World) : Prop := e = .returned (.bool true) ∧ Below w.heap.size w w'
theorem small_le {s : ByteArray} (h : s.size ≤ 1000) : s.size ≤ maxLen := by unfold maxLen; omega
theorem app_size (a b : ByteArray) : (a ++ b).size = a.size + b.size := ByteArray.size_append
theorem app_list (a b : ByteArray) : (a ++ b).data.toList = a.data.toList ++ b.data.toList := by rw [ByteArray.data_append, Array.toList_append]

set_option maxHeartbeats 2000000 in
theorem wFnWordsOf (A : Option Addr) (n c : Nat) (w : World) (hw : BytesIn w A n c) : Calls Try.prog 3 #[.slice A n c] w (Yes w) := by
  obtain ⟨hnc, hcm, hcode⟩ := hw
  by_cases hn : n ≤ 1048576
  · go_enter Try.func3, Try.ntmps3
    go_wp2_with fail
    refine (dWordsOf_any _ n c A _ hcode (Nat.le_refl _) hnc hn).mono ?_
    rintro e w1 ⟨k, rfl, k0, k1, hb⟩
    clear hcode
    rcases hc : inB k 0 8
    · have e1 : wordsOfI k = -1 := by simp [wordsOfI, hc]
      go_wp2_with (first | (go_at_call 13; refine (implWordsOf_any _ _).mono ?_; rintro e w' ⟨rfl, rfl⟩) | (go_at_call 14; refine (specWordsOf_any _ _).mono ?_; rintro e w' ⟨rfl, rfl⟩) | (go_at_call 15; refine (alive_any _).mono ?_; rintro e w' ⟨rfl, rfl⟩))
      go_ret
      exact ⟨rfl, hb⟩
    · obtain ⟨k2, k3⟩ := inB_true.1 hc
      have e1 := p3_bd (n := k.toNat) (by omega)
      have e2 : wordsOfI k = p3 k.toNat := by simp [wordsOfI, hc]
      have m1 : 1 ≤ wordsOfI k := by omega
      have m2 : wordsOfI k ≤ 19683 := by omega
      have m3 : (wordsOfI k < 0) = False := by simp; omega
      by_cases h8 : k = 8
      · subst h8
        clear e1 e2
        go_wp2_with (first | (go_at_call 13; refine (implWordsOf_any _ _).mono ?_; rintro e w' ⟨rfl, rfl⟩) | (go_at_call 14; refine (specWordsOf_any _ _).mono ?_; rintro e w' ⟨rfl, rfl⟩) | (go_at_call 15; refine (alive_any _).mono ?_; rintro e w' ⟨rfl, rfl⟩))
        go_ret
        exact ⟨rfl, hb⟩
      · have h8' : (k == 8) = false := by simpa using h8
        have e3 : wordsOfI (k + 1) = 3 * wordsOfI k := by
          have hc' : inB (k + 1) 0 8 = true := inB_true.2 (by omega)
          rw [e2]; simp only [wordsOfI, hc', if_true]
          rw [show (k + 1).toNat = k.toNat + 1 from by omega]; rfl
        clear e1 e2
        go_wp2_with (first | (go_at_call 13; refine (implWordsOf_any _ _).mono ?_; rintro e w' ⟨rfl, rfl⟩) | (go_at_call 14; refine (specWordsOf_any _ _).mono ?_; rintro e w' ⟨rfl, rfl⟩) | (go_at_call 15; refine (alive_any _).mono ?_; rintro e w' ⟨rfl, rfl⟩))
        go_ret
        exact ⟨rfl, hb⟩
  · go_enter Try.func3, Try.ntmps3
    go_wp2
    go_ret
    exact ⟨rfl, Below.refl _ _⟩

set_option maxHeartbeats 2000000 in
theorem wFnWordValid (A : Option Addr) (n c : Nat) (w : World) (hw : BytesIn w A n c) : Calls Try.prog 4 #[.slice A n c] w (Yes w) := by
  obtain ⟨hnc, hcm, hcode⟩ := hw
  by_cases hn : n ≤ 1048576
  · go_enter Try.func4, Try.ntmps4
    go_wp2_with fail
    refine (dWordValid_any _ n c A _ hcode (Nat.le_refl _) hnc hn).mono ?_
    rintro e w1 ⟨s, rfl, hs, hb⟩
    clear hcode
    have z1 : s.size ≤ maxLen := small_le (by omega)
    have z2 : (s ++ (⟨#[100]⟩ : ByteArray)).size ≤ maxLen := small_le (by rw [app_size]; show s.size + 1 ≤ 1000; omega)
    have z3 : (s.extract 0 (s.size / 2)).size ≤ maxLen := small_le (by simp [ByteArray.size_extract]; omega)
    have z4 : (⟨#[]⟩ : ByteArray).size ≤ maxLen := small_le (by decide)
    have e1 : wordB (s.data.toList ++ [100]) = false := by
      have : letB 100 = false := by decide
      simp [wordB, letsB_snoc, this]
    have e2 : wordB [] = true := by decide
    rcases hv : wordB s.data.toList
    all_goals
      try have e3 : wordB (List.take (s.size / 2) s.data.toList) = true := wordB_iff.2 ⟨take_lets (wordB_iff.1 hv).1 _, by have := (wordB_iff.1 hv).2; simp only [List.length_take]; omega⟩
      go_wp2_with (first | (go_at_call 17; refine (implWordValid_any _ _ (by assumption)).mono ?_; rintro e w' ⟨rfl, rfl⟩) | (go_at_call 18; refine (specWordValid_any _ _ z1).mono ?_; rintro e w' ⟨rfl, rfl⟩) | (go_at_call 15; refine (alive_any _).mono ?_; rintro e w' ⟨rfl, rfl⟩))
      go_ret
      exact ⟨rfl, hb⟩
  · go_enter Try.func4, Try.ntmps4
    go_wp2
    go_ret
    exact ⟨rfl, Below.refl _ _⟩

set_option maxHeartbeats 2000000 in
theorem wFnWordRank (A : Option Addr) (n c : Nat) (w : World) (hw : BytesIn w A n c) : Calls Try.prog 9 #[.slice A n c] w (Yes w) := by
  obtain ⟨hnc, hcm, hcode⟩ := hw
  by_cases hn : n ≤ 1048576
  · go_enter Try.func9, Try.ntmps9
    go_wp2_with fail
    refine (dWordRank_any _ n c A _ hcode (Nat.le_refl _) hnc hn).mono ?_
    rintro e w1 ⟨s, rfl, hs, hb⟩
    clear hcode
    have z1 : s.size ≤ maxLen := small_le (by omega)
    rcases hv : wordB s.data.toList
    · have e1 : rankI s.data.toList = -1 := by simp [rankI, hv]
      clear hv
      go_wp2_with (first | (go_at_call 23; refine (implWordRank_any _ _ (by assumption)).mono ?_; rintro e w' ⟨rfl, rfl⟩) | (go_at_call 24; refine (specWordRank_any _ _ z1).mono ?_; rintro e w' ⟨rfl, rfl⟩) | (go_at_call 15; refine (alive_any _).mono ?_; rintro e w' ⟨rfl, rfl⟩))
      go_ret
      exact ⟨rfl, hb⟩
    · obtain ⟨hl, h8⟩ := wordB_iff.1 hv
      have hbd := rankL_bd _ hl h8
      have e1 : rankI s.data.toList = rankL s.data.toList := by simp [rankI, hv]
      have e2 : watV (rankL s.data.toList) = .tuple #[.string s, .bool true] := by
        have hi : inB (rankL s.data.toList) 0 9840 = true := inB_true.2 hbd
        have := wat_eq hl rfl hbd.2
        simp [watV, hi, ← this]
      obtain ⟨b1, b2⟩ := hbd
      rcases Nat.eq_zero_or_pos s.size with h0 | h0
      · obtain rfl : s = ⟨#[]⟩ := by
          apply ByteArray.ext; apply Array.ext'; exact List.eq_nil_of_length_eq_zero (by simpa using h0)
        have r0 : rankI [] = 0 := rfl
        have r1 : watV 0 = .tuple #[.string ⟨#[]⟩, .bool true] := rfl
        clear h0 hl h8 hv e1 e2 b1 b2
        go_wp2_with (first | (go_at_call 23; refine (implWordRank_any _ _ (by assumption)).mono ?_; rintro e w' ⟨rfl, rfl⟩) | (go_at_call 24; refine (specWordRank_any _ _ z1).mono ?_; rintro e w' ⟨rfl, rfl⟩) | (go_at_call 15; refine (alive_any _).mono ?_; rintro e w' ⟨rfl, rfl⟩) | (go_at_call 28; refine (implWordAt_any _ _).mono ?_; rintro e w' ⟨rfl, rfl⟩))
        go_ret
        exact ⟨rfl, hb⟩
      · have z2 : (s.extract 1 s.size).size ≤ maxLen := small_le (by simp [ByteArray.size_extract]; omega)
        have z3 : (s.extract 0 (s.size - 1)).size ≤ maxLen := small_le (by simp [ByteArray.size_extract]; omega)
        have hlen : s.data.toList.length = s.size := by simp
        have n0 : s.toList.isEmpty = false := by
          rw [ByteArray.toList_eq]
          cases h : s.data.toList with
          | nil => rw [h] at hlen; simp at hlen; omega
          | cons a l => rfl
        have n1 : (s.toList = []) = False := by
          simp only [eq_iff_iff, iff_false]; intro h; rw [h] at n0; cases n0
        have small : ∀ t : List UInt8, letsB t = true → t.length < s.size → rankI t < rankL s.data.toList := by
          intro t ht hlt
          have hv : wordB t = true := wordB_iff.2 ⟨ht, by omega⟩
          have g1 := (rankL_ge t ht).2
          have g2 := (rankL_ge _ hl).1
          have g3 := shN_mono (a := t.length + 1) (b := s.data.toList.length) (by omega)
          simp only [rankI, hv, if_true]; omega
        have w1 : rankI (List.take (s.size - 1) s.data.toList.tail) < rankL s.data.toList :=
          small _ (take_lets (by rw [← List.drop_one]; rw [letsB, List.all_eq_true] at *; exact fun x hx => hl x (List.mem_of_mem_drop hx)) _) (by simp; omega)
        have w2 : rankI s.data.toList.dropLast < rankL s.data.toList := small _ (by rw [List.dropLast_eq_take]; exact take_lets hl _) (by simp; omega)
        have h1 : (1 : Int) ≤ (s.size : Int) := by omega
        clear hl h8 hv small hlen h0
        go_wp2_with (first | (go_at_call 23; refine (implWordRank_any _ _ (by assumption)).mono ?_; rintro e w' ⟨rfl, rfl⟩) | (go_at_call 24; refine (specWordRank_any _ _ z1).mono ?_; rintro e w' ⟨rfl, rfl⟩) | (go_at_call 15; refine (alive_any _).mono ?_; rintro e w' ⟨rfl, rfl⟩) | (go_at_call 28; refine (implWordAt_any _ _).mono ?_; rintro e w' ⟨rfl, rfl⟩))
        go_ret
        exact ⟨rfl, hb⟩
  · go_enter Try.func9, Try.ntmps9
    go_wp2
    go_ret
    exact ⟨rfl, Below.refl _ _⟩

theorem less_of {a b : List UInt8} (ha : letsB a = true) (hb : letsB b = true) (hl : a.length = b.length) (h : baseL a < baseL b) : Op.bytesLess b a = false ∧ (b == a) = false := by
  induction a generalizing b with
  | nil =>
    cases b with
    | nil => exact absurd h (by decide)
    | cons x b => simp at hl
  | cons x a ih =>
    cases b with
    | nil => simp at hl
    | cons y b =>
      rw [letsB_cons, Bool.and_eq_true] at ha hb
      have dx := letB_dig ha.1
      have dy := letB_dig hb.1
      have ba := baseL_bd a ha.2
      have bb := baseL_bd b hb.2
      simp only [List.length_cons, Nat.add_right_cancel_iff] at hl
      rw [baseL_cons, baseL_cons, hl] at h
      rw [hl] at ba
      have ht : digI x < digI y ∨ (digI x = digI y ∧ baseL a < baseL b) := by
        have hd : digI x = 0 ∨ digI x = 1 ∨ digI x = 2 := by omega
        have he : digI y = 0 ∨ digI y = 1 ∨ digI y = 2 := by omega
        rcases hd with e | e | e <;> rcases he with e' | e' | e' <;> rw [e, e'] at h <;> rw [e, e'] <;> omega
      rcases ht with hlt | ⟨heq, hlt⟩
      · have h1 : x.toNat < y.toNat := by unfold digI at hlt; omega
        have h2 : ¬ y < x := by rw [UInt8.lt_iff_toNat_lt]; omega
        have h3 : ¬ y = x := by rintro rfl; omega
        have h4 : x < y := by rw [UInt8.lt_iff_toNat_lt]; omega
        simp [Op.bytesLess, h2, h3, h4]
      · obtain rfl := dig_inj heq
        obtain ⟨i1, i2⟩ := ih ha.2 hb.2 hl hlt
        simp at i2
        simp [Op.bytesLess, i1, i2]
set_option maxHeartbeats 2000000 in
theorem wFnWordAt (A : Option Addr) (n c : Nat) (w : World) (hw : BytesIn w A n c) : Calls Try.prog 11 #[.slice A n c] w (Yes w) := by
  obtain ⟨hnc, hcm, hcode⟩ := hw
  by_cases hn : n ≤ 1048576
  · go_enter Try.func11, Try.ntmps11
    go_wp2_with fail
    refine (dWordAt_any _ n c A _ hcode (Nat.le_refl _) hnc hn).mono ?_
    rintro e w1 ⟨k, rfl, k0, k1, hb⟩
    clear hcode
    rcases hc : inB k 0 9840
    · have e1 : watV k = .tuple #[.string ⟨#[]⟩, .bool false] := by simp [watV, hc]
      clear hc
      go_wp2_with (first | (go_at_call 23; refine (implWordRank_any _ _ (by assumption)).mono ?_; rintro e w' ⟨rfl, rfl⟩) | (go_at_call 24; refine (specWordRank_any _ _ (by assumption)).mono ?_; rintro e w' ⟨rfl, rfl⟩) | (go_at_call 15; refine (alive_any _).mono ?_; rintro e w' ⟨rfl, rfl⟩) | (go_at_call 28; refine (implWordAt_any _ _).mono ?_; rintro e w' ⟨rfl, rfl⟩) | (go_at_call 33; refine (specWordAt_any _ _ (by omega)).mono ?_; rintro e w2 ⟨rfl, hb2⟩))
      go_ret
      exact ⟨rfl, hb.trans (hb2.mono hb.size)⟩
    · obtain ⟨k2, k3⟩ := inB_true.1 hc
      obtain ⟨v1, v2⟩ := wat_spec k2 k3
      obtain ⟨v3, v4⟩ := wordB_iff.1 v1
      have e1 : watV k = .tuple #[.string ⟨(wat k).toArray⟩, .bool true] := by simp [watV, hc]
      have e2 : rankI (wat k) = k := by simp only [rankI, v1, if_true]; exact v2
      have z1 : (⟨(wat k).toArray⟩ : ByteArray).size ≤ maxLen := small_le (by show (wat k).length ≤ 1000; omega)
      by_cases h9 : k = 9840
      · subst h9
        have e3 : watV 9841 = .tuple #[.string ⟨#[]⟩, .bool false] := rfl
        clear hc v1 v2 v3 v4
        go_wp2_with (first | (go_at_call 23; refine (implWordRank_any _ _ (by assumption)).mono ?_; rintro e w' ⟨rfl, rfl⟩) | (go_at_call 24; refine (specWordRank_any _ _ (by assumption)).mono ?_; rintro e w' ⟨rfl, rfl⟩) | (go_at_call 15; refine (alive_any _).mono ?_; rintro e w' ⟨rfl, rfl⟩) | (go_at_call 28; refine (implWordAt_any _ _).mono ?_; rintro e w' ⟨rfl, rfl⟩) | (go_at_call 33; refine (specWordAt_any _ _ (by omega)).mono ?_; rintro e w2 ⟨rfl, hb2⟩))
        go_ret
        exact ⟨rfl, hb.trans (hb2.mono hb.size)⟩
      · have hc' : inB (k + 1) 0 9840 = true := inB_true.2 (by omega)
        obtain ⟨y1, y2⟩ := wat_spec (n := k + 1) (by omega) (by omega)
        obtain ⟨y3, y4⟩ := wordB_iff.1 y1
        have e3 : watV (k + 1) = .tuple #[.string ⟨(wat (k + 1)).toArray⟩, .bool true] := by simp [watV, hc']
        have hle : (wat k).length ≤ (wat (k + 1)).length := by
          have := len_of_rank (k := (wat (k + 1)).length) v3 (by have := (rankL_ge _ y3).2; omega)
          exact this
        by_cases hlen : (wat k).length < (wat (k + 1)).length
        · clear hc hc' v1 v2 v3 v4 y1 y2 y3 y4 hle
          go_wp2_with (first | (go_at_call 23; refine (implWordRank_any _ _ (by assumption)).mono ?_; rintro e w' ⟨rfl, rfl⟩) | (go_at_call 24; refine (specWordRank_any _ _ (by assumption)).mono ?_; rintro e w' ⟨rfl, rfl⟩) | (go_at_call 15; refine (alive_any _).mono ?_; rintro e w' ⟨rfl, rfl⟩) | (go_at_call 28; refine (implWordAt_any _ _).mono ?_; rintro e w' ⟨rfl, rfl⟩) | (go_at_call 33; refine (specWordAt_any _ _ (by omega)).mono ?_; rintro e w2 ⟨rfl, hb2⟩))
          go_ret
          exact ⟨rfl, hb.trans (hb2.mono hb.size)⟩
        · have hll : (wat k).length = (wat (k + 1)).length := by omega
          have hbl : baseL (wat k) < baseL (wat (k + 1)) := by have g1 := rank_base (wat k); have g2 := rank_base (wat (k + 1)); rw [hll] at g1; omega
          obtain ⟨q1, q2⟩ := less_of v3 y3 hll hbl
          have hl1 : (wat (k + 1)).length ≤ (wat k).length := by omega
          have hl2 : (((wat (k + 1)).length : Int) == ((wat k).length : Int)) = true := by simp; omega
          clear hc hc' v1 v2 v3 v4 y1 y2 y3 y4 hll
          go_wp2_with (first | (go_at_call 23; refine (implWordRank_any _ _ (by assumption)).mono ?_; rintro e w' ⟨rfl, rfl⟩) | (go_at_call 24; refine (specWordRank_any _ _ (by assumption)).mono ?_; rintro e w' ⟨rfl, rfl⟩) | (go_at_call 15; refine (alive_any _).mono ?_; rintro e w' ⟨rfl, rfl⟩) | (go_at_call 28; refine (implWordAt_any _ _).mono ?_; rintro e w' ⟨rfl, rfl⟩) | (go_at_call 33; refine (specWordAt_any _ _ (by omega)).mono ?_; rintro e w2 ⟨rfl, hb2⟩))
          go_ret
          exact ⟨rfl, hb.trans (hb2.mono hb.size)⟩
  · go_enter Try.func11, Try.ntmps11
    go_wp2
    go_ret
    exact ⟨rfl, Below.refl _ _⟩

theorem turnL_len (l : List UInt8) : (turnL l).length ≤ 8 := by
  unfold turnL
  split
  · rename_i h; simpa using (wordB_iff.1 h).2
  · simp
theorem hide {p : Prop} (h : p) : Hid p := h
theorem unhide {p : Prop} (h : Hid p) : p := h
theorem quiet_left {P : Program} {f : FuncId} {args : Array Value} {w : World} {n : Nat} {v : Value}
    (h : Calls P f args (w.drewN n) fun e w' => e = .returned v ∧ w.drewN n = w') : Calls P f args (w.drewN n) fun e w'' => e = .returned v ∧ ∃ m, w'' = w.drewN m :=
  h.mono fun _ _ ⟨he, hm⟩ => ⟨he, n, hm.symm⟩
set_option maxHeartbeats 2000000 in
theorem wFnTurnJoin (A : Option Addr) (n c : Nat) (A2 : Option Addr) (n2 c2 : Nat) (w : World) (hw : BytesIn w A n c) (hw2 : BytesIn w A2 n2 c2) : Calls Try.prog 7 #[.slice A n c, .slice A2 n2 c2] w (Yes w) := by
  obtain ⟨hnc, hcm, hcode⟩ := hw
  obtain ⟨hnc2, hcm2, hcode2⟩ := hw2
  by_cases hn : n ≤ 1048576
  · by_cases hn2 : n2 ≤ 1048576
    · go_enter Try.func7, Try.ntmps7
      go_wp2_with fail
      refine (dTurnWord_any _ n c A _ hcode (Nat.le_refl _) hnc hn).mono ?_
      rintro e w1 ⟨a, rfl, ha, hb⟩
      go_wp2_with fail
      refine (dTurnWord_any _ n2 c2 A2 w.heap.size (hcode2.below (Nat.le_refl _) hb) hb.size hnc2 hn2).mono ?_
      rintro e w2 ⟨b, rfl, hb', hb2⟩
      have hbb := hb.trans (hb2.mono hb.size)
      clear hcode hcode2 hb hb2
      have z1 : a.size ≤ maxLen := small_le (by omega)
      have z2 : b.size ≤ maxLen := small_le (by omega)
      have z3 : (a ++ b).size ≤ maxLen := small_le (by rw [app_size]; omega)
      have hlen : a.data.toList.length = a.size := by simp
      have hlen2 : b.data.toList.length = b.size := by simp
      rcases hv : wordB (a.data.toList ++ b.data.toList)
      · go_wp2_with (first | (go_at_call 23; refine (implWordRank_any _ _ (by assumption)).mono ?_; rintro e w' ⟨rfl, rfl⟩) | (go_at_call 24; refine (specWordRank_any _ _ (by assumption)).mono ?_; rintro e w' ⟨rfl, rfl⟩) | (go_at_call 15; refine (alive_any _).mono ?_; rintro e w' ⟨rfl, rfl⟩) | (go_at_call 26; refine (implTurnWord_any _ _ (by assumption)).mono ?_; rintro e w' ⟨rfl, rfl⟩) | (go_at_call 27; refine (specTurnWord_any _ _ (by assumption)).mono ?_; rintro e w' ⟨rfl, rfl⟩) | (go_at_call 18; refine (specWordValid_any _ _ (by assumption)).mono ?_; rintro e w' ⟨rfl, rfl⟩) | (go_at_call 30; refine (implPartNeeds_any _ _ _).mono ?_; rintro e w' ⟨rfl, hb⟩; (obtain ⟨hc, hf, hz⟩ := bcell hb; (try simp at hz); (try have hzl := Nat.lt_of_succ_le hz); (try have hzm := Nat.lt_of_succ_lt hzl); (try have hzn := Nat.lt_of_succ_lt hzm))) | (go_at_call 31; refine (specPartNeeds_any _ _ _).mono ?_; rintro e w' ⟨rfl, hb⟩; (obtain ⟨hc, hf, hz⟩ := bcell hb; (try simp at hz); (try have hzl := Nat.lt_of_succ_le hz); (try have hzm := Nat.lt_of_succ_lt hzl); (try have hzn := Nat.lt_of_succ_lt hzm))) | (go_at_call 20; refine (implPartValid_any _ _ _).mono ?_; rintro e w' ⟨rfl, rfl⟩) | (go_at_call 21; refine (specPartValid_any _ _ _).mono ?_; rintro e w' ⟨rfl, rfl⟩))
        go_ret
        exact ⟨rfl, hbb⟩
      · have e1 : turnL (a.data.toList ++ b.data.toList) = turnL b.data.toList ++ turnL a.data.toList := by
          obtain ⟨g1, g2⟩ := wordB_iff.1 hv
          rw [letsB, List.all_append, Bool.and_eq_true] at g1
          have g3 : wordB a.data.toList = true := wordB_iff.2 ⟨g1.1, by rw [List.length_append] at g2; omega⟩
          have g4 : wordB b.data.toList = true := wordB_iff.2 ⟨g1.2, by rw [List.length_append] at g2; omega⟩
          simp [turnL, hv, g3, g4]
        have e2 := app_str (turnL b.data.toList) (turnL a.data.toList)
        have l1 := turnL_len a.data.toList
        have l2 := turnL_len b.data.toList
        go_wp2_with (first | (go_at_call 23; refine (implWordRank_any _ _ (by assumption)).mono ?_; rintro e w' ⟨rfl, rfl⟩) | (go_at_call 24; refine (specWordRank_any _ _ (by assumption)).mono ?_; rintro e w' ⟨rfl, rfl⟩) | (go_at_call 15; refine (alive_any _).mono ?_; rintro e w' ⟨rfl, rfl⟩) | (go_at_call 26; refine (implTurnWord_any _ _ (by assumption)).mono ?_; rintro e w' ⟨rfl, rfl⟩) | (go_at_call 27; refine (specTurnWord_any _ _ (by assumption)).mono ?_; rintro e w' ⟨rfl, rfl⟩) | (go_at_call 18; refine (specWordValid_any _ _ (by assumption)).mono ?_; rintro e w' ⟨rfl, rfl⟩) | (go_at_call 30; refine (implPartNeeds_any _ _ _).mono ?_; rintro e w' ⟨rfl, hb⟩; (obtain ⟨hc, hf, hz⟩ := bcell hb; (try simp at hz); (try have hzl := Nat.lt_of_succ_le hz); (try have hzm := Nat.lt_of_succ_lt hzl); (try have hzn := Nat.lt_of_succ_lt hzm))) | (go_at_call 31; refine (specPartNeeds_any _ _ _).mono ?_; rintro e w' ⟨rfl, hb⟩; (obtain ⟨hc, hf, hz⟩ := bcell hb; (try simp at hz); (try have hzl := Nat.lt_of_succ_le hz); (try have hzm := Nat.lt_of_succ_lt hzl); (try have hzn := Nat.lt_of_succ_lt hzm))) | (go_at_call 20; refine (implPartValid_any _ _ _).mono ?_; rintro e w' ⟨rfl, rfl⟩) | (go_at_call 21; refine (specPartValid_any _ _ _).mono ?_; rintro e w' ⟨rfl, rfl⟩))
        go_ret
        exact ⟨rfl, hbb⟩
    · go_enter Try.func7, Try.ntmps7
      go_wp2
      go_ret
      exact ⟨rfl, Below.refl _ _⟩
  · go_enter Try.func7, Try.ntmps7
    go_wp2
    go_ret
    exact ⟨rfl, Below.refl _ _⟩

set_option maxHeartbeats 2000000 in
theorem wFnTurnWord (A : Option Addr) (n c : Nat) (w : World) (hw : BytesIn w A n c) : Calls Try.prog 8 #[.slice A n c] w (Yes w) := by
  obtain ⟨hnc, hcm, hcode⟩ := hw
  by_cases hn : n ≤ 1048576
  · go_enter Try.func8, Try.ntmps8
    go_wp2_with fail
    refine (dTurnWord_any _ n c A _ hcode (Nat.le_refl _) hnc hn).mono ?_
    rintro e w1 ⟨s, rfl, hs, hb⟩
    clear hcode
    have z1 : s.size ≤ maxLen := small_le (by omega)
    have z2 : (⟨(turnL s.data.toList).toArray⟩ : ByteArray).size ≤ maxLen := small_le (by show (turnL s.data.toList).length ≤ 1000; have := turnL_len s.data.toList; omega)
    rcases hv : wordB s.data.toList
    · have e1 : turnL s.data.toList = [] := by simp [turnL, hv]
      go_wp2_with (first | (go_at_call 23; refine (implWordRank_any _ _ (by assumption)).mono ?_; rintro e w' ⟨rfl, rfl⟩) | (go_at_call 24; refine (specWordRank_any _ _ (by assumption)).mono ?_; rintro e w' ⟨rfl, rfl⟩) | (go_at_call 15; refine (alive_any _).mono ?_; rintro e w' ⟨rfl, rfl⟩) | (go_at_call 26; refine (implTurnWord_any _ _ (by assumption)).mono ?_; rintro e w' ⟨rfl, rfl⟩) | (go_at_call 27; refine (specTurnWord_any _ _ (by assumption)).mono ?_; rintro e w' ⟨rfl, rfl⟩) | (go_at_call 18; refine (specWordValid_any _ _ (by assumption)).mono ?_; rintro e w' ⟨rfl, rfl⟩) | (go_at_call 30; refine (implPartNeeds_any _ _ _).mono ?_; rintro e w' ⟨rfl, hb⟩; (obtain ⟨hc, hf, hz⟩ := bcell hb; (try simp at hz); (try have hzl := Nat.lt_of_succ_le hz); (try have hzm := Nat.lt_of_succ_lt hzl); (try have hzn := Nat.lt_of_succ_lt hzm))) | (go_at_call 31; refine (specPartNeeds_any _ _ _).mono ?_; rintro e w' ⟨rfl, hb⟩; (obtain ⟨hc, hf, hz⟩ := bcell hb; (try simp at hz); (try have hzl := Nat.lt_of_succ_le hz); (try have hzm := Nat.lt_of_succ_lt hzl); (try have hzn := Nat.lt_of_succ_lt hzm))) | (go_at_call 20; refine (implPartValid_any _ _ _).mono ?_; rintro e w' ⟨rfl, rfl⟩) | (go_at_call 21; refine (specPartValid_any _ _ _).mono ?_; rintro e w' ⟨rfl, rfl⟩))
      go_ret
      exact ⟨rfl, hb⟩
    · obtain ⟨v1, v2⟩ := wordB_iff.1 hv
      have e1 : turnL s.data.toList = s.data.toList.reverse := by simp [turnL, hv]
      have e2 : turnL s.data.toList.reverse = s.data.toList := by
        have : wordB s.data.toList.reverse = true := wordB_iff.2 ⟨by rw [letsB, List.all_reverse]; exact v1, by simpa using v2⟩
        simp [turnL, this]
      rw [e1] at z2
      clear v1 v2
      rcases Nat.eq_zero_or_pos s.size with h0 | h0
      · obtain rfl : s = ⟨#[]⟩ := by
          apply ByteArray.ext; apply Array.ext'; exact List.eq_nil_of_length_eq_zero (by simpa using h0)
        have r0 : turnL [] = [] := rfl
        clear h0 e1 e2
        go_wp2_with (first | (go_at_call 23; refine (implWordRank_any _ _ (by assumption)).mono ?_; rintro e w' ⟨rfl, rfl⟩) | (go_at_call 24; refine (specWordRank_any _ _ (by assumption)).mono ?_; rintro e w' ⟨rfl, rfl⟩) | (go_at_call 15; refine (alive_any _).mono ?_; rintro e w' ⟨rfl, rfl⟩) | (go_at_call 26; refine (implTurnWord_any _ _ (by assumption)).mono ?_; rintro e w' ⟨rfl, rfl⟩) | (go_at_call 27; refine (specTurnWord_any _ _ (by assumption)).mono ?_; rintro e w' ⟨rfl, rfl⟩) | (go_at_call 18; refine (specWordValid_any _ _ (by assumption)).mono ?_; rintro e w' ⟨rfl, rfl⟩) | (go_at_call 30; refine (implPartNeeds_any _ _ _).mono ?_; rintro e w' ⟨rfl, hb⟩; (obtain ⟨hc, hf, hz⟩ := bcell hb; (try simp at hz); (try have hzl := Nat.lt_of_succ_le hz); (try have hzm := Nat.lt_of_succ_lt hzl); (try have hzn := Nat.lt_of_succ_lt hzm))) | (go_at_call 31; refine (specPartNeeds_any _ _ _).mono ?_; rintro e w' ⟨rfl, hb⟩; (obtain ⟨hc, hf, hz⟩ := bcell hb; (try simp at hz); (try have hzl := Nat.lt_of_succ_le hz); (try have hzm := Nat.lt_of_succ_lt hzl); (try have hzn := Nat.lt_of_succ_lt hzm))) | (go_at_call 20; refine (implPartValid_any _ _ _).mono ?_; rintro e w' ⟨rfl, rfl⟩) | (go_at_call 21; refine (specPartValid_any _ _ _).mono ?_; rintro e w' ⟨rfl, rfl⟩))
        go_quiet ((go_at_call 26; exact quiet_left (implTurnWord_any _ _ (by decide))))
        go_wp2
        go_ret
        exact ⟨rfl, hb.trans ⟨rfl, rfl, rfl, Nat.le_refl _, fun _ _ => rfl⟩⟩
      · have hlen : s.data.toList.length = s.size := by simp
        have n0 : s.toList.isEmpty = false := by
          rw [ByteArray.toList_eq]
          cases h : s.data.toList with
          | nil => rw [h] at hlen; simp at hlen; omega
          | cons a l => rfl
        obtain ⟨X, hX⟩ : ∃ X : ByteArray, X = ⟨s.data.toList.reverse.toArray⟩ := ⟨_, rfl⟩
        have hXs : X.size = s.size := by rw [hX]; show s.data.toList.reverse.length = s.size; simp
        have g0 : s.size - 1 < X.size := by omega
        have hlast : X[s.size - 1] = s[0] := by
          subst hX
          show s.data.toList.reverse[s.size - 1]'(by simp; omega) = _
          rw [List.getElem_reverse]
          show s.data.toList[s.data.toList.length - 1 - (s.size - 1)]'_ = s.data.toList[0]'(by omega)
          congr 1; omega
        have z3 : X.size ≤ maxLen := small_le (by omega)
        have cT : ∀ W : World, Calls Try.prog 26 #[.string s] W fun e w' => e = .returned (.string X) ∧ W = w' := fun W => by
          have := implTurnWord_any s W z1
          rw [e1, ← hX] at this; exact this
        have cS : ∀ W : World, Calls Try.prog 27 #[.string s] W fun e w' => e = .returned (.string X) ∧ W = w' := fun W => by
          have := specTurnWord_any s W z1
          rw [e1, ← hX] at this; exact this
        have cX : ∀ W : World, Calls Try.prog 26 #[.string X] W fun e w' => e = .returned (.string s) ∧ W = w' := fun W => by
          have := implTurnWord_any X W z3
          rw [hX, e2] at this; rw [hX]; exact this
        have CT := hide cT
        have CS := hide cS
        have CX := hide cX
        have hs1 : IntKind.i64.wrap ((s.size : Int) - 1) = (s.size : Int) - 1 := IntWalk.i64_in _ (by omega)
        have hi1 : 0 ≤ (s.size : Int) - 1 := by omega
        have hi2 : (s.size : Int) - 1 < (s.size : Int) := by omega
        have hi3 : ((s.size : Int) - 1).toNat = s.size - 1 := by omega
        clear hlen cT cS cX e1 e2 hX z2
        go_wp2_with fail
        refine (unhide CT _).mono ?_
        rintro e w' ⟨rfl, rfl⟩
        go_wp2_with fail
        refine (unhide CS _).mono ?_
        rintro e w' ⟨rfl, rfl⟩
        go_wp2_with (go_at_call 18; refine (specWordValid_any _ _ z1).mono ?_; rintro e w' ⟨rfl, rfl⟩)
        go_quiet ((go_at_call 26; exact quiet_left (unhide CX _)))
        go_wp2
        go_ret
        exact ⟨rfl, hb.trans ⟨rfl, rfl, rfl, Nat.le_refl _, fun _ _ => rfl⟩⟩
  · go_enter Try.func8, Try.ntmps8
    go_wp2
    go_ret
    exact ⟨rfl, Below.refl _ _⟩

set_option maxHeartbeats 2000000 in
theorem wFnRankLetter (A : Option Addr) (n c : Nat) (A2 : Option Addr) (n2 c2 : Nat) (w : World) (hw : BytesIn w A n c) (hw2 : BytesIn w A2 n2 c2) : Calls Try.prog 6 #[.slice A n c, .slice A2 n2 c2] w (Yes w) := by
  obtain ⟨hnc, hcm, hcode⟩ := hw
  obtain ⟨hnc2, hcm2, hcode2⟩ := hw2
  by_cases hn : n ≤ 1048576
  · by_cases hn2 : n2 ≤ 1048576
    · go_enter Try.func6, Try.ntmps6
      go_wp2_with fail
      refine (dWordRank_any _ n c A _ hcode (Nat.le_refl _) hnc hn).mono ?_
      rintro e w1 ⟨s, rfl, hs, hb⟩
      clear hcode hcode2
      have z1 : s.size ≤ maxLen := small_le (by omega)
      have hlen : s.data.toList.length = s.size := by simp
      rcases hv : wordB s.data.toList
      · have e1 : rankI s.data.toList = -1 := by simp [rankI, hv]
        go_wp2_with (first | (go_at_call 23; refine (implWordRank_any _ _ (by assumption)).mono ?_; rintro e w' ⟨rfl, rfl⟩) | (go_at_call 24; refine (specWordRank_any _ _ (by assumption)).mono ?_; rintro e w' ⟨rfl, rfl⟩) | (go_at_call 15; refine (alive_any _).mono ?_; rintro e w' ⟨rfl, rfl⟩) | (go_at_call 26; refine (implTurnWord_any _ _ (by assumption)).mono ?_; rintro e w' ⟨rfl, rfl⟩) | (go_at_call 27; refine (specTurnWord_any _ _ (by assumption)).mono ?_; rintro e w' ⟨rfl, rfl⟩) | (go_at_call 18; refine (specWordValid_any _ _ (by assumption)).mono ?_; rintro e w' ⟨rfl, rfl⟩) | (go_at_call 30; refine (implPartNeeds_any _ _ _).mono ?_; rintro e w' ⟨rfl, hb⟩; (obtain ⟨hc, hf, hz⟩ := bcell hb; (try simp at hz); (try have hzl := Nat.lt_of_succ_le hz); (try have hzm := Nat.lt_of_succ_lt hzl); (try have hzn := Nat.lt_of_succ_lt hzm))) | (go_at_call 31; refine (specPartNeeds_any _ _ _).mono ?_; rintro e w' ⟨rfl, hb⟩; (obtain ⟨hc, hf, hz⟩ := bcell hb; (try simp at hz); (try have hzl := Nat.lt_of_succ_le hz); (try have hzm := Nat.lt_of_succ_lt hzl); (try have hzn := Nat.lt_of_succ_lt hzm))) | (go_at_call 20; refine (implPartValid_any _ _ _).mono ?_; rintro e w' ⟨rfl, rfl⟩) | (go_at_call 21; refine (specPartValid_any _ _ _).mono ?_; rintro e w' ⟨rfl, rfl⟩))
        go_ret
        exact ⟨rfl, hb⟩
      · obtain ⟨v1, v2⟩ := wordB_iff.1 hv
        have hbd := rankL_bd _ v1 v2
        have e1 : rankI s.data.toList = rankL s.data.toList := by simp [rankI, hv]
        obtain ⟨b1, b2⟩ := hbd
        by_cases h8 : s.size = 8
        · have h8' : ((s.size : Int) == 8) = true := by rw [h8]; rfl
          clear h8 hv v1 v2 hlen
          go_wp2_with (first | (go_at_call 23; refine (implWordRank_any _ _ (by assumption)).mono ?_; rintro e w' ⟨rfl, rfl⟩) | (go_at_call 24; refine (specWordRank_any _ _ (by assumption)).mono ?_; rintro e w' ⟨rfl, rfl⟩) | (go_at_call 15; refine (alive_any _).mono ?_; rintro e w' ⟨rfl, rfl⟩) | (go_at_call 26; refine (implTurnWord_any _ _ (by assumption)).mono ?_; rintro e w' ⟨rfl, rfl⟩) | (go_at_call 27; refine (specTurnWord_any _ _ (by assumption)).mono ?_; rintro e w' ⟨rfl, rfl⟩) | (go_at_call 18; refine (specWordValid_any _ _ (by assumption)).mono ?_; rintro e w' ⟨rfl, rfl⟩) | (go_at_call 30; refine (implPartNeeds_any _ _ _).mono ?_; rintro e w' ⟨rfl, hb⟩; (obtain ⟨hc, hf, hz⟩ := bcell hb; (try simp at hz); (try have hzl := Nat.lt_of_succ_le hz); (try have hzm := Nat.lt_of_succ_lt hzl); (try have hzn := Nat.lt_of_succ_lt hzm))) | (go_at_call 31; refine (specPartNeeds_any _ _ _).mono ?_; rintro e w' ⟨rfl, hb⟩; (obtain ⟨hc, hf, hz⟩ := bcell hb; (try simp at hz); (try have hzl := Nat.lt_of_succ_le hz); (try have hzm := Nat.lt_of_succ_lt hzl); (try have hzn := Nat.lt_of_succ_lt hzm))) | (go_at_call 20; refine (implPartValid_any _ _ _).mono ?_; rintro e w' ⟨rfl, rfl⟩) | (go_at_call 21; refine (specPartValid_any _ _ _).mono ?_; rintro e w' ⟨rfl, rfl⟩))
          go_ret
          exact ⟨rfl, hb⟩
        · have h8' : ((s.size : Int) == 8) = false := by simp; omega
          have hcv := conv_one w1 (97 + (n2 : Int) % 3) (by omega) (by omega)
          have hch : UInt8.ofNat (97 + (n2 : Int) % 3).toNat = chr ((n2 : Int) % 3) := by
            have : (97 + (n2 : Int) % 3).toNat = 97 + ((n2 : Int) % 3).toNat := by omega
            rw [chr, this]
          rw [hch] at hcv
          obtain ⟨c1, c2⟩ := chr_dig (d := (n2 : Int) % 3) (by omega) (by omega)
          have e3 : rankI (s.data.toList ++ [chr ((n2 : Int) % 3)]) = 3 * rankL s.data.toList + (n2 : Int) % 3 + 1 := by
            have : wordB (s.data.toList ++ [chr ((n2 : Int) % 3)]) = true := wordB_iff.2 ⟨by rw [letsB_snoc, v1, c2]; rfl, by simp; omega⟩
            simp only [rankI, this, if_true, rankL_snoc, c1]
          have z3 : (s ++ (⟨#[chr ((n2 : Int) % 3)]⟩ : ByteArray)).size ≤ maxLen := small_le (by rw [app_size]; show s.size + 1 ≤ 1000; omega)
          clear hv v1 v2 hlen c1 c2 hch h8
          go_wp2_with (first | (go_at_call 23; refine (implWordRank_any _ _ (by assumption)).mono ?_; rintro e w' ⟨rfl, rfl⟩) | (go_at_call 24; refine (specWordRank_any _ _ (by assumption)).mono ?_; rintro e w' ⟨rfl, rfl⟩) | (go_at_call 15; refine (alive_any _).mono ?_; rintro e w' ⟨rfl, rfl⟩) | (go_at_call 26; refine (implTurnWord_any _ _ (by assumption)).mono ?_; rintro e w' ⟨rfl, rfl⟩) | (go_at_call 27; refine (specTurnWord_any _ _ (by assumption)).mono ?_; rintro e w' ⟨rfl, rfl⟩) | (go_at_call 18; refine (specWordValid_any _ _ (by assumption)).mono ?_; rintro e w' ⟨rfl, rfl⟩) | (go_at_call 30; refine (implPartNeeds_any _ _ _).mono ?_; rintro e w' ⟨rfl, hb⟩; (obtain ⟨hc, hf, hz⟩ := bcell hb; (try simp at hz); (try have hzl := Nat.lt_of_succ_le hz); (try have hzm := Nat.lt_of_succ_lt hzl); (try have hzn := Nat.lt_of_succ_lt hzm))) | (go_at_call 31; refine (specPartNeeds_any _ _ _).mono ?_; rintro e w' ⟨rfl, hb⟩; (obtain ⟨hc, hf, hz⟩ := bcell hb; (try simp at hz); (try have hzl := Nat.lt_of_succ_le hz); (try have hzm := Nat.lt_of_succ_lt hzl); (try have hzn := Nat.lt_of_succ_lt hzm))) | (go_at_call 20; refine (implPartValid_any _ _ _).mono ?_; rintro e w' ⟨rfl, rfl⟩) | (go_at_call 21; refine (specPartValid_any _ _ _).mono ?_; rintro e w' ⟨rfl, rfl⟩))
          go_ret
          exact ⟨rfl, hb.alloc hb.size _⟩
    · go_enter Try.func6, Try.ntmps6
      go_wp2
      go_ret
      exact ⟨rfl, Below.refl _ _⟩
  · go_enter Try.func6, Try.ntmps6
    go_wp2
    go_ret
    exact ⟨rfl, Below.refl _ _⟩

set_option maxHeartbeats 2000000 in
theorem wFnPartValid (A : Option Addr) (n c : Nat) (w : World) (hw : BytesIn w A n c) : Calls Try.prog 5 #[.slice A n c] w (Yes w) := by
  obtain ⟨hnc, hcm, hcode⟩ := hw
  by_cases hn : n ≤ 1048576
  · go_enter Try.func5, Try.ntmps5
    go_wp2_with fail
    refine (dPartValid_any _ n c A _ hcode (Nat.le_refl _) hnc hn).mono ?_
    rintro e w1 ⟨k, l, rfl, k0, k1, l0, l1, hb⟩
    clear hcode
    have e1 : pvB 9 l = false := by unfold pvB; rw [show inB 9 1 8 = false from by decide]; rfl
    have e2 : pvB k 3 = false := by
      unfold pvB
      split
      · rw [show inB 3 0 2 = false from by decide, Bool.and_false]
      · rw [show decide ((3 : Int) = 0) = false from by decide, Bool.and_false]
    go_wp2_with (first | (go_at_call 23; refine (implWordRank_any _ _ (by assumption)).mono ?_; rintro e w' ⟨rfl, rfl⟩) | (go_at_call 24; refine (specWordRank_any _ _ (by assumption)).mono ?_; rintro e w' ⟨rfl, rfl⟩) | (go_at_call 15; refine (alive_any _).mono ?_; rintro e w' ⟨rfl, rfl⟩) | (go_at_call 26; refine (implTurnWord_any _ _ (by assumption)).mono ?_; rintro e w' ⟨rfl, rfl⟩) | (go_at_call 27; refine (specTurnWord_any _ _ (by assumption)).mono ?_; rintro e w' ⟨rfl, rfl⟩) | (go_at_call 18; refine (specWordValid_any _ _ (by assumption)).mono ?_; rintro e w' ⟨rfl, rfl⟩) | (go_at_call 30; refine (implPartNeeds_any _ _ _).mono ?_; rintro e w' ⟨rfl, hb⟩; (obtain ⟨hc, hf, hz⟩ := bcell hb; (try simp at hz); (try have hzl := Nat.lt_of_succ_le hz); (try have hzm := Nat.lt_of_succ_lt hzl); (try have hzn := Nat.lt_of_succ_lt hzm))) | (go_at_call 31; refine (specPartNeeds_any _ _ _).mono ?_; rintro e w' ⟨rfl, hb⟩; (obtain ⟨hc, hf, hz⟩ := bcell hb; (try simp at hz); (try have hzl := Nat.lt_of_succ_le hz); (try have hzm := Nat.lt_of_succ_lt hzl); (try have hzn := Nat.lt_of_succ_lt hzm))) | (go_at_call 20; refine (implPartValid_any _ _ _).mono ?_; rintro e w' ⟨rfl, rfl⟩) | (go_at_call 21; refine (specPartValid_any _ _ _).mono ?_; rintro e w' ⟨rfl, rfl⟩))
    go_ret
    exact ⟨rfl, by repeat (first | exact hb | (refine Below.setCell ?_ (by simp; omega) _) | (refine Below.alloc ?_ (by first | exact hb.size | (have := hb.size; simp; omega)) _))⟩
  · go_enter Try.func5, Try.ntmps5
    go_wp2
    go_ret
    exact ⟨rfl, Below.refl _ _⟩

set_option maxHeartbeats 2000000 in
theorem wFnPartNeeds (A : Option Addr) (n c : Nat) (w : World) (hw : BytesIn w A n c) : Calls Try.prog 10 #[.slice A n c] w (Yes w) := by
  obtain ⟨hnc, hcm, hcode⟩ := hw
  by_cases hn : n ≤ 1048576
  · go_enter Try.func10, Try.ntmps10
    go_wp2_with fail
    refine (dPartNeeds_any _ n c A _ hcode (Nat.le_refl _) hnc hn).mono ?_
    rintro e w1 ⟨k, l, rfl, k0, k1, l0, l1, hb⟩
    clear hcode
    obtain ⟨e0, e1⟩ := needN_bd k
    have hbs := hb.size
    rcases hv : pvB k l
    · have e2 : pnI k l = -1 := by simp [pnI, hv]
      by_cases h3 : k = 3
      · subst h3
        go_wp2_with (first | (go_at_call 15; refine (alive_any _).mono ?_; rintro e w' ⟨rfl, rfl⟩) | (go_at_call 30; refine (implPartNeeds_any _ _ _).mono ?_; rintro e w' ⟨rfl, hb⟩; (obtain ⟨hc, hf, hz⟩ := bcell hb; (try simp at hz); (try have hzl := Nat.lt_of_succ_le hz); (try have hzm := Nat.lt_of_succ_lt hzl); (try have hzn := Nat.lt_of_succ_lt hzm))) | (go_at_call 31; refine (specPartNeeds_any _ _ _).mono ?_; rintro e w3 ⟨rfl, hb⟩; (obtain ⟨hc, hf, hz⟩ := bcell hb; (try simp at hz); (try have hzl := Nat.lt_of_succ_le hz); (try have hzm := Nat.lt_of_succ_lt hzl); (try have hzn := Nat.lt_of_succ_lt hzm)); have hq : w1.heap.size < w3.heap.size := by omega) | (go_at_call 20; refine (implPartValid_any _ _ _).mono ?_; rintro e w' ⟨rfl, rfl⟩))
        go_ret
        exact ⟨rfl, by repeat (first | exact Below.refl _ _ | (refine Below.alloc ?_ (by first | omega | (simp; omega)) _) | (refine Below.trans ?_ (Below.mono (by assumption) (by first | omega | (simp; omega)))))⟩
      · have h3' : (k != 3) = true := by simpa using h3
        go_wp2_with (first | (go_at_call 15; refine (alive_any _).mono ?_; rintro e w' ⟨rfl, rfl⟩) | (go_at_call 30; refine (implPartNeeds_any _ _ _).mono ?_; rintro e w' ⟨rfl, hb⟩; (obtain ⟨hc, hf, hz⟩ := bcell hb; (try simp at hz); (try have hzl := Nat.lt_of_succ_le hz); (try have hzm := Nat.lt_of_succ_lt hzl); (try have hzn := Nat.lt_of_succ_lt hzm))) | (go_at_call 31; refine (specPartNeeds_any _ _ _).mono ?_; rintro e w3 ⟨rfl, hb⟩; (obtain ⟨hc, hf, hz⟩ := bcell hb; (try simp at hz); (try have hzl := Nat.lt_of_succ_le hz); (try have hzm := Nat.lt_of_succ_lt hzl); (try have hzn := Nat.lt_of_succ_lt hzm)); have hq : w1.heap.size < w3.heap.size := by omega) | (go_at_call 20; refine (implPartValid_any _ _ _).mono ?_; rintro e w' ⟨rfl, rfl⟩))
        go_ret
        exact ⟨rfl, by repeat (first | exact Below.refl _ _ | (refine Below.alloc ?_ (by first | omega | (simp; omega)) _) | (refine Below.trans ?_ (Below.mono (by assumption) (by first | omega | (simp; omega)))))⟩
    · have e2 : pnI k l = needN k := by simp [pnI, hv]
      have e3 : (needN k == -1) = false := by simp; omega
      by_cases h3 : k = 3
      · subst h3
        have e4 : needN 3 = 0 := by decide
        clear e3
        go_wp2_with (first | (go_at_call 15; refine (alive_any _).mono ?_; rintro e w' ⟨rfl, rfl⟩) | (go_at_call 30; refine (implPartNeeds_any _ _ _).mono ?_; rintro e w' ⟨rfl, hb⟩; (obtain ⟨hc, hf, hz⟩ := bcell hb; (try simp at hz); (try have hzl := Nat.lt_of_succ_le hz); (try have hzm := Nat.lt_of_succ_lt hzl); (try have hzn := Nat.lt_of_succ_lt hzm))) | (go_at_call 31; refine (specPartNeeds_any _ _ _).mono ?_; rintro e w3 ⟨rfl, hb⟩; (obtain ⟨hc, hf, hz⟩ := bcell hb; (try simp at hz); (try have hzl := Nat.lt_of_succ_le hz); (try have hzm := Nat.lt_of_succ_lt hzl); (try have hzn := Nat.lt_of_succ_lt hzm)); have hq : w1.heap.size < w3.heap.size := by omega) | (go_at_call 20; refine (implPartValid_any _ _ _).mono ?_; rintro e w' ⟨rfl, rfl⟩))
        go_ret
        exact ⟨rfl, by repeat (first | exact Below.refl _ _ | (refine Below.alloc ?_ (by first | omega | (simp; omega)) _) | (refine Below.trans ?_ (Below.mono (by assumption) (by first | omega | (simp; omega)))))⟩
      · have h3' : (k != 3) = true := by simpa using h3
        go_wp2_with (first | (go_at_call 15; refine (alive_any _).mono ?_; rintro e w' ⟨rfl, rfl⟩) | (go_at_call 30; refine (implPartNeeds_any _ _ _).mono ?_; rintro e w' ⟨rfl, hb⟩; (obtain ⟨hc, hf, hz⟩ := bcell hb; (try simp at hz); (try have hzl := Nat.lt_of_succ_le hz); (try have hzm := Nat.lt_of_succ_lt hzl); (try have hzn := Nat.lt_of_succ_lt hzm))) | (go_at_call 31; refine (specPartNeeds_any _ _ _).mono ?_; rintro e w3 ⟨rfl, hb⟩; (obtain ⟨hc, hf, hz⟩ := bcell hb; (try simp at hz); (try have hzl := Nat.lt_of_succ_le hz); (try have hzm := Nat.lt_of_succ_lt hzl); (try have hzn := Nat.lt_of_succ_lt hzm)); have hq : w1.heap.size < w3.heap.size := by omega) | (go_at_call 20; refine (implPartValid_any _ _ _).mono ?_; rintro e w' ⟨rfl, rfl⟩))
        go_ret
        exact ⟨rfl, by repeat (first | exact Below.refl _ _ | (refine Below.alloc ?_ (by first | omega | (simp; omega)) _) | (refine Below.trans ?_ (Below.mono (by assumption) (by first | omega | (simp; omega)))))⟩
  · go_enter Try.func10, Try.ntmps10
    go_wp2
    go_ret
    exact ⟨rfl, Below.refl _ _⟩

end Go.Proofs.Ytpejjpabgfkooaa
