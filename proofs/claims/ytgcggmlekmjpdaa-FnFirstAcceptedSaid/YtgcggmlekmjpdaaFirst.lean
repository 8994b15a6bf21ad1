/-
  The first accepted word: both functions.
-/
import Derived.Test.YtgcggmlekmjpdaaCount
namespace Go.Proofs.Ytgcggmlekmjpdaa
open Go.RowKit
set_option linter.unusedVariables false
set_option maxRecDepth 100000

/-- What FirstAccepted answers. -/
def FirstR (e : List Pt) (len : Int) (s : List UInt8) (b : Bool) : Prop :=
  (exprB e = true ∧ inB len 0 5 = true ∧ ∃ t : Ex, t.good ∧ t.flat = e ∧
    ((b = true ∧ ∃ k : Nat, (k : Int) < shN (len.toNat + 1) ∧ t.acc (wat k) = true ∧ (∀ j : Nat, j < k → t.acc (wat j) = false) ∧ s = wat k) ∨
     (b = false ∧ s = [] ∧ ∀ j : Nat, (j : Int) < shN (len.toNat + 1) → t.acc (wat j) = false))) ∨
  (¬(exprB e = true ∧ inB len 0 5 = true) ∧ b = false ∧ s = [])
theorem FirstR.uniq {e : List Pt} {len : Int} {s s' : List UInt8} {b b' : Bool} (h : FirstR e len s b) (h' : FirstR e len s' b') : s = s' ∧ b = b' := by
  rcases h with ⟨h1, h2, t, hg, hf, h3⟩ | ⟨h1, rfl, rfl⟩
  · rcases h' with ⟨k1, k2, u, kg, kf, k3⟩ | ⟨k1, -, -⟩
    · obtain rfl := Ex.flat_inj hg kg (hf.trans kf.symm)
      rcases h3 with ⟨rfl, k, a1, a2, a3, rfl⟩ | ⟨rfl, rfl, a1⟩
      · rcases k3 with ⟨rfl, k', b1, b2, b3, rfl⟩ | ⟨rfl, rfl, b1⟩
        · have : k = k' := by
            rcases Nat.lt_trichotomy k k' with h | h | h
            · rw [b3 k h] at a2; cases a2
            · exact h
            · rw [a3 k' h] at b2; cases b2
          subst this; exact ⟨rfl, rfl⟩
        · rw [b1 k a1] at a2; cases a2
      · rcases k3 with ⟨rfl, k', b1, b2, b3, rfl⟩ | ⟨rfl, rfl, b1⟩
        · rw [a1 k' b1] at b2; cases b2
        · exact ⟨rfl, rfl⟩
    · exact absurd ⟨h1, h2⟩ k1
  · rcases h' with ⟨k1, k2, -⟩ | ⟨k1, rfl, rfl⟩
    · exact absurd ⟨k1, k2⟩ h1
    · exact ⟨rfl, rfl⟩
def FirstD (w : World) (e : List Pt) (len : Int) (r : Ending) (w' : World) : Prop := ∃ (s : ByteArray) (b : Bool), r = .returned (.tuple #[.string s, .bool b]) ∧ FirstR e len s.data.toList b ∧ Below w.heap.size w w'
theorem no_next {t : Ex} {m : Nat} (h : ∀ j : Nat, j < m → t.acc (wat j) = false) (h1 : t.acc (wat m) = false) : ∀ j : Nat, j < m + 1 → t.acc (wat j) = false := by
  intro j hj
  by_cases e : j = m
  · subst e; exact h1
  · exact h j (by omega)
set_option maxHeartbeats 2000000 in
theorem implFirstAcc_any (w : World) (A : Option Addr) (n c : Nat) (e : List Pt) (len : Int) (h : PS w w.heap.size A n e) :
    Calls Try.prog 21 #[.slice A n c, .int .i64 len] w (FirstD w e len) := by
  rcases hv : exprB e
  · go_enter Try.func21, Try.ntmps21
    go_wp2_with (go_at_call 41; refine (implExprValid_any _ _ _ _ e h).mono ?_; rintro r w1 ⟨rfl, hb⟩; rw [hv])
    go_ret2
    exact ⟨_, _, rfl, .inr ⟨by simp [hv], rfl, rfl⟩, hb⟩
  rcases hw : inB len 0 5
  · go_enter Try.func21, Try.ntmps21
    go_wp2_with (first | (go_at_call 41; refine (implExprValid_any _ _ _ _ e h).mono ?_; rintro r w1 ⟨rfl, hb⟩; rw [hv]) | (go_at_call 47; refine (within_any _ _ _ _).mono ?_; rintro r w2 ⟨rfl, rfl⟩; rw [hw]))
    go_ret2
    exact ⟨_, _, rfl, .inr ⟨by simp [hw], rfl, rfl⟩, hb⟩
  · obtain ⟨l0, l5⟩ := inB_true.1 hw
    obtain ⟨t, hg, hf, hs⟩ := exprB_iff.1 hv
    obtain ⟨L, rfl⟩ := Int.eq_ofNat_of_zero_le l0
    have HT := Lib.hid (show exprB e = true ∧ inB (L : Int) 0 5 = true ∧ t.good ∧ t.flat = e from ⟨hv, hw, hg, hf⟩)
    have hsh1 := shN_bd (n := L + 1) (by omega)
    have hc2 : ∀ W, Calls Try.prog 48 #[.int .i64 ((L : Int) + 1)] W fun e w' => e = .returned (.int .i64 (shN (L + 1))) ∧ W = w' := fun W => by
      have := shorter_any ((L : Int) + 1) W (by omega) (by omega)
      rw [show ((L : Int) + 1).toNat = L + 1 by omega] at this; exact this
    have HP := hide h
    have hwL : IntKind.i64.wrap ((L : Int) + 1) = (L : Int) + 1 := IntWalk.i64_in _ (by omega)
    obtain ⟨M, hM⟩ : ∃ M : Nat, shN (L + 1) = (M : Int) := ⟨(shN (L + 1)).toNat, by omega⟩
    rw [hM] at hc2 hsh1
    have HM := Lib.hid hM
    clear h hv hw hg hf hs hM
    go_enter Try.func21, Try.ntmps21
    go_wp2_with (first | (go_at_call 41; refine (implExprValid_any _ _ _ _ e (unhide HP)).mono ?_; rintro r w1 ⟨rfl, hb⟩; rw [HT.out.1]) | (go_at_call 47; refine (within_any _ _ _ _).mono ?_; rintro r w2 ⟨rfl, rfl⟩; rw [HT.out.2.1]) | (go_at_call 48; refine (hc2 _).mono ?_; rintro r w3 ⟨rfl, rfl⟩))
    go_loopw [20] (fun kv wr => ∃ m : Nat, m ≤ M ∧ kv = .int .i64 m ∧ Hid (∀ j : Nat, j < m → t.acc (wat j) = false) ∧ Below w.heap.size w wr) (fun kv _ => (M - intOf kv).toNat)
    case atStart => exact ⟨0, Nat.zero_le _, rfl, Lib.hid (fun j hj => by omega), hb⟩
    case round =>
      clear hb
      obtain ⟨m, hm, rfl, hno, hb⟩ := hrel
      by_cases hlt : m < M
      · have hlt' : (m : Int) < (M : Int) := by omega
        have hk9 : (m : Int) ≤ 9840 := by omega
        have hk0 : 0 ≤ (m : Int) := by omega
        have hwv := watV_in hk0 hk9
        have hwb := wat_wordB hk0 hk9
        obtain ⟨X, hX⟩ : ∃ X : ByteArray, (⟨(wat m).toArray⟩ : ByteArray) = X := ⟨_, rfl⟩
        have HX := Lib.hid (show X.data.toList = wat m by rw [← hX])
        rw [hX] at hwv
        clear hX
        go_wp2_with (first | (go_at_call 36; refine (implWordAt_any m _).mono ?_; rintro r w5 ⟨rfl, rfl⟩; rw [hwv]))
        refine (accepts_any _ _ _ _ e X ((unhide HP).up hb) HT.out.1 (by rw [HX.out]; exact hwb)).mono ?_
        rintro r w6 ⟨b, rfl, hacc, hb6⟩
        have hbt := hacc.tree HT.out.2.2.1 HT.out.2.2.2
        rw [HX.out] at hbt
        have HB := Lib.hid hbt
        have hbb := hb.trans (hb6.mono hb.size)
        clear hbt hacc hwb
        cases b
        · go_wp2
          go_roundw
          case rel => exact ⟨m + 1, by omega, by go_num, Lib.hid (no_next hno.out HB.out.symm), hbb⟩
          case measure => simp [intOf]; omega
        · go_wp2
          go_ret2
          exact ⟨X, true, rfl, .inl ⟨HT.out.1, HT.out.2.1, t, HT.out.2.2.1, HT.out.2.2.2, .inl ⟨rfl, m, by rw [Int.toNat_natCast, HM.out]; exact hlt', HB.out.symm, hno.out, HX.out⟩⟩, hbb⟩
      · obtain rfl : m = M := by omega
        go_wp2
        go_ret2
        exact ⟨_, _, rfl, .inl ⟨HT.out.1, HT.out.2.1, t, HT.out.2.2.1, HT.out.2.2.2, .inr ⟨rfl, rfl, fun j hj => hno.out j (by rw [Int.toNat_natCast, HM.out] at hj; omega)⟩⟩, hb⟩
set_option maxHeartbeats 4000000 in
theorem specFirstAcc_any (w : World) (A : Option Addr) (n c : Nat) (e : List Pt) (len : Int) (h : PS w w.heap.size A n e) (hn : n ≤ 1000000000) :
    Calls Try.prog 20 #[.slice A n c, .int .i64 len] w (FirstD w e len) := by
  rcases hv : exprB e
  · go_enter Try.func20, Try.ntmps20
    go_wp2_with (go_at_call 25; refine (specExprValid_any _ _ _ _ e h hn).mono ?_; rintro r w1 ⟨rfl, hb⟩; rw [hv])
    go_ret2
    exact ⟨_, _, rfl, .inr ⟨by simp [hv], rfl, rfl⟩, hb⟩
  rcases hw : inB len 0 5
  · go_enter Try.func20, Try.ntmps20
    go_wp2_with (first | (go_at_call 25; refine (specExprValid_any _ _ _ _ e h hn).mono ?_; rintro r w1 ⟨rfl, hb⟩; rw [hv]) | (go_at_call 45; refine (l1In_any _ _ _ _).mono ?_; rintro r w2 ⟨rfl, rfl⟩; rw [hw]))
    go_ret2
    exact ⟨_, _, rfl, .inr ⟨by simp [hw], rfl, rfl⟩, hb⟩
  · obtain ⟨l0, l5⟩ := inB_true.1 hw
    obtain ⟨t, hg, hf, hs⟩ := exprB_iff.1 hv
    obtain ⟨L, rfl⟩ := Int.eq_ofNat_of_zero_le l0
    have hL5 : L ≤ 5 := by omega
    have hlen := h.1
    have h60 := len_of_exprB hv
    have HLN := Lib.hid hlen
    have hn60 : n ≤ 60 := by omega
    have HT := Lib.hid (show exprB e = true ∧ inB (L : Int) 0 5 = true ∧ t.good ∧ t.flat = e from ⟨hv, hw, hg, hf⟩)
    have hsh1 : shN (L + 1) ≤ 364 := by
      have h1 := shN_mono (show L + 1 ≤ 6 by omega)
      have h2 : shN 6 = 364 := by decide
      omega
    have HP := hide h
    obtain ⟨M, hM⟩ : ∃ M : Nat, shN (L + 1) = (M : Int) := ⟨(shN (L + 1)).toNat, by have := shN_nonneg (L + 1); omega⟩
    rw [hM] at hsh1
    have HM := Lib.hid hM
    clear h hv hw hg hf hs hM hlen h60
    go_enter Try.func20, Try.ntmps20
    go_wp2_with (first | (go_at_call 25; refine (specExprValid_any _ _ _ _ e (unhide HP) hn).mono ?_; rintro r w1 ⟨rfl, hb⟩; rw [HT.out.1]) | (go_at_call 45; refine (l1In_any _ _ _ _).mono ?_; rintro r w2 ⟨rfl, rfl⟩; rw [HT.out.2.1]))
    go_loopw [6] (fun kv wr => ∃ m : Nat, m ≤ M ∧ kv = .int .i64 m ∧ Hid (∀ j : Nat, j < m → t.acc (wat j) = false) ∧ Below w.heap.size w wr) (fun kv _ => (M - intOf kv).toNat)
    case atStart => exact ⟨0, Nat.zero_le _, rfl, Lib.hid (fun j hj => by omega), hb⟩
    case round =>
      clear hb
      obtain ⟨m, hm, rfl, hno, hb⟩ := hrel
      have hk9 : (m : Int) ≤ 9840 := by omega
      have hk0 : 0 ≤ (m : Int) := by omega
      have hwv := watV_in hk0 hk9
      have hwb := wat_wordB hk0 hk9
      have hwl := wat_len (m := L) hk0 hk9
      rw [HM.out] at hwl
      obtain ⟨X, hX⟩ : ∃ X : ByteArray, (⟨(wat m).toArray⟩ : ByteArray) = X := ⟨_, rfl⟩
      have HX := Lib.hid (show X.data.toList = wat m by rw [← hX])
      have hXl : (wat m).length = X.size := by rw [← hX]; show _ = (wat m).toArray.size; simp
      have hXs := (wordB_iff.1 hwb).2
      have HXL := Lib.hid (show X.data.toList.length = X.size by simp)
      rw [hXl] at hwl hXs
      rw [hX] at hwv
      clear hX hXl
      by_cases hlt : m < M
      · have hsz : ¬ (L : Int) < (X.size : Int) := by have := hwl.2 (by omega); omega
        clear hwl
        go_wp2_with (first | (go_at_call 46; refine (specWordAt_any m _ (by omega)).mono ?_; rintro r w5 ⟨rfl, hb5⟩; rw [hwv]))
        refine (l3Table_any _ _ _ _ e X (((unhide HP).up hb).up hb5) hn60 HT.out.1 (by rw [HX.out]; exact (wordB_iff.1 hwb).1) hXs).mono ?_
        rintro r w6 ⟨tv, rfl, hTb⟩
        have hb6 := hTb.bl
        obtain ⟨m', gt, ct, g1, c1, q1, d1, b, hm', rfl, k1, k2, k3, hacc⟩ := hTb.last HLN.out HT.out.1
        rw [HXL.out] at k1 k2 k3
        have hwm : IntKind.i64.wrap ((n : Int) - 1) = (m' : Int) := by rw [show (n : Int) - 1 = (m' : Int) by omega]; exact IntWalk.i64_in _ (by omega)
        have hmw : IntKind.i64.wrap (m' : Int) = (m' : Int) := IntWalk.i64_in _ (by omega)
        have hm0 : (0 : Int) ≤ (m' : Int) := by omega
        have hm1 : (m' : Int) < (n : Int) := by omega
        have hbt := hacc.tree HT.out.2.2.1 HT.out.2.2.2
        rw [HX.out] at hbt
        have HB := Lib.hid hbt
        have hbb := hb.trans ((hb5.trans (hb6.mono hb5.size)).mono hb.size)
        clear hbt hacc hwb hm' hTb
        cases b
        · go_wp2
          go_roundw
          case rel => exact ⟨m + 1, by omega, by go_num, Lib.hid (no_next hno.out HB.out.symm), hbb⟩
          case measure => simp [intOf]; omega
        · go_wp2
          go_ret2
          exact ⟨X, true, rfl, .inl ⟨HT.out.1, HT.out.2.1, t, HT.out.2.2.1, HT.out.2.2.2, .inl ⟨rfl, m, by rw [Int.toNat_natCast, HM.out]; omega, HB.out.symm, hno.out, HX.out⟩⟩, hbb⟩
      · obtain rfl : m = M := by omega
        have hsz : (L : Int) < (X.size : Int) := by
          rcases Nat.lt_or_ge L X.size with h | h
          · omega
          · have := hwl.1 h; omega
        clear hwl
        go_wp2_with (first | (go_at_call 46; refine (specWordAt_any m _ (by omega)).mono ?_; rintro r w5 ⟨rfl, hb5⟩; rw [hwv]))
        go_ret2
        exact ⟨_, _, rfl, .inl ⟨HT.out.1, HT.out.2.1, t, HT.out.2.2.1, HT.out.2.2.2, .inr ⟨rfl, rfl, fun j hj => hno.out j (by rw [Int.toNat_natCast, HM.out] at hj; omega)⟩⟩, hb.trans (hb5.mono hb.size)⟩
end Go.Proofs.Ytgcggmlekmjpdaa
