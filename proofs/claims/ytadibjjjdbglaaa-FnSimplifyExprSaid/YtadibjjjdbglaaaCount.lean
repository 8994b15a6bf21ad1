/-
  Counting accepted words, and the first one: both functions, on both sides.
-/
import Derived.Test.YtadibjjjdbglaaaAcc
import Derived.Test.YtadibjjjdbglaaaWords2
namespace Go.Proofs.Ytadibjjjdbglaaa
open Go.RowKit
set_option linter.unusedVariables false
set_option maxRecDepth 100000

/-- The length of the word with a number. -/
theorem wat_len {k : Int} {m : Nat} (h0 : 0 ≤ k) (h : k ≤ 9840) : (wat k).length ≤ m ↔ k < shN (m + 1) := by
  obtain ⟨h1, h2⟩ := wat_spec h0 h
  have h3 := (wordB_iff.1 h1).1
  have h4 := rank_base (wat k)
  have h5 := baseL_bd (wat k) h3
  rw [h2] at h4
  constructor
  · intro h6
    have := shN_mono (show (wat k).length + 1 ≤ m + 1 by omega)
    simp only [shN] at this
    simp only [shN]
    omega
  · intro h6
    rcases Nat.lt_or_ge m (wat k).length with h7 | h7
    · have := shN_mono (show m + 1 ≤ (wat k).length by omega)
      omega
    · exact h7
/-- How many of m words, from number a on, are in the language. -/
def cnt (t : Ex) (a : Int) : Nat → Int
  | 0 => 0
  | m + 1 => cnt t a m + if t.acc (wat (a + m)) = true then 1 else 0
theorem cnt_bd (t : Ex) (a : Int) (m : Nat) : 0 ≤ cnt t a m ∧ cnt t a m ≤ m := by
  induction m with
  | zero => simp [cnt]
  | succ m ih => simp only [cnt]; split <;> omega
def countI (t : Ex) (len : Nat) : Int := cnt t (shN len) (p3 len).toNat
/-- What CountAccepted answers. -/
def CountR (e : List Pt) (len : Int) (d : Int) : Prop := (exprB e = true ∧ inB len 0 5 = true ∧ ∃ t : Ex, t.good ∧ t.flat = e ∧ d = countI t len.toNat) ∨ (¬(exprB e = true ∧ inB len 0 5 = true) ∧ d = -1)
theorem CountR.uniq {e : List Pt} {len a b : Int} (h : CountR e len a) (k : CountR e len b) : a = b := by
  rcases h with ⟨h1, h2, t, h3, h4, rfl⟩ | ⟨h1, rfl⟩
  · rcases k with ⟨k1, k2, u, k3, k4, rfl⟩ | ⟨k1, rfl⟩
    · rw [Ex.flat_inj h3 k3 (h4.trans k4.symm)]
    · exact absurd ⟨h1, h2⟩ k1
  · rcases k with ⟨k1, k2, -⟩ | ⟨k1, rfl⟩
    · exact absurd ⟨k1, k2⟩ h1
    · rfl
def CountD (w : World) (e : List Pt) (len : Int) (r : Ending) (w' : World) : Prop := ∃ d, r = .returned (.int .i64 d) ∧ CountR e len d ∧ Below w.heap.size w w'
theorem wat_wordB {k : Int} (h0 : 0 ≤ k) (h : k ≤ 9840) : wordB (wat k) = true := (wat_spec h0 h).1
theorem watV_in {k : Int} (h0 : 0 ≤ k) (h : k ≤ 9840) : watV k = .tuple #[.string ⟨(wat k).toArray⟩, .bool true] := by rw [watV, if_pos (inB_true.2 ⟨h0, h⟩)]
theorem AccR.tree {e : List Pt} {s : List UInt8} {b : Bool} {t : Ex} (h : AccR e s b) (hg : t.good) (hf : t.flat = e) : b = t.acc s := by
  rw [← hf] at h; exact h.uniq (AccR.of hg s)
theorem cnt_next (t : Ex) (a k : Int) (m : Nat) (b : Bool) (hk : k = a + m) (hb : b = t.acc (wat k)) : cnt t a (m + 1) = cnt t a m + (if b = true then 1 else 0) := by
  subst hk; subst hb; rfl
theorem cnt_congr {t u : Ex} (h : ∀ s, t.acc s = u.acc s) (a : Int) (m : Nat) : cnt t a m = cnt u a m := by
  induction m with
  | zero => rfl
  | succ m ih => simp only [cnt, ih, h]
theorem CountR.tree {t : Ex} {e : List Pt} {len d : Int} (hf : t.flat = e) (hg : t.good) (hs : t.sz ≤ 60) (hl : inB len 0 5 = true) (h : CountR e len d) : d = countI t len.toNat := by
  rcases h with ⟨h1, h2, u, h3, h4, rfl⟩ | ⟨h1, -⟩
  · rw [Ex.flat_inj h3 hg (h4.trans hf.symm)]
  · exact absurd ⟨exprB_iff.2 ⟨t, hg, hf, hs⟩, hl⟩ h1
set_option maxHeartbeats 2000000 in
theorem implCount_any (w : World) (A : Option Addr) (n c : Nat) (e : List Pt) (len : Int) (h : PS w w.heap.size A n e) :
    Calls Try.prog 24 #[.slice A n c, .int .i64 len] w (CountD w e len) := by
  rcases hv : exprB e
  · go_enter Try.func24, Try.ntmps24
    go_wp2_with (go_at_call 22; refine (implExprValid_any _ _ _ _ e h).mono ?_; rintro r w1 ⟨rfl, hb⟩; rw [hv])
    go_ret
    exact ⟨_, rfl, .inr ⟨by simp [hv], rfl⟩, hb⟩
  rcases hw : inB len 0 5
  · go_enter Try.func24, Try.ntmps24
    go_wp2_with (first | (go_at_call 22; refine (implExprValid_any _ _ _ _ e h).mono ?_; rintro r w1 ⟨rfl, hb⟩; rw [hv]) | (go_at_call 60; refine (within_any _ _ _ _).mono ?_; rintro r w2 ⟨rfl, rfl⟩; rw [hw]))
    go_ret
    exact ⟨_, rfl, .inr ⟨by simp [hw], rfl⟩, hb⟩
  · obtain ⟨l0, l5⟩ := inB_true.1 hw
    obtain ⟨t, hg, hf, hs⟩ := exprB_iff.1 hv
    obtain ⟨L, rfl⟩ := Int.eq_ofNat_of_zero_le l0
    have hL5 : L ≤ 5 := by omega
    have HT := Lib.hid (show exprB e = true ∧ inB (L : Int) 0 5 = true ∧ t.good ∧ t.flat = e from ⟨hv, hw, hg, hf⟩)
    have hsh := shN_bd (n := L) (by omega)
    have hsh1 := shN_bd (n := L + 1) (by omega)
    have hp := p3_bd (n := L) (by omega)
    have hsum : shN (L + 1) = shN L + p3 L := rfl
    have hc1 : ∀ W, Calls Try.prog 61 #[.int .i64 (L : Int)] W fun e w' => e = .returned (.int .i64 (shN L)) ∧ W = w' := fun W => by have := shorter_any (L : Int) W (by omega) (by omega); simpa using this
    have hc2 : ∀ W, Calls Try.prog 61 #[.int .i64 ((L : Int) + 1)] W fun e w' => e = .returned (.int .i64 (shN (L + 1))) ∧ W = w' := fun W => by
      have := shorter_any ((L : Int) + 1) W (by omega) (by omega)
      rw [show ((L : Int) + 1).toNat = L + 1 by omega] at this; exact this
    have HP := hide h
    have hwL : IntKind.i64.wrap ((L : Int) + 1) = (L : Int) + 1 := IntWalk.i64_in _ (by omega)
    obtain ⟨M, hM⟩ : ∃ M : Nat, (p3 L).toNat = M := ⟨_, rfl⟩
    have hMp : p3 L = M := by omega
    obtain ⟨a, ha⟩ : ∃ a, shN L = a := ⟨_, rfl⟩
    obtain ⟨a', ha'⟩ : ∃ a', shN (L + 1) = a' := ⟨_, rfl⟩
    rw [ha] at hsum hsh hc1
    rw [ha'] at hsum hsh1 hc2
    have HA := Lib.hid (show shN L = a ∧ (p3 L).toNat = M ∧ a' = a + M from ⟨ha, hM, by omega⟩)
    have haM : a + M = a' := by omega
    have HAM := Lib.hid haM
    have hM9 : (M : Int) ≤ 9841 := by omega
    clear h hv hw hg hf hs ha ha' hM hMp hsum hp haM
    go_enter Try.func24, Try.ntmps24
    go_wp2_with (first | (go_at_call 22; refine (implExprValid_any _ _ _ _ e (unhide HP)).mono ?_; rintro r w1 ⟨rfl, hb⟩; rw [HT.out.1]) | (go_at_call 60; refine (within_any _ _ _ _).mono ?_; rintro r w2 ⟨rfl, rfl⟩; rw [HT.out.2.1]) | (go_at_call 61; refine (hc1 _).mono ?_; rintro r w3 ⟨rfl, rfl⟩))
    go_loopw [5, 6] (fun cv kv wr => ∃ (m : Nat) (d : Int), m ≤ M ∧ kv = .int .i64 (a + m) ∧ cv = .int .i64 d ∧ 0 ≤ d ∧ d ≤ m ∧ Hid (d = cnt t a m) ∧ Below w.heap.size w wr) (fun _ kv _ => (a' - intOf kv).toNat)
    case atStart => exact ⟨0, 0, Nat.zero_le _, by simp, rfl, by omega, by omega, Lib.hid rfl, hb⟩
    case round =>
      clear hb
      obtain ⟨m, d, hm, rfl, rfl, hd0, hd1, hd, hb⟩ := hrel
      by_cases hlt : m < M
      · have hlt' : a + (m : Int) < a' := by have := HAM.out; omega
        have hk9 : a + (m : Int) ≤ 9840 := by omega
        have hk0 : 0 ≤ a + (m : Int) := by omega
        have hwv := watV_in hk0 hk9
        have hwb := wat_wordB hk0 hk9
        obtain ⟨k, hk⟩ : ∃ k, a + (m : Int) = k := ⟨_, rfl⟩
        have HK := Lib.hid hk
        rw [hk] at hwv hwb hlt' hk0 hk9 ⊢
        obtain ⟨X, hX⟩ : ∃ X : ByteArray, (⟨(wat k).toArray⟩ : ByteArray) = X := ⟨_, rfl⟩
        have HX := Lib.hid (show X.data.toList = wat k by rw [← hX])
        rw [hX] at hwv
        clear hX hk
        go_wp2_with (first | (go_at_call 61; refine (hc2 _).mono ?_; rintro r w4 ⟨rfl, rfl⟩) | (go_at_call 62; refine (implWordAt_any k _).mono ?_; rintro r w5 ⟨rfl, rfl⟩; rw [hwv]))
        refine (accepts_any _ _ _ _ e X ((unhide HP).up hb) HT.out.1 (by rw [HX.out]; exact hwb)).mono ?_
        rintro r w6 ⟨b, rfl, hacc, hb6⟩
        have hbt := hacc.tree HT.out.2.2.1 HT.out.2.2.2
        rw [HX.out] at hbt
        have HN := Lib.hid (cnt_next t a k m b HK.out.symm hbt)
        have hbb := hb.trans (hb6.mono hb.size)
        clear hbt hacc hwb
        cases b
        · go_wp2
          go_roundw
          case rel => exact ⟨m + 1, d, by omega, by rw [← HK.out]; go_num, rfl, by omega, by omega, Lib.hid (by rw [HN.out, hd.out]; simp), hbb⟩
          case measure => simp [intOf]; omega
        · go_wp2
          go_roundw
          case rel => exact ⟨m + 1, d + 1, by omega, by rw [← HK.out]; go_num, by go_num, by omega, by omega, Lib.hid (by rw [HN.out, hd.out]; simp), hbb⟩
          case measure => simp [intOf]; omega
      · obtain rfl : m = M := by omega
        have hk : a + (m : Int) = a' := HAM.out
        rw [hk]
        clear hk
        go_wp2_with (first | (go_at_call 61; refine (hc2 _).mono ?_; rintro r w4 ⟨rfl, rfl⟩))
        go_ret
        exact ⟨d, rfl, .inl ⟨HT.out.1, HT.out.2.1, t, HT.out.2.2.1, HT.out.2.2.2, by rw [hd.out, countI, Int.toNat_natCast, HA.out.1, HA.out.2.1]⟩, hb⟩
end Go.Proofs.Ytadibjjjdbglaaa
