/-
  Counting accepted words, and the first one: both functions, on both sides.
-/
import Derived.Test.YtgcggmlekmjpdaaTab3
import Derived.Test.YtgcggmlekmjpdaaAcc
import Derived.Test.YtgcggmlekmjpdaaWords2
namespace Go.Proofs.Ytgcggmlekmjpdaa
open Go.RowKit
set_option linter.unusedVariables false
set_option maxRecDepth 100000

/-- The length of the word with a number. -/
theorem wat_len {k : Int} {m : Nat} (h0 : 0 ≤ k) (h : k ≤ 9840) : (wat k).length ≤ m ↔ k < shN (m + 1) := by
  obtain ⟨h1, h2⟩ := wat_spec h0 h
  have h3 := (wordB_iff.1 h1).1
  have h4 := rank_base (wat k)
  have h5 := baseL_bd (wat k) h3
  rw [h2] at h4
  constructor
  · intro h6
    have := shN_mono (show (wat k).length + 1 ≤ m + 1 by omega)
    simp only [shN] at this
    simp only [shN]
    omega
  · intro h6
    rcases Nat.lt_or_ge m (wat k).length with h7 | h7
    · have := shN_mono (show m + 1 ≤ (wat k).length by omega)
      omega
    · exact h7
/-- How many of m words, from number a on, are in the language. -/
def cnt (t : Ex) (a : Int) : Nat → Int
  | 0 => 0
  | m + 1 => cnt t a m + if t.acc (wat (a + m)) = true then 1 else 0
theorem cnt_bd (t : Ex) (a : Int) (m : Nat) : 0 ≤ cnt t a m ∧ cnt t a m ≤ m := by
  induction m with
  | zero => simp [cnt]
  | succ m ih => simp only [cnt]; split <;> omega
def countI (t : Ex) (len : Nat) : Int := cnt t (shN len) (p3 len).toNat
/-- What CountAccepted answers. -/
def CountR (e : List Pt) (len : Int) (d : Int) : Prop := (exprB e = true ∧ inB len 0 5 = true ∧ ∃ t : Ex, t.good ∧ t.flat = e ∧ d = countI t len.toNat) ∨ (¬(exprB e = true ∧ inB len 0 5 = true) ∧ d = -1)
theorem CountR.uniq {e : List Pt} {len a b : Int} (h : CountR e len a) (k : CountR e len b) : a = b := by
  rcases h with ⟨h1, h2, t, h3, h4, rfl⟩ | ⟨h1, rfl⟩
  · rcases k with ⟨k1, k2, u, k3, k4, rfl⟩ | ⟨k1, rfl⟩
    · rw [Ex.flat_inj h3 k3 (h4.trans k4.symm)]
    · exact absurd ⟨h1, h2⟩ k1
  · rcases k with ⟨k1, k2, -⟩ | ⟨k1, rfl⟩
    · exact absurd ⟨k1, k2⟩ h1
    · rfl
def CountD (w : World) (e : List Pt) (len : Int) (r : Ending) (w' : World) : Prop := ∃ d, r = .returned (.int .i64 d) ∧ CountR e len d ∧ Below w.heap.size w w'
theorem wat_wordB {k : Int} (h0 : 0 ≤ k) (h : k ≤ 9840) : wordB (wat k) = true := (wat_spec h0 h).1
theorem watV_in {k : Int} (h0 : 0 ≤ k) (h : k ≤ 9840) : watV k = .tuple #[.string ⟨(wat k).toArray⟩, .bool true] := by rw [watV, if_pos (inB_true.2 ⟨h0, h⟩)]
theorem AccR.tree {e : List Pt} {s : List UInt8} {b : Bool} {t : Ex} (h : AccR e s b) (hg : t.good) (hf : t.flat = e) : b = t.acc s := by
  rw [← hf] at h; exact h.uniq (AccR.of hg s)
theorem cnt_next (t : Ex) (a k : Int) (m : Nat) (b : Bool) (hk : k = a + m) (hb : b = t.acc (wat k)) : cnt t a (m + 1) = cnt t a m + (if b = true then 1 else 0) := by
  subst hk; subst hb; rfl
theorem cnt_congr {t u : Ex} (h : ∀ s, t.acc s = u.acc s) (a : Int) (m : Nat) : cnt t a m = cnt u a m := by
  induction m with
  | zero => rfl
  | succ m ih => simp only [cnt, ih, h]
theorem CountR.tree {t : Ex} {e : List Pt} {len d : Int} (hf : t.flat = e) (hg : t.good) (hs : t.sz ≤ 60) (hl : inB len 0 5 = true) (h : CountR e len d) : d = countI t len.toNat := by
  rcases h with ⟨h1, h2, u, h3, h4, rfl⟩ | ⟨h1, -⟩
  · rw [Ex.flat_inj h3 hg (h4.trans hf.symm)]
  · exact absurd ⟨exprB_iff.2 ⟨t, hg, hf, hs⟩, hl⟩ h1
set_option maxHeartbeats 2000000 in
theorem implCount_any (w : World) (A : Option Addr) (n c : Nat) (e : List Pt) (len : Int) (h : PS w w.heap.size A n e) :
    Calls Try.prog 28 #[.slice A n c, .int .i64 len] w (CountD w e len) := by
  rcases hv : exprB e
  · go_enter Try.func28, Try.ntmps28
    go_wp2_with (go_at_call 41; refine (implExprValid_any _ _ _ _ e h).mono ?_; rintro r w1 ⟨rfl, hb⟩; rw [hv])
    go_ret
    exact ⟨_, rfl, .inr ⟨by simp [hv], rfl⟩, hb⟩
  rcases hw : inB len 0 5
  · go_enter Try.func28, Try.ntmps28
    go_wp2_with (first | (go_at_call 41; refine (implExprValid_any _ _ _ _ e h).mono ?_; rintro r w1 ⟨rfl, hb⟩; rw [hv]) | (go_at_call 47; refine (within_any _ _ _ _).mono ?_; rintro r w2 ⟨rfl, rfl⟩; rw [hw]))
    go_ret
    exact ⟨_, rfl, .inr ⟨by simp [hw], rfl⟩, hb⟩
  · obtain ⟨l0, l5⟩ := inB_true.1 hw
    obtain ⟨t, hg, hf, hs⟩ := exprB_iff.1 hv
    obtain ⟨L, rfl⟩ := Int.eq_ofNat_of_zero_le l0
    have hL5 : L ≤ 5 := by omega
    have HT := Lib.hid (show exprB e = true ∧ inB (L : Int) 0 5 = true ∧ t.good ∧ t.flat = e from ⟨hv, hw, hg, hf⟩)
    have hsh := shN_bd (n := L) (by omega)
    have hsh1 := shN_bd (n := L + 1) (by omega)
    have hp := p3_bd (n := L) (by omega)
    have hsum : shN (L + 1) = shN L + p3 L := rfl
    have hc1 : ∀ W, Calls Try.prog 48 #[.int .i64 (L : Int)] W fun e w' => e = .returned (.int .i64 (shN L)) ∧ W = w' := fun W => by have := shorter_any (L : Int) W (by omega) (by omega); simpa using this
    have hc2 : ∀ W, Calls Try.prog 48 #[.int .i64 ((L : Int) + 1)] W fun e w' => e = .returned (.int .i64 (shN (L + 1))) ∧ W = w' := fun W => by
      have := shorter_any ((L : Int) + 1) W (by omega) (by omega)
      rw [show ((L : Int) + 1).toNat = L + 1 by omega] at this; exact this
    have HP := hide h
    have hwL : IntKind.i64.wrap ((L : Int) + 1) = (L : Int) + 1 := IntWalk.i64_in _ (by omega)
    obtain ⟨M, hM⟩ : ∃ M : Nat, (p3 L).toNat = M := ⟨_, rfl⟩
    have hMp : p3 L = M := by omega
    obtain ⟨a, ha⟩ : ∃ a, shN L = a := ⟨_, rfl⟩
    obtain ⟨a', ha'⟩ : ∃ a', shN (L + 1) = a' := ⟨_, rfl⟩
    rw [ha] at hsum hsh hc1
    rw [ha'] at hsum hsh1 hc2
    have HA := Lib.hid (show shN L = a ∧ (p3 L).toNat = M ∧ a' = a + M from ⟨ha, hM, by omega⟩)
    have haM : a + M = a' := by omega
    have HAM := Lib.hid haM
    have hM9 : (M : Int) ≤ 9841 := by omega
    clear h hv hw hg hf hs ha ha' hM hMp hsum hp haM
    go_enter Try.func28, Try.ntmps28
    go_wp2_with (first | (go_at_call 41; refine (implExprValid_any _ _ _ _ e (unhide HP)).mono ?_; rintro r w1 ⟨rfl, hb⟩; rw [HT.out.1]) | (go_at_call 47; refine (within_any _ _ _ _).mono ?_; rintro r w2 ⟨rfl, rfl⟩; rw [HT.out.2.1]) | (go_at_call 48; refine (hc1 _).mono ?_; rintro r w3 ⟨rfl, rfl⟩))
    go_loopw [5, 6] (fun cv kv wr => ∃ (m : Nat) (d : Int), m ≤ M ∧ kv = .int .i64 (a + m) ∧ cv = .int .i64 d ∧ 0 ≤ d ∧ d ≤ m ∧ Hid (d = cnt t a m) ∧ Below w.heap.size w wr) (fun _ kv _ => (a' - intOf kv).toNat)
    case atStart => exact ⟨0, 0, Nat.zero_le _, by simp, rfl, by omega, by omega, Lib.hid rfl, hb⟩
    case round =>
      clear hb
      obtain ⟨m, d, hm, rfl, rfl, hd0, hd1, hd, hb⟩ := hrel
      by_cases hlt : m < M
      · have hlt' : a + (m : Int) < a' := by have := HAM.out; omega
        have hk9 : a + (m : Int) ≤ 9840 := by omega
        have hk0 : 0 ≤ a + (m : Int) := by omega
        have hwv := watV_in hk0 hk9
        have hwb := wat_wordB hk0 hk9
        obtain ⟨k, hk⟩ : ∃ k, a + (m : Int) = k := ⟨_, rfl⟩
        have HK := Lib.hid hk
        rw [hk] at hwv hwb hlt' hk0 hk9 ⊢
        obtain ⟨X, hX⟩ : ∃ X : ByteArray, (⟨(wat k).toArray⟩ : ByteArray) = X := ⟨_, rfl⟩
        have HX := Lib.hid (show X.data.toList = wat k by rw [← hX])
        rw [hX] at hwv
        clear hX hk
        go_wp2_with (first | (go_at_call 48; refine (hc2 _).mono ?_; rintro r w4 ⟨rfl, rfl⟩) | (go_at_call 36; refine (implWordAt_any k _).mono ?_; rintro r w5 ⟨rfl, rfl⟩; rw [hwv]))
        refine (accepts_any _ _ _ _ e X ((unhide HP).up hb) HT.out.1 (by rw [HX.out]; exact hwb)).mono ?_
        rintro r w6 ⟨b, rfl, hacc, hb6⟩
        have hbt := hacc.tree HT.out.2.2.1 HT.out.2.2.2
        rw [HX.out] at hbt
        have HN := Lib.hid (cnt_next t a k m b HK.out.symm hbt)
        have hbb := hb.trans (hb6.mono hb.size)
        clear hbt hacc hwb
        cases b
        · go_wp2
          go_roundw
          case rel => exact ⟨m + 1, d, by omega, by rw [← HK.out]; go_num, rfl, by omega, by omega, Lib.hid (by rw [HN.out, hd.out]; simp), hbb⟩
          case measure => simp [intOf]; omega
        · go_wp2
          go_roundw
          case rel => exact ⟨m + 1, d + 1, by omega, by rw [← HK.out]; go_num, by go_num, by omega, by omega, Lib.hid (by rw [HN.out, hd.out]; simp), hbb⟩
          case measure => simp [intOf]; omega
      · obtain rfl : m = M := by omega
        have hk : a + (m : Int) = a' := HAM.out
        rw [hk]
        clear hk
        go_wp2_with (first | (go_at_call 48; refine (hc2 _).mono ?_; rintro r w4 ⟨rfl, rfl⟩))
        go_ret
        exact ⟨d, rfl, .inl ⟨HT.out.1, HT.out.2.1, t, HT.out.2.2.1, HT.out.2.2.2, by rw [hd.out, countI, Int.toNat_natCast, HA.out.1, HA.out.2.1]⟩, hb⟩
theorem wordsOf_nat (k : Nat) (h : k ≤ 8) : wordsOfI (k : Int) = p3 k := by
  rw [wordsOfI, if_pos (inB_true.2 ⟨by omega, by omega⟩)]; rfl
set_option maxHeartbeats 4000000 in
theorem specCount_any (w : World) (A : Option Addr) (n c : Nat) (e : List Pt) (len : Int) (h : PS w w.heap.size A n e) (hn : n ≤ 1000000000) :
    Calls Try.prog 27 #[.slice A n c, .int .i64 len] w (CountD w e len) := by
  rcases hv : exprB e
  · go_enter Try.func27, Try.ntmps27
    go_wp2_with (go_at_call 25; refine (specExprValid_any _ _ _ _ e h hn).mono ?_; rintro r w1 ⟨rfl, hb⟩; rw [hv])
    go_ret
    exact ⟨_, rfl, .inr ⟨by simp [hv], rfl⟩, hb⟩
  rcases hw : inB len 0 5
  · go_enter Try.func27, Try.ntmps27
    go_wp2_with (first | (go_at_call 25; refine (specExprValid_any _ _ _ _ e h hn).mono ?_; rintro r w1 ⟨rfl, hb⟩; rw [hv]) | (go_at_call 45; refine (l1In_any _ _ _ _).mono ?_; rintro r w2 ⟨rfl, rfl⟩; rw [hw]))
    go_ret
    exact ⟨_, rfl, .inr ⟨by simp [hw], rfl⟩, hb⟩
  · obtain ⟨l0, l5⟩ := inB_true.1 hw
    obtain ⟨t, hg, hf, hs⟩ := exprB_iff.1 hv
    obtain ⟨L, rfl⟩ := Int.eq_ofNat_of_zero_le l0
    have hL5 : L ≤ 5 := by omega
    have hlen := h.1
    have h60 := len_of_exprB hv
    have HLN := Lib.hid hlen
    have hn60 : n ≤ 60 := by omega
    have HT := Lib.hid (show exprB e = true ∧ inB (L : Int) 0 5 = true ∧ t.good ∧ t.flat = e from ⟨hv, hw, hg, hf⟩)
    have hsh := shN_bd (n := L) (by omega)
    have hsh1 := shN_bd (n := L + 1) (by omega)
    have hp := p3_bd (n := L) (by omega)
    have hsum : shN (L + 1) = shN L + p3 L := rfl
    have hwo : ∀ W, Calls Try.prog 54 #[.int .i64 (L : Int)] W fun e w' => e = .returned (.int .i64 (p3 L)) ∧ W = w' := fun W => by have := specWordsOf_any (L : Int) W; rw [wordsOf_nat L (by omega)] at this; exact this
    have HP := hide h
    obtain ⟨M, hM⟩ : ∃ M : Nat, (p3 L).toNat = M := ⟨_, rfl⟩
    have hMp : p3 L = M := by omega
    have HMP := Lib.hid hMp
    rw [hMp] at hwo
    have HA := Lib.hid (show shN (L + 1) = shN L + M ∧ (p3 L).toNat = M from ⟨by omega, hM⟩)
    have hM9 : shN L + (M : Int) ≤ 9841 := by omega
    clear h hv hw hg hf hs hM hMp hsum hp hlen h60 hsh1
    go_enter Try.func27, Try.ntmps27
    go_wp2_with (first | (go_at_call 25; refine (specExprValid_any _ _ _ _ e (unhide HP) hn).mono ?_; rintro r w1 ⟨rfl, hb⟩; rw [HT.out.1]) | (go_at_call 45; refine (l1In_any _ _ _ _).mono ?_; rintro r w2 ⟨rfl, rfl⟩; rw [HT.out.2.1]))
    go_loop [5, 6] (fun fv kv => ∃ (m : Nat) (f : Int), m ≤ L ∧ kv = .int .i64 m ∧ fv = .int .i64 f ∧ 0 ≤ f ∧ f ≤ 9841 ∧ Hid (f = shN m)) (fun _ kv => L - (intOf kv).toNat)
    case atStart => exact ⟨0, 0, Nat.zero_le _, rfl, rfl, by omega, by omega, Lib.hid rfl⟩
    case round =>
      obtain ⟨m, f, hm, rfl, rfl, hf0, hf1, hfm⟩ := hrel
      by_cases hlt : m < L
      · have hpm := p3_bd (n := m) (by omega)
        have hsm := shN_bd (n := m + 1) (by omega)
        have hst : shN (m + 1) = f + p3 m := by rw [hfm.out]; rfl
        have hwm : ∀ W, Calls Try.prog 54 #[.int .i64 (m : Int)] W fun e w' => e = .returned (.int .i64 (p3 m)) ∧ W = w' := fun W => by have := specWordsOf_any (m : Int) W; rw [wordsOf_nat m (by omega)] at this; exact this
        have hb9 : f + p3 m ≤ 9841 := by omega
        have HST := Lib.hid hst
        clear hst hsm
        obtain ⟨pm, hpmm⟩ : ∃ pm, p3 m = pm := ⟨_, rfl⟩
        rw [hpmm] at hwm hb9 hpm HST
        clear hpmm
        go_wp2_with (go_at_call 54; refine (hwm _).mono ?_; rintro r w3 ⟨rfl, rfl⟩)
        go_round
        case rel => exact ⟨m + 1, f + pm, by omega, by go_num, by go_num, by omega, by omega, Lib.hid HST.out.symm⟩
        case measure => simp [intOf]; omega
      · obtain rfl : m = L := by omega
        obtain rfl : f = shN m := hfm.out
        obtain ⟨a, ha⟩ : ∃ a, shN m = a := ⟨_, rfl⟩
        have HA2 := Lib.hid ha
        rw [ha] at hsh hM9 hf0 hf1 ⊢
        clear hfm ha
        go_wp2_with fail
        go_loopw [7, 8] (fun cv kv wr => ∃ (x : Nat) (d : Int), x ≤ M ∧ kv = .int .i64 (a + x) ∧ cv = .int .i64 d ∧ 0 ≤ d ∧ d ≤ x ∧ Hid (d = cnt t a x) ∧ Below w.heap.size w wr) (fun _ kv _ => (a + M - intOf kv).toNat)
        case atStart => exact ⟨0, 0, Nat.zero_le _, by simp, rfl, by omega, by omega, Lib.hid rfl, hb⟩
        case round =>
          clear hb
          obtain ⟨x, d, hx, rfl, rfl, hd0, hd1, hd, hb⟩ := hrel
          by_cases hxl : x < M
          · have hlt' : a + (x : Int) < a + (M : Int) := by omega
            have hk9 : a + (x : Int) ≤ 9840 := by omega
            have hk0 : 0 ≤ a + (x : Int) := by omega
            have hwv := watV_in hk0 hk9
            have hwb := wat_wordB hk0 hk9
            obtain ⟨k, hk⟩ : ∃ k, a + (x : Int) = k := ⟨_, rfl⟩
            have HK := Lib.hid hk
            rw [hk] at hwv hwb hlt' hk0 hk9 ⊢
            obtain ⟨X, hX⟩ : ∃ X : ByteArray, (⟨(wat k).toArray⟩ : ByteArray) = X := ⟨_, rfl⟩
            have HX := Lib.hid (show X.data.toList = wat k by rw [← hX])
            have hXs := (wordB_iff.1 hwb).2
            have hXz : X.size ≤ 8 := by rw [← hX]; show (wat k).toArray.size ≤ 8; simpa using hXs
            have HXL := Lib.hid (show X.data.toList.length = X.size by simp)
            rw [hX] at hwv
            clear hX hk hXs
            go_wp2_with (first | (go_at_call 54; refine (hwo _).mono ?_; rintro r w4 ⟨rfl, rfl⟩) | (go_at_call 46; refine (specWordAt_any k _ (by omega)).mono ?_; rintro r w5 ⟨rfl, hb5⟩; rw [hwv]))
            refine (l3Table_any _ _ _ _ e X (((unhide HP).up hb).up hb5) hn60 HT.out.1 (by rw [HX.out]; exact (wordB_iff.1 hwb).1) hXz).mono ?_
            rintro r w6 ⟨tv, rfl, hTb⟩
            have hb6 := hTb.bl
            obtain ⟨m', gt, ct, g1, c1, q1, d1, b, hm', rfl, k1, k2, k3, hacc⟩ := hTb.last HLN.out HT.out.1
            rw [HXL.out] at k1 k2 k3
            have hwm : IntKind.i64.wrap ((n : Int) - 1) = (m' : Int) := by rw [show (n : Int) - 1 = (m' : Int) by omega]; exact IntWalk.i64_in _ (by omega)
            have hmw : IntKind.i64.wrap (m' : Int) = (m' : Int) := IntWalk.i64_in _ (by omega)
            have hm0 : (0 : Int) ≤ (m' : Int) := by omega
            have hm1 : (m' : Int) < (n : Int) := by omega
            have hbt := hacc.tree HT.out.2.2.1 HT.out.2.2.2
            rw [HX.out] at hbt
            have HN := Lib.hid (cnt_next t a k x b HK.out.symm hbt)
            have hbb := hb.trans ((hb5.trans (hb6.mono hb5.size)).mono hb.size)
            clear hbt hacc hwb hm' hTb
            cases b
            · go_wp2
              go_roundw
              case rel => exact ⟨x + 1, d, by omega, by rw [← HK.out]; go_num, rfl, by omega, by omega, Lib.hid (by rw [HN.out, hd.out]; simp), hbb⟩
              case measure => simp [intOf]; omega
            · go_wp2
              go_roundw
              case rel => exact ⟨x + 1, d + 1, by omega, by rw [← HK.out]; go_num, by go_num, by omega, by omega, Lib.hid (by rw [HN.out, hd.out]; simp), hbb⟩
              case measure => simp [intOf]; omega
          · obtain rfl : x = M := by omega
            go_wp2_with (first | (go_at_call 54; refine (hwo _).mono ?_; rintro r w4 ⟨rfl, rfl⟩))
            go_ret
            exact ⟨d, rfl, .inl ⟨HT.out.1, HT.out.2.1, t, HT.out.2.2.1, HT.out.2.2.2, by rw [hd.out, countI, Int.toNat_natCast, HA2.out, HA.out.2]⟩, hb⟩
end Go.Proofs.Ytgcggmlekmjpdaa
