/-
  The walk of the law on first accepted words.
-/
import Derived.Test.YtgcggmlekmjpdaaLen
import Derived.Test.YtgcggmlekmjpdaaFirst
import Derived.Test.YtgcggmlekmjpdaaEacc
import Derived.Test.YtgcggmlekmjpdaaWords
namespace Go.Proofs.Ytgcggmlekmjpdaa
open Go.RowKit
set_option linter.unusedVariables false
set_option maxRecDepth 100000

theorem cnt_add (t : Ex) (a : Int) (m k : Nat) : cnt t a (m + k) = cnt t a m + cnt t (a + m) k := by
  induction k with
  | zero => simp [cnt]
  | succ k ih =>
    rw [← Nat.add_assoc]
    simp only [cnt]
    rw [ih, show a + ((m + k : Nat) : Int) = a + (m : Int) + (k : Int) by omega]
    omega
theorem cnt_none {t : Ex} {m : Nat} (h : ∀ j : Nat, j < m → t.acc (wat j) = false) : cnt t 0 m = 0 := by
  induction m with
  | zero => rfl
  | succ m ih =>
    have h1 := h m (by omega)
    simp only [cnt]
    rw [ih (fun j hj => h j (by omega)), show (0 : Int) + (m : Int) = (m : Int) by omega, h1]; simp
theorem cnt_some {t : Ex} {m k : Nat} (hk : k < m) (h : t.acc (wat k) = true) : 0 < cnt t 0 m := by
  obtain ⟨r, rfl⟩ : ∃ r, m = (k + 1) + r := ⟨m - (k + 1), by omega⟩
  rw [cnt_add]
  have h1 := (cnt_bd t (0 + ((k + 1 : Nat) : Int)) r).1
  have h2 := (cnt_bd t 0 k).1
  have h3 : cnt t 0 (k + 1) = cnt t 0 k + 1 := by
    simp only [cnt]; rw [show (0 : Int) + (k : Int) = (k : Int) by omega, h]; simp
  omega
theorem cnt_step (t : Ex) (i : Nat) : cnt t 0 (shN (i + 1)).toNat = cnt t 0 (shN i).toNat + countI t i := by
  have h1 := shN_nonneg i
  have h2 := p3_pos i
  rw [show (shN (i + 1)).toNat = (shN i).toNat + (p3 i).toNat by simp only [shN]; omega, cnt_add, countI]
  rw [show (0 : Int) + (((shN i).toNat : Nat) : Int) = shN i by omega]
theorem FirstR.cases {e : List Pt} {k : Int} {s : List UInt8} {b : Bool} (h : FirstR e k s b) (hk : -1 ≤ k ∧ k ≤ 3) : ((exprB e = false ∨ k = -1) ∧ b = false ∧ s = []) ∨ ∃ (t : Ex) (L : Nat), t.good ∧ t.flat = e ∧ t.sz ≤ 60 ∧ k = (L : Int) ∧ L ≤ 3 ∧ exprB e = true ∧
    ((b = true ∧ ∃ k : Nat, (k : Int) < shN (L + 1) ∧ t.acc (wat k) = true ∧ (∀ j : Nat, j < k → t.acc (wat j) = false) ∧ s = wat k) ∨ (b = false ∧ s = [] ∧ ∀ j : Nat, (j : Int) < shN (L + 1) → t.acc (wat j) = false)) := by
  rcases h with ⟨h1, h2, t, hg, hf, h3⟩ | ⟨h1, h2, h3⟩
  · right
    obtain ⟨u, hgu, hfu, hs⟩ := exprB_iff.1 h1
    obtain rfl := Ex.flat_inj hgu hg (hfu.trans hf.symm)
    obtain ⟨l0, -⟩ := inB_true.1 h2
    refine ⟨u, k.toNat, hg, hf, hs, by omega, by omega, h1, ?_⟩
    exact h3
  · left
    refine ⟨?_, h2, h3⟩
    cases hv : exprB e with
    | false => exact .inl rfl
    | true =>
      right
      rcases Int.lt_or_le k 0 with h | h
      · omega
      · exact absurd ⟨hv, inB_true.2 ⟨h, by omega⟩⟩ h1
theorem ba_nil {s : ByteArray} (h : s.data.toList = []) : s = ⟨#[]⟩ := ByteArray.ext (Array.ext' h)
set_option maxHeartbeats 4000000 in
theorem wFnFirstAccepted (A : Option Addr) (n c : Nat) (w : World) (hw : BytesIn w A n c) : Calls Try.prog 13 #[.slice A n c] w (Yes w) := by
  obtain ⟨hnc, hcm, hcode⟩ := hw
  unfold maxLen at hcm
  have HC := hide hcode
  clear hcode
  by_cases hn : 1048576 < n
  · go_enter Try.func13, Try.ntmps13
    go_wp2
    go_ret
    exact ⟨rfl, Below.refl _ _⟩
  · go_enter Try.func13, Try.ntmps13
    go_wp2_with fail
    refine (dFirstAccepted_any w n c A _ (unhide HC) (Nat.le_refl _) hnc (by omega)).mono ?_
    rintro r w1 ⟨e, A1, n1, c1, k, rfl, hl, hsl, k0, k3, hb1⟩
    have HLN := Lib.hid hsl.1.1
    have HS1 := hide hsl
    clear hsl
    go_wp2_with fail
    refine (implFirstAcc_any _ _ _ _ _ k (unhide HS1).1).mono ?_
    rintro r w2 ⟨s, b, rfl, hF, hb2⟩
    have HS2 := hide ((unhide HS1).up hb2)
    have hbb2 := hb1.trans (hb2.mono hb1.size)
    go_wp2_with fail
    refine (specFirstAcc_any _ _ _ _ _ k (unhide HS2).1 (by omega)).mono ?_
    rintro r w3 ⟨s2, b2, rfl, hF2, hb3⟩
    obtain ⟨hss, hbs⟩ := FirstR.uniq hF2 hF
    subst hbs
    obtain rfl : s2 = s := ByteArray.ext (Array.ext' hss)
    clear hss hF2
    have HS3 := hide ((unhide HS2).up hb3)
    have hbb3 := hbb2.trans (hb3.mono hbb2.size)
    have hne : (b2 != b2) = false := by simp
    rcases FirstR.cases hF ⟨k0, k3⟩ with ⟨hbad, rfl, hs0⟩ | ⟨t, L, hg, hf, hs, rfl, hL, hv, hcase⟩
    · obtain rfl := ba_nil hs0
      clear hs0
      rcases hv : exprB e
      · go_wp2_with (go_at_call 25; refine (specExprValid_any _ _ _ _ e (unhide HS3).1 (by omega)).mono ?_; rintro r w4 ⟨rfl, hb4⟩; rw [hv])
        refine (alive_any _).mono ?_
        rintro r w99 ⟨rfl, rfl⟩
        go_wp2
        go_ret
        exact ⟨rfl, hbb3.trans (hb4.mono hbb3.size)⟩
      · obtain rfl : k = -1 := by
          rcases hbad with h | h
          · rw [hv] at h; cases h
          · exact h
        go_wp2_with (go_at_call 25; refine (specExprValid_any _ _ _ _ e (unhide HS3).1 (by omega)).mono ?_; rintro r w4 ⟨rfl, hb4⟩; rw [hv])
        refine (alive_any _).mono ?_
        rintro r w99 ⟨rfl, rfl⟩
        go_wp2
        go_ret
        exact ⟨rfl, hbb3.trans (hb4.mono hbb3.size)⟩
    · have HT := Lib.hid (show t.good ∧ t.flat = e ∧ t.sz ≤ 60 ∧ exprB e = true from ⟨hg, hf, hs, hv⟩)
      have TE : Opq (t.flat = e) := ⟨hf⟩
      have HCASE := Lib.hid hcase
      clear hg hf hs hv hF hcase
      go_wp2_with (go_at_call 25; refine (specExprValid_any _ _ _ _ e (unhide HS3).1 (by omega)).mono ?_; rintro r w4 ⟨rfl, hb4⟩; rw [HT.out.2.2.2])
      have HS4 := hide ((unhide HS3).up hb4)
      have hbb4 := hbb3.trans (hb4.mono hbb3.size)
      go_loopw [9, 10] (fun sv iv wr => ∃ (i : Nat) (d : Int), i ≤ L + 1 ∧ iv = .int .i64 i ∧ sv = .int .i64 d ∧ 0 ≤ d ∧ d ≤ 9841 ∧ Hid (d = cnt t 0 (shN i).toNat) ∧ Below w4.heap.size w4 wr) (fun _ iv _ => (L + 1 - intOf iv).toNat)
      case atStart => exact ⟨0, 0, by omega, rfl, rfl, by omega, by omega, Lib.hid rfl, Below.refl _ _⟩
      case round =>
        obtain ⟨i, d, hi, rfl, rfl, hd0, hd1, hd, hb⟩ := hrel
        by_cases hil : i ≤ L
        · have hil' : (i : Int) ≤ (L : Int) := by omega
          go_wp2_with fail
          refine (implCount_any _ _ _ _ _ (i : Int) ((unhide HS4).up hb).1).mono ?_
          rintro r w5 ⟨d', rfl, hC, hb5⟩
          have h1 := CountR.tree HT.out.2.1 HT.out.1 HT.out.2.2.1 (inB_true.2 ⟨by omega, by omega⟩) hC
          rw [Int.toNat_natCast] at h1
          have h2 := cnt_step t i
          have h3 := (cnt_bd t (shN i) (p3 i).toNat).1
          have h4 := cnt_bd t 0 (shN (i + 1)).toNat
          have h5 := shN_bd (n := i + 1) (by omega)
          have hd' : 0 ≤ d' := by rw [h1]; exact h3
          have hdd : d + d' ≤ 9841 := by rw [h1, hd.out, ← h2]; omega
          have HN := Lib.hid (show d + d' = cnt t 0 (shN (i + 1)).toNat by rw [h1, hd.out, ← h2])
          clear h1 h2 h3 h4 h5 hC
          go_wp2
          go_roundw
          case rel => exact ⟨i + 1, d + d', by omega, by go_num, by go_num, by omega, by omega, HN, hb.trans (hb5.mono hb.size)⟩
          case measure => simp [intOf]; omega
        · obtain rfl : i = L + 1 := by omega
          have hil' : ¬ (((L + 1 : Nat) : Int) ≤ (L : Int)) := by omega
          have hbb := hbb4.trans (hb.mono hbb4.size)
          rcases HCASE.out with ⟨rfl, K, hK, hacc, hmin, hsK⟩ | ⟨rfl, hs0, hnone⟩
          · have hM := shN_bd (n := L + 1) (by omega)
            have hdp : 0 < d := by
              rw [hd.out]
              exact cnt_some (k := K) (by omega) hacc
            have hK9 : (K : Int) ≤ 9840 := by omega
            have hwk := wat_spec (n := (K : Int)) (by omega) hK9
            have hrk : rankI s2.data.toList = (K : Int) := by rw [hsK, rankI, if_pos hwk.1]; exact hwk.2
            have hlen : s2.size ≤ L := by
              have := (wat_len (m := L) (show (0 : Int) ≤ (K : Int) by omega) hK9).2 hK
              rw [← hsK] at this; simpa using this
            have hwr : ∀ W, Calls Try.prog 35 #[.string s2] W fun e w' => e = .returned (.int .i64 (K : Int)) ∧ W = w' := fun W => by have := implWordRank_any s2 W (by unfold maxLen; omega); rw [hrk] at this; exact this
            have hlI : (s2.size : Int) ≤ (L : Int) := by omega
            have HK := Lib.hid (show t.acc (wat K) = true ∧ (∀ j : Nat, j < K → t.acc (wat j) = false) ∧ s2.data.toList = wat K ∧ wordB (wat K) = true from ⟨hacc, hmin, hsK, hwk.1⟩)
            clear hacc hmin hsK hwk hrk hM hK hlen
            go_wp2
            go_loopw [11] (fun jv w6 => ∃ j : Nat, j ≤ K ∧ jv = .int .i64 j ∧ Below wr.heap.size wr w6) (fun jv _ => (K - intOf jv).toNat)
            case atStart => exact ⟨0, by omega, rfl, Below.refl _ _⟩
            case round =>
              rename World => w6
              obtain ⟨j, hj, rfl, hb6⟩ := hrel
              by_cases hjK : j < K
              · have hjI : (j : Int) < (K : Int) := by omega
                have hk9 : (j : Int) ≤ 9840 := by omega
                have hwv := watV_in (show (0 : Int) ≤ (j : Int) by omega) hk9
                have hwb := wat_wordB (show (0 : Int) ≤ (j : Int) by omega) hk9
                obtain ⟨X, hX⟩ : ∃ X : ByteArray, (⟨(wat j).toArray⟩ : ByteArray) = X := ⟨_, rfl⟩
                have HX := Lib.hid (show X.data.toList = wat j by rw [← hX])
                have hXs : X.size ≤ 8 := by have := (wordB_iff.1 hwb).2; rw [← hX]; show (wat j).toArray.size ≤ 8; simpa using this
                rw [hX] at hwv
                clear hX hwb
                go_wp2_with (first | (go_at_call 35; refine (hwr _).mono ?_; rintro r w7 ⟨rfl, rfl⟩) | (go_at_call 36; refine (implWordAt_any j _).mono ?_; rintro r w8 ⟨rfl, rfl⟩; rw [hwv]))
                refine (implExprAccepts_any _ _ _ _ e X ((((unhide HS4).up hb).up hb6)).1 (by unfold maxLen; omega)).mono ?_
                rintro r w9 ⟨b3, rfl, hE, hb9⟩
                obtain rfl : b3 = false := by
                  rw [eacc_tree TE HT.out.1 HT.out.2.2.1 hE, HX.out, HK.out.2.1 j hjK, Bool.and_false]
                go_wp2
                go_roundw
                case rel => exact ⟨j + 1, by omega, by go_num, hb6.trans (hb9.mono hb6.size)⟩
                case measure => simp [intOf]; omega
              · obtain rfl : j = K := by omega
                go_wp2_with (first | (go_at_call 35; refine (hwr _).mono ?_; rintro r w7 ⟨rfl, rfl⟩))
                refine (implExprAccepts_any _ _ _ _ e s2 ((((unhide HS4).up hb).up hb6)).1 (by unfold maxLen; omega)).mono ?_
                rintro r w9 ⟨b3, rfl, hE, hb9⟩
                obtain rfl : b3 = true := by
                  rw [eacc_tree TE HT.out.1 HT.out.2.2.1 hE, HK.out.2.2.1, HK.out.1, HK.out.2.2.2, Bool.and_true]
                go_wp2
                go_ret
                exact ⟨rfl, hbb.trans ((hb6.trans (hb9.mono hb6.size)).mono hbb.size)⟩
          · obtain rfl := ba_nil hs0
            obtain rfl : d = 0 := by
              rw [hd.out]
              exact cnt_none fun j hj => hnone j (by have := shN_nonneg (L + 1); omega)
            clear hnone hs0
            go_wp2
            go_ret
            exact ⟨rfl, hbb⟩
end Go.Proofs.Ytgcggmlekmjpdaa
