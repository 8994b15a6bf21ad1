/-
  The walk of the law on the languages of derivatives.
-/
import Derived.Test.YtadibjjjdbglaaaDrawD
import Derived.Test.YtadibjjjdbglaaaDrawL
import Derived.Test.YtadibjjjdbglaaaEacc
import Derived.Test.YtadibjjjdbglaaaDer
import Derived.Deep.RegionWith
import Derived.Deep.DeepCutAuto
namespace Go.Proofs.Ytadibjjjdbglaaa
open Go.RowKit
set_option linter.unusedVariables false
set_option maxRecDepth 100000

theorem TupD.pair7 {w w' : World} {p : Bool × List Pt} {b : Bool} {y : List Pt} {r : Ending} (h : TupD w p r w') (hp : p = (b, y)) (hl : y.length ≤ 60) :
    ∃ A c, r = .returned (.tuple #[.slice A y.length c, .bool b]) ∧ SL w' w'.heap.size A y.length c y ∧ w'.ownsRow w.heap.size 45 2 (.slice A y.length c) y.length (flatV y) ∧ Below w.heap.size w w' := by
  subst hp
  exact h.opn (by show y.length ≤ _; omega)
theorem one_app (c : UInt8) (S : ByteArray) (h : S.size ≤ 9) : ((⟨#[c]⟩ : ByteArray) ++ S).size ≤ maxLen := by rw [ByteArray.size_append]; show 1 + S.size ≤ maxLen; unfold maxLen; omega
theorem derF_true {lt : Int} {e x : List Pt} (h : derF lt e = (true, x)) : ∃ t : Ex, t.good ∧ t.flat = e ∧ t.sz ≤ 60 ∧ inB lt 0 2 = true ∧ (Ex.der lt t).flat = x ∧ (Ex.der lt t).sz ≤ 60 := by
  rcases hv : exprB e
  · rw [derF_none hv] at h; cases h
  · obtain ⟨t, hg, hf, hs⟩ := exprB_iff.1 hv
    subst hf
    rw [derF_tree hg hs] at h
    split at h
    · rename_i hc
      injection h with h1 h2
      exact ⟨t, hg, rfl, hs, hc.1, h2, by have := hc.2; rw [Ex.flat_length] at this; exact this⟩
    · cases h
theorem derF_fls {lt : Int} {e x : List Pt} (h : derF lt e = (false, x)) : x = [] := by
  unfold derF at h
  split at h
  · injection h with h1 h2; exact h2.symm
  · split at h
    · cases h
    · injection h with h1 h2; exact h2.symm
theorem der_same {k : Int} {t : Ex} {x e : List Pt} {s : List UInt8} {b c : Bool} (hx : Opq ((Ex.der k t).flat = x)) (he : Opq (t.flat = e)) (hg : t.good) (hs : t.sz ≤ 60) (hsd : (Ex.der k t).sz ≤ 60) (hk : 0 ≤ k ∧ k ≤ 2) (hw : wordB s = true) (hl : s.length ≤ 7) (h : EAcc x s b) (h2 : EAcc e (UInt8.ofNat (97 + k).toNat :: s) c) : b = c := by
  have hd : digI (UInt8.ofNat (97 + k).toNat) = k ∧ letB (UInt8.ofNat (97 + k).toNat) = true := by
    obtain ⟨k0, k1⟩ := hk
    rcases (show k = 0 ∨ k = 1 ∨ k = 2 by omega) with rfl | rfl | rfl <;> decide
  have hw2 : wordB (UInt8.ofNat (97 + k).toNat :: s) = true := by
    unfold wordB letsB at hw ⊢
    simp only [Bool.and_eq_true, decide_eq_true_eq] at hw ⊢
    refine ⟨?_, ?_⟩
    · rw [List.all_cons, hd.2, hw.1]; rfl
    · rw [List.length_cons]; omega
  rw [eacc_tree hx (Ex.der_good hg) hsd h, eacc_tree he hg hs h2, hw, hw2, Ex.acc_congr (Ex.der_L hd.1 hg s)]
theorem conv_at (W : World) (b : Nat) (n : Int) (h0 : 0 ≤ n) (h1 : n ≤ 255) (h : W.cell? ⟨b, 0, none⟩ = some (.int .u8 n)) :
    (convert 22 9 (.slice (some ⟨b, 0, none⟩) 1 1)).run Try.prog W = .ok (.string ⟨[UInt8.ofNat n.toNat].toArray⟩) W := by
  refine run_convert_bytes_back (P := Try.prog) W 22 9 5 ⟨b, 0, none⟩ 1 [UInt8.ofNat n.toNat] Try.underlying22 Try.underlying5 Try.underlying9 ?_
  intro j hj
  obtain rfl : j = 0 := by simpa using hj
  have e : ((UInt8.ofNat n.toNat).toNat : Int) = n := by simp; omega
  show W.cell? ⟨b, 0, none⟩ = some (.int .u8 ((UInt8.ofNat n.toNat).toNat : Int))
  rw [e]
  exact h
set_option maxHeartbeats 8000000 in
theorem wFnDerive (A : Option Addr) (n c : Nat) (A' : Option Addr) (n' c' : Nat) (w : World) (hw : BytesIn w A n c) (hw2 : BytesIn w A' n' c') : Calls Try.prog 5 #[.slice A n c, .slice A' n' c'] w (Yes w) := by
  obtain ⟨hnc, hcm, hcode⟩ := hw
  obtain ⟨hnc2, hcm2, hcode2⟩ := hw2
  unfold maxLen at hcm hcm2
  have HC := hide hcode
  have HC2 := hide hcode2
  clear hcode hcode2
  by_cases hn : 1048576 < n
  · go_enter Try.func5, Try.ntmps5
    go_wp2
    go_ret
    exact ⟨rfl, Below.refl _ _⟩
  by_cases hn' : 1048576 < n'
  · go_enter Try.func5, Try.ntmps5
    go_wp2
    go_ret
    exact ⟨rfl, Below.refl _ _⟩
  · go_enter Try.func5, Try.ntmps5
    go_wp2_with fail
    refine (dDerive_any w n c A _ (unhide HC) (Nat.le_refl _) hnc (by omega)).mono ?_
    rintro r w1 ⟨e, A1, n1, c1, k, rfl, hl, hsl, hk0, hk3, hb1⟩
    have F_e := hide hsl
    clear hsl
    obtain ⟨bd, x, hd⟩ : ∃ bd x, derF k e = (bd, x) := ⟨_, _, rfl⟩
    have hlx : x.length ≤ 60 := by have := derF_len k e; rw [hd] at this; exact this
    have HD := Lib.hid hd
    clear hd
    go_wp2_with fail
    refine (implDerive_all k _ _ _ _ e (unhide F_e) (by omega)).mono ?_
    rintro r w11 hdd
    obtain ⟨A11, c11, rfl, hsl11, -, hb11⟩ := TupD.pair7 hdd HD.out hlx
    have e_11 := hide ((unhide F_e).up hb11)
    have hbb11 := hb1.trans (hb11.mono hb1.size)
    have F_x := hide hsl11
    clear hsl11 hdd
    go_wp2_with fail
    refine (specDerive_all k _ _ _ _ e (unhide e_11).1 (by omega) (unhide e_11).2.1 (unhide e_11).2.2.1).mono ?_
    rintro r w12 hdd
    obtain ⟨A12, c12, rfl, hsl12, -, hb12⟩ := TupD.pair7 hdd HD.out hlx
    have e_12 := hide ((unhide e_11).up hb12)
    have x_12 := hide ((unhide F_x).up hb12)
    have hbb12 := hbb11.trans (hb12.mono hbb11.size)
    have F_y := hide hsl12
    clear hsl12 hdd
    go_wp2_with fail
    refine (sameParts_any _ _ _ _ _ _ _ _ _ (unhide x_12).1 (unhide F_y).1 (by omega) (by omega)).mono ?_
    rintro r w13 ⟨rfl, hb13⟩
    rw [show decide (x = x) = true by simp]
    have e_13 := hide ((unhide e_12).up hb13)
    have x_13 := hide ((unhide x_12).up hb13)
    have hbb13 := hbb12.trans (hb13.mono hbb12.size)
    clear F_y
    rcases bd with _ | _
    · obtain rfl : x = [] := derF_fls HD.out
      go_wp2_with fail
      refine (alive_any _).mono ?_
      rintro r w99 ⟨rfl, rfl⟩
      go_wp2
      go_ret
      exact ⟨rfl, hbb13⟩
    obtain ⟨t, hg, hfe, hs60, hin, hfx, hsd⟩ := derF_true HD.out
    have hk : 0 ≤ k ∧ k ≤ 2 := by simpa [inB] using hin
    obtain ⟨k0, k2⟩ := hk
    have TJ_e : Opq (t.flat = e) := ⟨hfe⟩
    have TJ_x : Opq ((Ex.der k t).flat = x) := ⟨hfx⟩
    have hvx := valid_of TJ_x (Ex.der_good hg) hsd
    clear hfe hfx hin HD
    go_wp2_with fail
    refine (dWordRank_any _ n' c' A' w.heap.size ((unhide HC2).keep fun b o h => hbb13.cell (p := ⟨b, o, none⟩) h) hbb13.size hnc2 (by omega)).mono ?_
    rintro r w15 ⟨s, rfl, hs9, hb15⟩
    have ec := hide ((unhide e_13).up hb15)
    have xc := hide ((unhide x_13).up hb15)
    have bc := hbb13.trans (hb15.mono hbb13.size)
    clear e_11 e_12 e_13 x_12 x_13 F_x F_e hb1 hbb11 hbb12 hbb13 hb11 hb12 hb13 hb15
    go_upto_region 11 with fail
    go_cut [63] (fun sv wc => ∃ bb : Bool, sv = .bool bb ∧ (bb = false → wordB s.data.toList = true ∧ s.size ≤ 7) ∧ w15 = wc)
    case first =>
      rcases hws : wordB s.data.toList
      · go_wp2_with (go_at_call 34; refine (specWordValid_any s _ (by unfold maxLen; omega)).mono ?_; rintro r w98 ⟨rfl, rfl⟩; rw [hws])
        go_meet
        exact ⟨_, rfl, fun h => (by cases h), rfl⟩
      by_cases h8 : s.size = 8
      · go_wp2_with (go_at_call 34; refine (specWordValid_any s _ (by unfold maxLen; omega)).mono ?_; rintro r w98 ⟨rfl, rfl⟩; rw [hws])
        go_meet
        exact ⟨_, rfl, fun h => (by simp at h), rfl⟩
      · have h8' : ¬ (s.size : Int) = 8 := by omega
        have hs7 : s.size ≤ 7 := by have h1 := (wordB_iff.1 hws).2; have h2 : s.data.toList.length = s.size := rfl; omega
        go_wp2_with (go_at_call 34; refine (specWordValid_any s _ (by unfold maxLen; omega)).mono ?_; rintro r w98 ⟨rfl, rfl⟩; rw [hws])
        go_meet
        exact ⟨_, rfl, fun _ => ⟨hws, hs7⟩, rfl⟩
    case rest =>
      obtain ⟨bb, rfl, hbb, rfl⟩ := hcut
      have hw1 : IntKind.i64.wrap (97 + k) = 97 + k := IntWalk.i64_in _ (by omega)
      have hw2 : IntKind.u8.wrap (97 + k) = 97 + k := IntWalk.u8_in _ (by omega)
      rcases bb with _ | _
      · obtain ⟨hws, hs7⟩ := hbb rfl
        go_wp2_with fail
        have xc := hide ((unhide xc).up ((Below.refl _ _).drew))
        have ec := hide ((unhide ec).up ((Below.refl _ _).drew))
        have bc := bc.drew
        go_region_with
          (first
            | (go_at_call 22; (with_reducible refine (implExprValid_any _ _ _ _ x ?_).mono ?_); (exact (unhide xc).1); rintro r w16 ⟨rfl, hb16⟩; rw [hvx]; (have hcv := conv_one w16 (97 + k) (by omega) (by omega)); (first | (have xc := hide ((unhide xc).up hb16); have ec := hide ((unhide ec).up hb16); have bc := bc.trans (hb16.mono bc.size)) | (have xc := hide (((unhide xc).al _).up hb16); have ec := hide (((unhide ec).al _).up hb16); have bc := (bc.alloc bc.size _).trans (hb16.mono (bc.alloc bc.size _).size))))
            | (go_at_call 23; (with_reducible refine (implExprAccepts_any _ A11 _ c11 x _ ?_ ?_).mono ?_); (first | exact (unhide xc).1 | exact ((unhide xc).al _).1); (first | (unfold maxLen; omega) | exact one_app _ _ (by first | omega | decide) | decide); rintro r w17 ⟨b1, rfl, hE1, hb17⟩; (have hcv2 := conv_one w17 (97 + k) (by omega) (by omega)); (first | (have hcv3 := conv_at w17 w16.heap.size (97 + k) (by omega) (by omega) ((hb17.cell (p := ⟨w16.heap.size, 0, none⟩) (by show _ < _; simp)).trans (by rw [World.cell?_alloc_new]; rfl))) | skip); (first | (have xc := hide ((unhide xc).up hb17); have ec := hide ((unhide ec).up hb17); have bc := bc.trans (hb17.mono bc.size)) | (have xc := hide (((unhide xc).al _).up hb17); have ec := hide (((unhide ec).al _).up hb17); have bc := (bc.alloc bc.size _).trans (hb17.mono (bc.alloc bc.size _).size))))
            | (go_at_call 23; (with_reducible refine (implExprAccepts_any _ A1 _ c1 e _ ?_ ?_).mono ?_); (first | exact (unhide ec).1 | exact ((unhide ec).al _).1); (first | (unfold maxLen; omega) | exact one_app _ _ (by first | omega | decide) | decide); rintro r w18 ⟨b2, rfl, hE2, hb18⟩; (first | (have xc := hide ((unhide xc).up hb18); have ec := hide ((unhide ec).up hb18); have bc := bc.trans (hb18.mono bc.size)) | (have xc := hide (((unhide xc).al _).up hb18); have ec := hide (((unhide ec).al _).up hb18); have bc := (bc.alloc bc.size _).trans (hb18.mono (bc.alloc bc.size _).size)))))
        all_goals
          obtain rfl : b1 = b2 := der_same (s := s.data.toList) TJ_x TJ_e hg hs60 hsd ⟨k0, k2⟩ hws (show s.size ≤ 7 by omega) hE1 (by simpa [ByteArray.data_append] using hE2)
          have heq : (b1 == b1) = true := by simp
          go_wp2
          go_ret
          refine ⟨?_, bc⟩
          first
            | rfl
            | (clear hE1 hE2; cases b1 <;> rfl)
            | (clear hE1 hE2; cases b1 <;> simp)
            | (clear hE1 hE2; simp [go_sem])
      · go_wp2_with fail
        have xc := hide ((unhide xc).up ((Below.refl _ _).drew))
        have ec := hide ((unhide ec).up ((Below.refl _ _).drew))
        have bc := bc.drew
        go_region_with
          (first
            | (go_at_call 22; (with_reducible refine (implExprValid_any _ _ _ _ x ?_).mono ?_); (exact (unhide xc).1); rintro r w16 ⟨rfl, hb16⟩; rw [hvx]; (have hcv := conv_one w16 (97 + k) (by omega) (by omega)); (first | (have xc := hide ((unhide xc).up hb16); have ec := hide ((unhide ec).up hb16); have bc := bc.trans (hb16.mono bc.size)) | (have xc := hide (((unhide xc).al _).up hb16); have ec := hide (((unhide ec).al _).up hb16); have bc := (bc.alloc bc.size _).trans (hb16.mono (bc.alloc bc.size _).size))))
            | (go_at_call 23; (with_reducible refine (implExprAccepts_any _ A11 _ c11 x _ ?_ ?_).mono ?_); (first | exact (unhide xc).1 | exact ((unhide xc).al _).1); (first | (unfold maxLen; omega) | exact one_app _ _ (by first | omega | decide) | decide); rintro r w17 ⟨b1, rfl, hE1, hb17⟩; (have hcv2 := conv_one w17 (97 + k) (by omega) (by omega)); (first | (have hcv3 := conv_at w17 w16.heap.size (97 + k) (by omega) (by omega) ((hb17.cell (p := ⟨w16.heap.size, 0, none⟩) (by show _ < _; simp)).trans (by rw [World.cell?_alloc_new]; rfl))) | skip); (first | (have xc := hide ((unhide xc).up hb17); have ec := hide ((unhide ec).up hb17); have bc := bc.trans (hb17.mono bc.size)) | (have xc := hide (((unhide xc).al _).up hb17); have ec := hide (((unhide ec).al _).up hb17); have bc := (bc.alloc bc.size _).trans (hb17.mono (bc.alloc bc.size _).size))))
            | (go_at_call 23; (with_reducible refine (implExprAccepts_any _ A1 _ c1 e _ ?_ ?_).mono ?_); (first | exact (unhide ec).1 | exact ((unhide ec).al _).1); (first | (unfold maxLen; omega) | exact one_app _ _ (by first | omega | decide) | decide); rintro r w18 ⟨b2, rfl, hE2, hb18⟩; (first | (have xc := hide ((unhide xc).up hb18); have ec := hide ((unhide ec).up hb18); have bc := bc.trans (hb18.mono bc.size)) | (have xc := hide (((unhide xc).al _).up hb18); have ec := hide (((unhide ec).al _).up hb18); have bc := (bc.alloc bc.size _).trans (hb18.mono (bc.alloc bc.size _).size)))))
        all_goals
          obtain rfl : b1 = b2 := der_same (s := [97, 98, 99]) TJ_x TJ_e hg hs60 hsd ⟨k0, k2⟩ (by decide) (by decide) hE1 (by simpa [ByteArray.data_append] using hE2)
          have heq : (b1 == b1) = true := by simp
          go_wp2
          go_ret
          refine ⟨?_, bc⟩
          first
            | rfl
            | (clear hE1 hE2; cases b1 <;> rfl)
            | (clear hE1 hE2; cases b1 <;> simp)
            | (clear hE1 hE2; simp [go_sem])
end Go.Proofs.Ytadibjjjdbglaaa

