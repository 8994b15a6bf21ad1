/-
  The number of derivatives: the reference's walk.
-/
import Derived.Test.YtadibjjjdbglaaaLv
import Derived.Test.YtadibjjjdbglaaaWords2
namespace Go.Proofs.Ytadibjjjdbglaaa
open Go.RowKit
set_option linter.unusedVariables false
set_option maxRecDepth 100000

theorem wat_in {L k : Nat} (hL : L ≤ 4) (hk : k ≤ shM (L + 1)) : wordB (wat (k : Int)) = true ∧ (wat (k : Int)).length ≤ 8 ∧ ((wat (k : Int)).length ≤ L ↔ k < shM (L + 1)) := by
  have hm : shM (L + 1) ≤ 121 ∨ L = 4 := by
    rcases (show L = 0 ∨ L = 1 ∨ L = 2 ∨ L = 3 ∨ L = 4 by omega) with rfl | rfl | rfl | rfl | rfl <;> decide
  have hk9 : (k : Int) ≤ 9840 := by
    rcases hm with hm | rfl
    · omega
    · have : shM (4 + 1) = 121 := by decide
      omega
  obtain ⟨h1, h2⟩ := wat_spec (n := (k : Int)) (by omega) hk9
  obtain ⟨h3, h4⟩ := wordB_iff.1 h1
  refine ⟨h1, h4, ?_⟩
  have h5 := rankL_ge _ h3
  rw [h2] at h5
  constructor
  · intro h6
    have h7 := shN_mono (show (wat (k : Int)).length + 1 ≤ L + 1 by omega)
    have := shM_eq (L + 1)
    omega
  · intro h6
    refine len_of_rank h3 ?_
    rw [h2]
    have := shM_eq (L + 1)
    omega
theorem seg_step {e : List Pt} {k : Nat} {b : Bool} {y : List Pt} (h : dwF (wat (k : Int)) e = (b, y)) : seg e 0 (k + 1) = if b = true then seg e 0 k ++ [y] else seg e 0 k := by
  have h1 : seg e 0 (k + 1) = seg e 0 k ++ (dwO (wat ((0 + k : Nat) : Int)) e).toList := rfl
  rw [h1, Nat.zero_add, dwO, h]
  cases b <;> simp
theorem ins_step (xs : List (List Pt)) (y : List Pt) : (xs ++ [y]).foldl ins [] = ins (xs.foldl ins []) y := by rw [List.foldl_append]; rfl
theorem mem_step {es : List (List Pt)} {j : Nat} {x y : List Pt} (h : es[j]? = some x) : decide (y ∈ es.take (j + 1)) = (decide (y ∈ es.take j) || decide (x = y)) := by
  obtain ⟨hlt, he⟩ := List.getElem?_eq_some_iff.1 h
  rw [List.take_succ_eq_append_getElem hlt, he, ← Bool.decide_or]
  simp [eq_comm]
theorem rows_info : (Try.prog.info? 23).map (fun i => (i.zero, i.size, i.bytes)) = some (some (.slice none 0 0), 1, 24) := by kernel_rfl
theorem seg_small (e : List Pt) (he : e.length ≤ 60) (n : Nat) : ∀ z ∈ seg e 0 n, z.length ≤ 60 := by
  induction n with
  | zero => intro z hz; simp [seg] at hz
  | succ n ih =>
    intro z hz
    rw [seg] at hz
    rcases List.mem_append.1 hz with h | h
    · exact ih z h
    · rw [Option.mem_toList, dwO] at h
      split at h
      · injection h with h
        rw [← h]
        exact dwF_len _ _ he
      · cases h
theorem ins_mem (xs l : List (List Pt)) (z : List Pt) (h : z ∈ xs.foldl ins l) : z ∈ l ∨ z ∈ xs := by
  induction xs generalizing l with
  | nil => exact .inl h
  | cons x r ih =>
    rw [List.foldl_cons] at h
    rcases ih _ h with h1 | h1
    · unfold ins at h1
      split at h1
      · exact .inl h1
      · rcases List.mem_append.1 h1 with h2 | h2
        · exact .inl h2
        · simp at h2; exact .inr (by simp [h2])
    · exact .inr (by simp [h1])
theorem ins_small (e : List Pt) (he : e.length ≤ 60) (k : Nat) : ∀ z ∈ (seg e 0 k).foldl ins [], z.length ≤ 60 := by
  intro z hz
  rcases ins_mem _ _ _ hz with h | h
  · simp at h
  · exact seg_small e he k z h
/-- The blocks besides one. -/
def XO (row : Option Nat) (b : Nat) : Prop := row ≠ some b
theorem XO.next {s : Nat} {row row' : Option Nat} (hat : row' = row ∨ row' = some s) (b : Nat) (hb : b < s) (h : XO row b) : XO row' b := by
  rcases hat with e | e
  · rw [e]; exact h
  · rw [e]; intro e'; injection e' with e'; omega
set_option maxHeartbeats 8000000 in
theorem specDeriveCount_all (len : Int) (w : World) (A : Option Addr) (n c : Nat) (e : List Pt) (h : SL w w.heap.size A n c e) (hn : n ≤ 1000000000) :
    Calls Try.prog 27 #[.slice A n c, .int .i64 len] w fun r w' => r = .returned (.int .i64 (dcntI e len)) ∧ Below w.heap.size w w' := by
  have HH := hide h
  have HLE := Lib.hid h.1.1
  clear h
  rcases hv : exprB e
  · have HR := Lib.hid (show dcntI e len = -1 by rw [dcntI, if_neg (by rw [hv]; simp)])
    have HV := Lib.hid hv
    clear hv
    go_enter Try.func27, Try.ntmps27
    go_wp2_with fail
    refine (specExprValid_any w A n c e (unhide HH).1 hn).mono ?_
    rintro r w1 ⟨rfl, hb⟩
    rw [HV.out]
    go_wp2
    go_ret
    exact ⟨ret_int HR.out.symm, hb⟩
  have HV := Lib.hid hv
  have hn60 : n ≤ 60 := by have h1 := HLE.out; have h2 := exprB_len hv; omega
  clear hv
  rcases hi : inB len 0 4
  · have HR := Lib.hid (show dcntI e len = -1 by rw [dcntI, if_neg (by rw [hi]; simp)])
    go_enter Try.func27, Try.ntmps27
    go_wp2_with fail
    refine (specExprValid_any w A n c e (unhide HH).1 hn).mono ?_
    rintro r w1 ⟨rfl, hb⟩
    rw [HV.out]
    go_wp2_with (first | (go_at_call 64; refine (l1In_any _ _ _ _).mono ?_; rintro r w2 ⟨rfl, rfl⟩; rw [hi]))
    go_ret
    exact ⟨ret_int HR.out.symm, hb⟩
  obtain ⟨l0, l4⟩ := inB_true.1 hi
  obtain ⟨L, rfl⟩ : ∃ L : Nat, len = (L : Int) := ⟨len.toNat, by omega⟩
  have hL : L ≤ 4 := by omega
  obtain ⟨M, hM⟩ : ∃ M, shM (L + 1) = M := ⟨_, rfl⟩
  have hM9 : M ≤ 121 := by
    rw [← hM]
    rcases (show L = 0 ∨ L = 1 ∨ L = 2 ∨ L = 3 ∨ L = 4 by omega) with rfl | rfl | rfl | rfl | rfl <;> decide
  have HR := Lib.hid (show dcntI e (L : Int) = (((seg e 0 M).foldl ins []).length : Int) by rw [dcntI, if_pos ⟨HV.out, hi⟩, Int.toNat_natCast, hM])
  have HM := Lib.hid hM
  obtain ⟨ti, hi1, hy0, hy1, hy2⟩ := info_parts rows_info
  have HU := hide hi1
  clear hi1 hM
  go_enter Try.func27, Try.ntmps27
  go_wp2_with fail
  refine (specExprValid_any w A n c e (unhide HH).1 hn).mono ?_
  rintro r w1 ⟨rfl, hb⟩
  rw [HV.out]
  have hz1 := hb.size
  have HO0 := hide (OwL.emp w1 w.heap.size (XO (some w1.heap.size)) hz1)
  have hb0 : Below w.heap.size w (w1.alloc (.cells #[] 23)) := hb.alloc hz1 _
  go_wp2_with (first | (go_at_call 64; refine (l1In_any _ _ _ _).mono ?_; rintro r w2 ⟨rfl, rfl⟩; rw [hi]))
  go_loopw [5, 6] (fun fv kv wr => ∃ (k m : Nat), kv = .int .i64 k ∧ k ≤ M ∧ m ≤ k ∧ Hid (OwL wr w.heap.size (XO fv.ownBlock) fv m ((seg e 0 k).foldl ins [])) ∧ Below w.heap.size w wr) (fun _ kv _ => M + 1 - (intOf kv).toNat)
  case atStart => exact ⟨0, 0, rfl, Nat.zero_le _, Nat.le_refl _, HO0, hb0⟩
  case round =>
    rename World => wk
    clear HO0 hb0
    obtain ⟨k, m, rfl, hk, hmk, hO, hbk⟩ := hrel
    have hkM : k ≤ shM (L + 1) := by have := HM.out; omega
    obtain ⟨hw1, hw8, hwl⟩ := wat_in hL hkM
    rw [HM.out] at hwl
    have hin : inB (k : Int) 0 9840 = true := inB_true.2 ⟨by omega, by omega⟩
    have hwat : watV (k : Int) = .tuple #[.string ⟨(wat (k : Int)).toArray⟩, .bool true] := by rw [watV, if_pos hin]
    obtain ⟨X, hX⟩ : ∃ X : ByteArray, (⟨(wat (k : Int)).toArray⟩ : ByteArray) = X := ⟨_, rfl⟩
    have hXs : X.size = (wat (k : Int)).length := by rw [← hX]; simp [ByteArray.size]
    have hXd : X.data.toList = wat (k : Int) := by rw [← hX]
    rw [hX] at hwat
    rw [← hXs] at hw8 hwl
    have HWB := Lib.hid hw1
    have HXD := Lib.hid hXd
    have HWL := Lib.hid hwl
    clear hX hXs hXd hin hw1 hwl hkM
    by_cases hlt : k < M
    · have hXL : X.size ≤ L := HWL.out.2 hlt
      have hXL' : ¬ (L : Int) < (X.size : Int) := by omega
      go_wp2_with (first | (go_at_call 65; refine (specWordAt_any (k : Int) _ (by omega)).mono ?_; rintro r w2 ⟨rfl, hb2⟩; rw [hwat]))
      have hbb2 := hbk.trans (hb2.mono hbk.size)
      obtain ⟨b, y, hd⟩ : ∃ b y, dwordF X e = (b, y) := ⟨_, _, rfl⟩
      have hd2 : dwF (wat (k : Int)) e = (b, y) := by
        have h1 := hd
        rw [dwordF, HXD.out, if_pos ⟨HV.out, HWB.out⟩] at h1
        exact h1
      have HDD := Lib.hid hd
      have HSEG := Lib.hid (seg_step hd2)
      have HY := Lib.hid (show y.length ≤ 60 by have := dwordF_len X e; rw [hd] at this; exact this)
      clear hd hd2
      refine (specDeriveWord_all X w2 A n c e ((unhide HH).up hbb2).1 hn (unhide HH).2.1 (unhide HH).2.2.1 (by unfold maxLen; omega)).mono ?_
      intro r w3 hdd
      obtain ⟨A4, c4, rfl, hsl4, hown4, hb3⟩ := hdd.pair HDD.out HY.out
      have hb23 := hb2.trans (hb3.mono hb2.size)
      have hbb3 := hbk.trans (hb23.mono hbk.size)
      have hO3 := hide ((unhide hO).grown (bel_grown hb23) (X' := XO u5.ownBlock) (fun _ h => h) none_ne (own_or u5))
      have hvlt : ∀ g, u5.ownBlock = some g → g < wk.heap.size := fun g hg => by obtain ⟨vs, h1, -⟩ := unhide hO; exact (h1.lt g hg).2
      have hz2 := hb2.size
      have HY4 := hide (slx_fresh (X := XO u5.ownBlock) rfl hsl4 hown4 (fun b' hb' => fun e' => by have := hvlt b' e'; omega))
      have HB3 := Lib.hid hbb3
      have hz3 := hbb3.size
      obtain ⟨ny, hny⟩ : ∃ ny, y.length = ny := ⟨_, rfl⟩
      have hny60 : ny ≤ 60 := by rw [← hny]; exact HY.out
      rw [hny]
      rw [hny] at HY4
      have HNY := Lib.hid hny
      obtain ⟨vs, hvs⟩ := unhide hO3
      obtain ⟨FA, fc, hfv, hfc, hFA⟩ := own_shape hvs.1
      have HVS := hide hvs
      have HFA := hide hFA
      clear hdd hsl4 hown4 hO hvlt hb2 hb3 hb23 hbb2 hbb3 hny hvs hFA hbk hz2
      subst hfv
      go_wp2
      go_loopw [11, 12] (fun bv jv wr => ∃ j : Nat, jv = .int .i64 j ∧ j ≤ m ∧ Hid (bv = .bool (b && !(decide (y ∈ ((seg e 0 k).foldl ins []).take j)))) ∧ Below w3.heap.size w3 wr) (fun _ jv _ => m - (intOf jv).toNat)
      case atStart => exact ⟨0, rfl, Nat.zero_le _, Lib.hid (by simp), Below.refl _ _⟩
      case round =>
        rename World => wj
        obtain ⟨j, rfl, hj, hbv, hbj⟩ := hrel
        obtain ⟨bc, hbc⟩ : ∃ bc, (b && !(decide (y ∈ ((seg e 0 k).foldl ins []).take j))) = bc := ⟨_, rfl⟩
        have hbv' : u11 = .bool bc := by rw [← hbc]; exact hbv.out
        have HBC := Lib.hid hbc
        clear hbc hbv
        subst hbv'
        have hgr := bel_grown hbj
        have HVJ := hide ((unhide HVS).grown hgr (X' := XO (Value.slice FA m fc).ownBlock) (fun _ h => h) none_ne (own_or _))
        have HYJ := hide ((unhide HY4).grown hgr (X' := XO (Value.slice FA m fc).ownBlock) (fun _ h => h) none_ne)
        have hzj := hbj.size
        have HBJ := Lib.hid (HB3.out.trans (hbj.mono hz3))
        clear hgr
        by_cases hltj : j < m
        · obtain ⟨g, rfl⟩ := (unhide HFA) (by omega)
          obtain ⟨h1, h2, h3, h4, h5⟩ := unhide HVJ
          have hl : j < ((seg e 0 k).foldl ins []).length := by omega
          obtain ⟨x, hx⟩ : ∃ x, ((seg e 0 k).foldl ins [])[j]? = some x := ⟨_, List.getElem?_eq_getElem hl⟩
          obtain ⟨v, hv1, hv2⟩ := h5 j x hx
          obtain ⟨Ax, cx, rfl, hslx, -⟩ := hv2
          obtain ⟨Ay, cy, hye, hsly, -⟩ := unhide HYJ
          rw [HNY.out] at hye hsly
          injection hye with e1 _ e2
          subst e1; subst e2
          have hc0 : wj.cell? ⟨g, j, none⟩ = some (.slice Ax x.length cx) := by rw [h1.cellAt j (by omega)]; exact hv1
          have HMS := Lib.hid (mem_step (y := y) hx)
          have hxl : x.length ≤ 1000000000 := by
            have := hslx.2.1
            have h9 : ∀ z ∈ (seg e 0 k).foldl ins [], z.length ≤ 60 := ins_small e (by have := HLE.out; omega) k
            have := h9 x (List.mem_of_getElem? hx)
            omega
          have j0 : (0 : Int) ≤ (j : Int) := Int.natCast_nonneg _
          have j1 : (j : Int) < (m : Int) := by omega
          have HLX := hide hslx
          have HLY := hide hsly
          clear h1 h2 h3 h4 h5 hv1 hslx hsly hx hl
          cases bc
          · go_wp2
            go_roundw
            case rel =>
              refine ⟨j + 1, by go_num, by omega, Lib.hid ?_, hbj⟩
              have h9 := HBC.out
              rw [HMS.out]
              cases b
              · rfl
              · rw [Bool.true_and] at h9 ⊢
                rw [Bool.not_or, h9]; rfl
            case measure => simp [intOf]; omega
          · go_wp2_with fail
            refine (l5Same_any wj Ax _ x.length cx ny _ x y (unhide HLX).1 (unhide HLY).1 hxl (by omega)).mono ?_
            rintro r w5 ⟨rfl, hb5⟩
            have hbb5 := hbj.trans (hb5.mono hbj.size)
            obtain ⟨be, hbe⟩ : ∃ be, decide (x = y) = be := ⟨_, rfl⟩
            rw [hbe]
            have HBE := Lib.hid hbe
            clear hbe
            go_wp2
            go_roundw
            case rel =>
              refine ⟨j + 1, by go_num, by omega, Lib.hid ?_, hbb5⟩
              have h9 := HBC.out
              rw [HMS.out, HBE.out]
              cases b
              · cases h9
              · rw [Bool.true_and] at h9 ⊢
                rw [Bool.not_or, h9]; cases be <;> rfl
            case measure => simp [intOf]; omega
        · obtain rfl : j = m := by omega
          have hlen := (unhide HVJ).2.1
          have HFR := Lib.hid (show (b && !(decide (y ∈ (seg e 0 k).foldl ins []))) = bc by
            have h9 := HBC.out
            rw [List.take_of_length_le (by omega)] at h9
            exact h9)
          clear hlen
          cases bc
          · have HNX := Lib.hid (show (seg e 0 (k + 1)).foldl ins [] = (seg e 0 k).foldl ins [] by
              rw [HSEG.out]
              have h9 := HFR.out
              cases b
              · rfl
              · rw [Bool.true_and] at h9
                have h8 : y ∈ (seg e 0 k).foldl ins [] := by simpa using h9
                rw [if_pos rfl, ins_step, ins, if_pos h8])
            go_wp2
            go_roundw
            case rel => exact ⟨k + 1, j, by go_num, by omega, by omega, Lib.hid (by rw [HNX.out]; exact ⟨_, unhide HVJ⟩), HBJ.out⟩
            case measure => simp [intOf]; omega
          · have HNX := Lib.hid (show (seg e 0 (k + 1)).foldl ins [] = (seg e 0 k).foldl ins [] ++ [y] by
              rw [HSEG.out]
              have h9 := HFR.out
              cases b
              · cases h9
              · rw [Bool.true_and] at h9
                have h8 : ¬ y ∈ (seg e 0 k).foldl ins [] := by simpa using h9
                rw [if_pos rfl, ins_step, ins, if_neg h8])
            have hgr := World.grownBy_alloc wj (.cells #[.slice A4 ny c4] 23) none
            have HVA := hide ((unhide HVJ).grown hgr (X' := XO (Value.slice FA j fc).ownBlock) (fun _ h => h) none_ne (own_or _))
            have HYA := hide ((unhide HYJ).grown hgr (X' := XO (Value.slice FA j fc).ownBlock) (fun _ h => h) none_ne)
            have hbA := HBJ.out.alloc HBJ.out.size (.cells #[.slice A4 ny c4] 23)
            have HBA := Lib.hid hbA
            have hws := HBJ.out.size
            clear hgr hbA
            go_wp2_with (at_builtin; go_must (refine wpList_append_own_at _ rfl (.tmp 59) (.tmp 61) 64 rfl w.heap.size 23 ti (.slice none 0 0) 1 24 Try.underlying64 (unhide HU) hy0 hy1 hy2 rfl (by decide) (.slice FA j fc) j vs rfl (unhide HVA).1 ⟨wj.heap.size, 0, none⟩ 1 1 [.slice A4 ny c4] rfl rfl (cell_one_lit _ _ _) (by simp [Value.oneCell']) (by unfold maxLen; omega) (by omega) (by simp; omega) ?_); go_must (intro v9 w9 hown9 hgrow9 _ hat9))
            go_roundw
            case rel =>
              refine ⟨k + 1, j + 1, by go_num, by omega, by omega, Lib.hid ?_, HBA.out.grown hgrow9 HBA.out.size (own_block (unhide HVA).1)⟩
              rw [HNX.out]
              exact ⟨_, (unhide HVA).snoc (unhide HYA) hgrow9 hown9 (fun b' hb' h' => XO.next hat9 b' hb' h') (fun _ h => h)⟩
            case measure => simp [intOf]; omega
    · obtain rfl : k = M := by omega
      have hXL : ¬ X.size ≤ L := fun h => hlt (HWL.out.1 h)
      have hXL' : (L : Int) < (X.size : Int) := by omega
      obtain ⟨vs, hvs⟩ := unhide hO
      obtain ⟨FA, fc, hfv, hfc, hFA⟩ := own_shape hvs.1
      have hlen := Lib.hid hvs.2.1
      clear hvs hFA
      subst hfv
      go_wp2_with (first | (go_at_call 65; refine (specWordAt_any (k : Int) _ (by omega)).mono ?_; rintro r w2 ⟨rfl, hb2⟩; rw [hwat]))
      go_ret
      exact ⟨ret_int (by rw [HR.out, hlen.out]), hbk.trans (hb2.mono hbk.size)⟩
end Go.Proofs.Ytadibjjjdbglaaa
