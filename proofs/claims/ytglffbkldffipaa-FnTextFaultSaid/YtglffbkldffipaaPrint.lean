/-
  Texts of expressions: the walks of both printers.
-/
import Derived.Test.YtglffbkldffipaaTxt
import Derived.Test.YtglffbkldffipaaOpnd
import Derived.Test.YtglffbkldffipaaTurn
import Derived.Test.YtglffbkldffipaaLists
import Derived.MapKept
import Derived.Test.YtglffbkldffipaaWords
namespace Go.Proofs.Ytglffbkldffipaa
open Go.RowKit
set_option linter.unusedVariables false
set_option maxRecDepth 100000

/-- A text as a value. -/
abbrev strV (l : List UInt8) : Value := .string ⟨l.toArray⟩
theorem str_brk (l : List UInt8) : (⟨#[40]⟩ : ByteArray) ++ ⟨l.toArray⟩ ++ ⟨#[41]⟩ = ⟨(40 :: (l ++ [41])).toArray⟩ := by
  apply ByteArray.ext; apply Array.ext'; simp [ByteArray.data_append]
theorem str_pre (c : UInt8) (l : List UInt8) : (⟨#[c]⟩ : ByteArray) ++ ⟨l.toArray⟩ = ⟨(c :: l).toArray⟩ := by
  apply ByteArray.ext; apply Array.ext'; simp [ByteArray.data_append]
theorem str_post (c : UInt8) (l : List UInt8) : (⟨l.toArray⟩ : ByteArray) ++ ⟨#[c]⟩ = ⟨(l ++ [c]).toArray⟩ := by
  apply ByteArray.ext; apply Array.ext'; simp [ByteArray.data_append]
/-- What a printer leaves. -/
def PrintD (w : World) (l : List UInt8) (r : Ending) (w' : World) : Prop := ∃ X : ByteArray, r = .returned (.string X) ∧ Hid (X = ⟨l.toArray⟩) ∧ X.size ≤ 250 ∧ Below w.heap.size w w'
theorem PrintD.shut {w w' : World} {l : List UInt8} {X : ByteArray} (h : X = ⟨l.toArray⟩) (hl : l.length ≤ 250) (hb : Below w.heap.size w w') : PrintD w l (.returned (.string X)) w' := by
  refine ⟨X, rfl, Lib.hid h, ?_, hb⟩
  rw [h]; exact hl
theorem Ex.txt_small {t : Ex} (h : t.sz ≤ 60) : t.txt.length ≤ 237 := by have := t.txt_len; omega
theorem Ex.br_small {t : Ex} (h : t.sz ≤ 60) (l : Nat) : (t.br l).length ≤ 239 := by have := t.br_len l; have := Ex.txt_small h; omega
/-- What the text of a list of parts is. -/
def TxR (e : List Pt) (X : ByteArray) : Prop := txtS e X.data.toList ∧ X.size ≤ 250
theorem TxR.uniq {e : List Pt} {X Y : ByteArray} (h : TxR e X) (h' : TxR e Y) : X = Y := ByteArray.ext (Array.ext' (txtS.uniq h.1 h'.1))
def TextR (w : World) (e : List Pt) (r : Ending) (w' : World) : Prop := ∃ X : ByteArray, r = .returned (.string X) ∧ TxR e X ∧ Below w.heap.size w w'
theorem TextR.of {w w1 w' : World} {t : Ex} {r : Ending} (hb : Below w.heap.size w w1) (hg : t.good) (hs : t.sz ≤ 60) (h : PrintD w1 t.txt r w') : TextR w t.flat r w' := by
  obtain ⟨X, rfl, hX, hl, hb1⟩ := h
  exact ⟨X, rfl, ⟨.inr ⟨t, hg, rfl, hs, by rw [hX.out]⟩, hl⟩, hb.trans (hb1.mono hb.size)⟩
theorem TextR.bad {w w' : World} {e : List Pt} (h : exprB e = false) (hb : Below w.heap.size w w') : TextR w e (.returned (.string ⟨#[]⟩)) w' := ⟨⟨#[]⟩, rfl, ⟨.inl ⟨h, rfl⟩, by decide⟩, hb⟩
theorem binding_any (k : Int) (w : World) : Calls Try.prog 45 #[.int .i64 k] w fun e w' => e = .returned (.int .i64 ((levK k : Int) + 1)) ∧ w = w' := by
  by_cases h5 : k = 5
  · subst h5; go_enter Try.func45, Try.ntmps45; go_wp2; go_ret; exact ⟨rfl, rfl⟩
  by_cases h6 : k = 6
  · subst h6; go_enter Try.func45, Try.ntmps45; go_wp2; go_ret; exact ⟨rfl, rfl⟩
  by_cases h4 : k = 4
  · subst h4; go_enter Try.func45, Try.ntmps45; go_wp2; go_ret; exact ⟨rfl, rfl⟩
  by_cases h7 : k = 7
  · subst h7; go_enter Try.func45, Try.ntmps45; go_wp2; go_ret; exact ⟨rfl, rfl⟩
  by_cases h8 : k = 8
  · subst h8; go_enter Try.func45, Try.ntmps45; go_wp2; go_ret; exact ⟨rfl, rfl⟩
  have e5 : (k == 5) = false := by simpa using h5
  have e6 : (k == 6) = false := by simpa using h6
  have e4 : (k == 4) = false := by simpa using h4
  have e7 : (k == 7) = false := by simpa using h7
  have e8 : (k == 8) = false := by simpa using h8
  go_enter Try.func45, Try.ntmps45
  go_wp2
  go_ret
  exact ⟨ret_int (by simp [levK, h4, h5, h6, h7, h8]), rfl⟩
theorem l4Level_any (t : Ex) (w : World) (A : Option Addr) (n c : Nat) (h : PS w w.heap.size A n t.flat) (hn : n ≤ 60) :
    Calls Try.prog 42 #[.slice A n c] w fun e w' => e = .returned (.int .i64 (levK t.kind : Int)) ∧ w = w' := by
  obtain ⟨b, off, m, rfl, hbB, hnm, hm, hk, hl⟩ := h.last
  have n1 : 1 ≤ n := by omega
  have HNM := Lib.hid hnm
  clear h hnm
  generalize t.kind = k at *
  by_cases h5 : k = 5
  · subst h5; go_enter Try.func42, Try.ntmps42; go_wp2; go_ret; exact ⟨rfl, rfl⟩
  by_cases h6 : k = 6
  · subst h6; go_enter Try.func42, Try.ntmps42; go_wp2; go_ret; exact ⟨rfl, rfl⟩
  by_cases h4 : k = 4
  · subst h4; go_enter Try.func42, Try.ntmps42; go_wp2; go_ret; exact ⟨rfl, rfl⟩
  by_cases h7 : k = 7
  · subst h7; go_enter Try.func42, Try.ntmps42; go_wp2; go_ret; exact ⟨rfl, rfl⟩
  by_cases h8 : k = 8
  · subst h8; go_enter Try.func42, Try.ntmps42; go_wp2; go_ret; exact ⟨rfl, rfl⟩
  have e5 : (k == 5) = false := by simpa using h5
  have e6 : (k == 6) = false := by simpa using h6
  have e4 : (k == 4) = false := by simpa using h4
  have e7 : (k == 7) = false := by simpa using h7
  have e8 : (k == 8) = false := by simpa using h8
  go_enter Try.func42, Try.ntmps42
  go_wp2
  go_ret
  exact ⟨ret_int (by simp [levK, h4, h5, h6, h7, h8]), rfl⟩
theorem leaf_str {l : Int} (h0 : 0 ≤ l) (h2 : l ≤ 2) : [UInt8.ofNat (97 + l).toNat] = (Ex.leaf 3 l).txt := by
  rcases (show l = 0 ∨ l = 1 ∨ l = 2 by omega) with rfl | rfl | rfl <;> rfl
def LowC (t : Ex) : Prop := ∀ (w : World) (A : Option Addr) (n c : Nat) (li : Int) (l : Nat) (hl : li = l) (hlow : l ≤ levK t.kind) (h : PS w w.heap.size A n t.flat) (hn : n ≤ 60) (hc : n ≤ c) (hcm : c ≤ maxLen),
    Calls Try.prog 29 #[.slice A n c, .int .i64 li] w (PrintD w t.txt)
theorem l4Print_full {t : Ex} (low : LowC t) (w : World) (A : Option Addr) (n c : Nat) (li : Int) (l : Nat) (hl : li = l) (h : PS w w.heap.size A n t.flat) (hn : n ≤ 60) (hc : n ≤ c) (hcm : c ≤ maxLen) :
    Calls Try.prog 29 #[.slice A n c, .int .i64 li] w (PrintD w (t.br l)) := by
  by_cases hlt : l ≤ levK t.kind
  · rw [Ex.br_low hlt]; exact low w A n c li l hl hlt h hn hc hcm
  · rw [Ex.br_high (by omega)]
    have hcmp : (levK t.kind : Int) < li := by omega
    have H0 := low w A n c 0 0 rfl (Nat.zero_le _) h hn hc hcm
    have HL := Lib.hid hl
    have HT := Lib.hid hlt
    have HS := Lib.hid (show t.sz ≤ 60 by have := h.len; omega)
    clear hl hlt
    have hlv := l4Level_any t w A n c h hn
    generalize (levK t.kind : Int) = lv at hcmp hlv
    go_enter Try.func29, Try.ntmps29
    go_wp2_with fail
    refine hlv.mono ?_
    rintro r w1 ⟨rfl, rfl⟩
    go_wp2_with fail
    refine H0.mono ?_
    rintro r w1 ⟨X, rfl, HX, hX, hb⟩
    go_wp2
    go_ret
    exact PrintD.shut (by rw [HX.out]; exact str_brk _) (by have := Ex.txt_small HS.out; simp; omega) hb
set_option maxHeartbeats 4000000 in
theorem l4Print_low (t : Ex) (hg : t.good) : LowC t := by
  induction t with
  | leaf k i =>
    intro w A n c li l hl hlow h hn hc hcm
    have hcmp : ¬ ((levK (Ex.leaf k i).kind : Int) < li) := by omega
    have hlv := l4Level_any _ w A n c h hn
    generalize (levK (Ex.leaf k i).kind : Int) = lv at hcmp hlv
    have hsp := l2Split_any w A n c _ hg h (by omega) hc hcm
    obtain ⟨b, off, m, rfl, hbB, hnm, hm, hk, hlt⟩ := h.last
    simp only [Ex.kind, Ex.lett] at hk hlt
    have n1 : 1 ≤ n := by omega
    have HNM := Lib.hid hnm
    have HH := hide h
    have HL := Lib.hid hl
    have HLW := Lib.hid hlow
    have HS := Lib.hid (show _ ≤ 60 from Nat.le_trans (Nat.le_of_eq h.len.symm) hn)
    clear hl hlow hnm h
    have hgg := hg
    rcases hg with ⟨rfl | rfl, rfl⟩ | ⟨rfl, h0, h2⟩
    all_goals
      go_enter Try.func29, Try.ntmps29
      go_wp2_with fail
      refine hlv.mono ?_
      rintro r w1 ⟨rfl, rfl⟩
      go_wp2_with fail
      refine hsp.mono ?_
      rintro r w1 ⟨g1, g2, rfl, hb⟩
      have hk1 := (hb.cell (p := ⟨b, off + m * 2, none⟩) hbB).trans hk
      have hl1 := (hb.cell (p := ⟨b, off + m * 2 + 1, none⟩) hbB).trans hlt
      clear hk hlt hlv hsp
    · go_wp2
      go_ret
      exact PrintD.shut rfl (Nat.le_trans (Ex.txt_small HS.out) (by omega)) (hb.alloc hb.size _)
    · go_wp2
      go_ret
      exact PrintD.shut rfl (Nat.le_trans (Ex.txt_small HS.out) (by omega)) (hb.alloc hb.size _)
    · have hcv := conv_one (w1.alloc (.cells #[.int .i64 3, .int .i64 i] 36)) (97 + i) (by omega) (by omega)
      rw [World.size_alloc] at hcv
      go_wp2
      go_ret
      exact PrintD.shut (by rw [leaf_str h0 h2]) (Nat.le_trans (Ex.txt_small HS.out) (by omega)) ((hb.alloc hb.size _).alloc (hb.alloc hb.size _).size _)
  | un k a ih =>
    intro w A n c li l hl hlow h hn hc hcm
    have full := l4Print_full (ih hg.2)
    have hcmp : ¬ ((levK (Ex.un k a).kind : Int) < li) := by omega
    have hlv := l4Level_any _ w A n c h hn
    generalize (levK (Ex.un k a).kind : Int) = lv at hcmp hlv
    have hsp := l2Split_any w A n c _ hg h (by omega) hc hcm
    obtain ⟨b, off, m, rfl, hbB, hnm, hm, hk, hlt⟩ := h.last
    obtain ⟨i, hi⟩ : ∃ i, (Ex.un k a).lett = i := ⟨_, rfl⟩
    rw [hi] at hlt
    simp only [Ex.kind] at hk
    have hla := h.len
    simp only [Ex.sz] at hla
    have a1 : a.sz ≤ 60 := by omega
    have a2 : a.sz ≤ c := by omega
    have n1 : 1 ≤ n := by omega
    have HA := hide (PS.un h)
    have HNM := Lib.hid hnm
    have HL := Lib.hid hl
    have HLW := Lib.hid hlow
    have HS := Lib.hid (show _ ≤ 60 from Nat.le_trans (Nat.le_of_eq h.len.symm) hn)
    clear hl hlow hnm h hi hla
    obtain ⟨hkk, hga⟩ := hg
    rcases hkk with rfl | rfl
    all_goals
      go_enter Try.func29, Try.ntmps29
      go_wp2_with fail
      refine hlv.mono ?_
      rintro r w1 ⟨rfl, rfl⟩
      go_wp2_with fail
      refine hsp.mono ?_
      rintro r w1 ⟨g2, rfl, hb⟩
      have hk1 := (hb.cell (p := ⟨b, off + m * 2, none⟩) hbB).trans hk
      have hl1 := (hb.cell (p := ⟨b, off + m * 2 + 1, none⟩) hbB).trans hlt
      have hbb := hb.alloc hb.size (pbox 7 i)
      have hbc := hb.alloc hb.size (pbox 8 i)
      clear hk hlt hlv hsp
    · go_wp2_with fail
      refine (full _ _ a.sz _ 3 3 rfl ((unhide HA).up hbb) a1 a2 hcm).mono ?_
      rintro r w2 ⟨X, rfl, HX, hX, hb2⟩
      go_wp2
      go_ret
      exact PrintD.shut (by rw [HX.out]; rw [Ex.txt_un7]; exact str_pre _ _) (Nat.le_trans (Ex.txt_small HS.out) (by omega)) (hbb.trans (hb2.mono hbb.size))
    · go_wp2_with fail
      refine (full _ _ a.sz _ 4 4 rfl ((unhide HA).up hbc) a1 a2 hcm).mono ?_
      rintro r w2 ⟨X, rfl, HX, hX, hb2⟩
      go_wp2
      go_ret
      exact PrintD.shut (by rw [HX.out]; rw [Ex.txt_un8]; exact str_post _ _) (Nat.le_trans (Ex.txt_small HS.out) (by omega)) (hbc.trans (hb2.mono hbc.size))
  | bin k a d iha ihd =>
    intro w A n c li l hl hlow h hn hc hcm
    have fulla := l4Print_full (iha hg.2.1)
    have fulld := l4Print_full (ihd hg.2.2)
    have hcmp : ¬ ((levK (Ex.bin k a d).kind : Int) < li) := by omega
    have hlv := l4Level_any _ w A n c h hn
    generalize (levK (Ex.bin k a d).kind : Int) = lv at hcmp hlv
    have hsp := l2Split_any w A n c _ hg h (by omega) hc hcm
    obtain ⟨b, off, m, rfl, hbB, hnm, hm, hk, hlt⟩ := h.last
    obtain ⟨i, hi⟩ : ∃ i, (Ex.bin k a d).lett = i := ⟨_, rfl⟩
    rw [hi] at hlt
    simp only [Ex.kind] at hk
    have hla := h.len
    simp only [Ex.sz] at hla
    have a1 : a.sz ≤ 60 := by omega
    have a2 : a.sz ≤ c := by omega
    have d1 : d.sz ≤ 60 := by omega
    have d2 : d.sz ≤ c - a.sz := by omega
    have d3 : c - a.sz ≤ maxLen := by omega
    have n1 : 1 ≤ n := by omega
    have HA := hide (PS.bin h).1
    have HD := hide (PS.bin h).2
    have HNM := Lib.hid hnm
    have HL := Lib.hid hl
    have HLW := Lib.hid hlow
    have HS := Lib.hid (show _ ≤ 60 from Nat.le_trans (Nat.le_of_eq h.len.symm) hn)
    clear hl hlow hnm h hi hla
    obtain ⟨hkk, hga, hgd⟩ := hg
    rcases hkk with rfl | rfl | rfl
    all_goals
      go_enter Try.func29, Try.ntmps29
      go_wp2_with fail
      refine hlv.mono ?_
      rintro r w1 ⟨rfl, rfl⟩
      go_wp2_with fail
      refine hsp.mono ?_
      rintro r w1 ⟨b', o', hA, rfl, hb⟩
      injection hA with hA
      injection hA with hA1 hA2
      subst hA1; subst hA2
      have hk1 := (hb.cell (p := ⟨b, off + m * 2, none⟩) hbB).trans hk
      have hl1 := (hb.cell (p := ⟨b, off + m * 2 + 1, none⟩) hbB).trans hlt
      clear hk hlt hlv hsp
    · have hbb := hb.alloc hb.size (pbox 4 i)
      go_wp2_with fail
      refine (fulla _ _ a.sz _ 2 2 rfl ((unhide HA).up hbb) a1 a2 hcm).mono ?_
      rintro r w2 ⟨X, rfl, HX, hX, hb2⟩
      have hbb2 := hbb.trans (hb2.mono hbb.size)
      go_wp2_with fail
      refine (fulld _ _ d.sz _ 3 3 rfl ((unhide HD).up hbb2) d1 d2 d3).mono ?_
      rintro r w3 ⟨Y, rfl, HY, hY, hb3⟩
      go_wp2
      go_ret
      exact PrintD.shut (by rw [HX.out, HY.out]; rw [Ex.txt_bin, app_str, show signT 4 = [] from rfl, List.append_nil]; rfl) (Nat.le_trans (Ex.txt_small HS.out) (by omega)) (hbb2.trans (hb3.mono hbb2.size))
    · have hbb := hb.alloc hb.size (pbox 5 i)
      go_wp2_with fail
      refine (fulla _ _ a.sz _ 0 0 rfl ((unhide HA).up hbb) a1 a2 hcm).mono ?_
      rintro r w2 ⟨X, rfl, HX, hX, hb2⟩
      have hbb2 := hbb.trans (hb2.mono hbb.size)
      go_wp2_with fail
      refine (fulld _ _ d.sz _ 1 1 rfl ((unhide HD).up hbb2) d1 d2 d3).mono ?_
      rintro r w3 ⟨Y, rfl, HY, hY, hb3⟩
      go_wp2
      go_ret
      exact PrintD.shut (by rw [HX.out, HY.out]; rw [Ex.txt_bin, str_post, app_str]; rfl) (Nat.le_trans (Ex.txt_small HS.out) (by omega)) (hbb2.trans (hb3.mono hbb2.size))
    · have hbb := hb.alloc hb.size (pbox 6 i)
      go_wp2_with fail
      refine (fulla _ _ a.sz _ 1 1 rfl ((unhide HA).up hbb) a1 a2 hcm).mono ?_
      rintro r w2 ⟨X, rfl, HX, hX, hb2⟩
      have hbb2 := hbb.trans (hb2.mono hbb.size)
      go_wp2_with fail
      refine (fulld _ _ d.sz _ 2 2 rfl ((unhide HD).up hbb2) d1 d2 d3).mono ?_
      rintro r w3 ⟨Y, rfl, HY, hY, hb3⟩
      go_wp2
      go_ret
      exact PrintD.shut (by rw [HX.out, HY.out]; rw [Ex.txt_bin, str_post, app_str]; rfl) (Nat.le_trans (Ex.txt_small HS.out) (by omega)) (hbb2.trans (hb3.mono hbb2.size))
theorem specExprText_any (w : World) (A : Option Addr) (n c : Nat) (e : List Pt) (h : PS w w.heap.size A n e) (hn : n ≤ 1000000000) (hc : n ≤ c) (hcm : c ≤ maxLen) :
    Calls Try.prog 13 #[.slice A n c] w (TextR w e) := by
  have HH := hide h
  rcases hv : exprB e
  · have HV := Lib.hid hv
    clear hv h
    go_enter Try.func13, Try.ntmps13
    go_wp2_with fail
    refine (specExprValid_any _ _ _ _ e (unhide HH) hn).mono ?_
    rintro r w1 ⟨rfl, hb⟩
    rw [HV.out]
    go_wp2
    go_ret
    exact TextR.bad HV.out hb
  · obtain ⟨t, hg, rfl, hs⟩ := exprB_iff.1 hv
    have HV := Lib.hid hv
    have HN := Lib.hid (show n ≤ 60 by have := h.len; omega)
    clear hv h
    go_enter Try.func13, Try.ntmps13
    go_wp2_with fail
    refine (specExprValid_any w A n c t.flat (unhide HH) hn).mono ?_
    rintro r w1 ⟨rfl, hb⟩
    rw [HV.out]
    go_wp2_with fail
    refine (l4Print_full (l4Print_low t hg) _ _ _ _ 0 0 rfl ((unhide HH).up hb) HN.out hc hcm).mono ?_
    intro r w2 h2
    rw [Ex.br_zero] at h2
    obtain ⟨X, rfl, HX, hX, hb2⟩ := h2
    go_wp2
    go_ret
    exact TextR.of hb hg hs ⟨X, rfl, HX, hX, hb2⟩
end Go.Proofs.Ytglffbkldffipaa
