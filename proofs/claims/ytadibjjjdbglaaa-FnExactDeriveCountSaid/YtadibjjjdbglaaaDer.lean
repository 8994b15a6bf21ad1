/-
  Derived expressions, of any list of parts.
-/
import Derived.Test.YtadibjjjdbglaaaDerS
import Derived.Test.YtadibjjjdbglaaaTurn3
namespace Go.Proofs.Ytadibjjjdbglaaa
open Go.RowKit
set_option linter.unusedVariables false
set_option maxRecDepth 100000

open Classical in
/-- The tree of a valid list of parts. -/
noncomputable def treeOf (e : List Pt) : Option Ex := if h : exprB e = true then some (Classical.choose (exprB_iff.1 h)) else none
theorem treeOf_flat {t : Ex} (hg : t.good) (hs : t.sz ≤ 60) : treeOf t.flat = some t := by
  have h := exprB_flat hg hs
  unfold treeOf
  rw [dif_pos h]
  have h2 := Classical.choose_spec (exprB_iff.1 h)
  rw [Ex.flat_inj h2.1 hg h2.2.1]
theorem treeOf_none {e : List Pt} (h : exprB e = false) : treeOf e = none := by
  unfold treeOf
  rw [dif_neg (by simp [h])]
/-- The derivative by a letter, and whether there is one. -/
noncomputable def derF (lt : Int) (e : List Pt) : Bool × List Pt := match treeOf e with
  | none => (false, [])
  | some t => if inB lt 0 2 = true ∧ (Ex.der lt t).flat.length ≤ 60 then (true, (Ex.der lt t).flat) else (false, [])
theorem derF_none {lt : Int} {e : List Pt} (h : exprB e = false) : derF lt e = (false, []) := by unfold derF; rw [treeOf_none h]
theorem derF_tree {lt : Int} {t : Ex} (hg : t.good) (hs : t.sz ≤ 60) : derF lt t.flat = if inB lt 0 2 = true ∧ (Ex.der lt t).flat.length ≤ 60 then (true, (Ex.der lt t).flat) else (false, []) := by unfold derF; rw [treeOf_flat hg hs]
theorem derF_len (lt : Int) (e : List Pt) : (derF lt e).2.length ≤ 60 := by
  unfold derF
  split
  · simp
  · split
    · rename_i h; exact h.2
    · simp
/-- What a function leaves that returns fresh parts and a truth value. -/
def TupD (w : World) (p : Bool × List Pt) (r : Ending) (w' : World) : Prop := ∃ v, r = .returned (.tuple #[v, .bool p.1]) ∧ w'.ownsRow w.heap.size 45 2 v p.2.length (flatV p.2) ∧ Below w.heap.size w w'
theorem TupD.behind {w w1 w2 : World} {p : Bool × List Pt} {v : Value} (hb : Below w.heap.size w w1) (h : OwnD w1 p.2 (.returned v) w2) : TupD w p (.returned (.tuple #[v, .bool p.1])) w2 := by
  obtain ⟨v', e, h1, h2⟩ := OwnD.behind hb h
  injection e with e
  subst e
  exact ⟨_, rfl, h1, h2⟩
theorem TupD.of {w w1 w2 : World} {p q : Bool × List Pt} {v : Value} (hb : Below w.heap.size w w1) (h : OwnD w1 q.2 (.returned v) w2) (hq : p = q) : TupD w p (.returned (.tuple #[v, .bool q.1])) w2 := by subst hq; exact TupD.behind hb h
theorem TupD.no {w w1 : World} {p : Bool × List Pt} (hb : Below w.heap.size w w1) (hq : p = (false, [])) : TupD w p (.returned (.tuple #[.slice none 0 0, .bool false])) w1 := by subst hq; exact ⟨_, rfl, own_nil _ _ _, hb⟩
theorem TupD.emp {w w1 : World} {p : Bool × List Pt} (hb : Below w.heap.size w w1) (hq : p = (false, [])) : TupD w p (.returned (.tuple #[.slice (some ⟨w1.heap.size, 0, none⟩) 0 0, .bool false])) (w1.alloc (.cells #[] 45)) := by
  subst hq; exact ⟨_, rfl, own_empty _ _ _ hb.size, hb.alloc hb.size _⟩
theorem TupD.behind2 {w w1 w2 : World} {p : Bool × List Pt} {r : Ending} (hb : Below w.heap.size w w1) (h : TupD w1 p r w2) : TupD w p r w2 := by
  obtain ⟨v, rfl, h1, h2⟩ := h
  exact ⟨v, rfl, own_base h1 hb.size, hb.trans (h2.mono hb.size)⟩
theorem TupD.opn {w w' : World} {p : Bool × List Pt} {r : Ending} (h : TupD w p r w') (hl : p.2.length ≤ 1000000000) :
    ∃ A c, r = .returned (.tuple #[.slice A p.2.length c, .bool p.1]) ∧ SL w' w'.heap.size A p.2.length c p.2 ∧ w'.ownsRow w.heap.size 45 2 (.slice A p.2.length c) p.2.length (flatV p.2) ∧ Below w.heap.size w w' := by
  obtain ⟨v, rfl, h1, h2⟩ := h
  obtain ⟨A, c, hv, hs⟩ := SL_own h1 (by unfold maxLen; omega)
  subst hv
  exact ⟨A, c, rfl, hs, h1, h2⟩
set_option maxHeartbeats 800000 in
theorem specDerive_all (lt : Int) (w : World) (A : Option Addr) (n c : Nat) (e : List Pt) (h : PS w w.heap.size A n e) (hn : n ≤ 1000000000) (hc : n ≤ c) (hcm : c ≤ maxLen) :
    Calls Try.prog 33 #[.slice A n c, .int .i64 lt] w (TupD w (derF lt e)) := by
  have HH := hide h
  rcases hv : exprB e
  · have HV := Lib.hid hv
    clear hv h
    go_enter Try.func33, Try.ntmps33
    go_wp2_with fail
    refine (specExprValid_any _ _ _ _ e (unhide HH) hn).mono ?_
    rintro r w1 ⟨rfl, hb⟩
    rw [HV.out]
    go_wp2
    refine bodyPost_ret (v := .tuple #[.slice (some ⟨w1.heap.size, 0, none⟩) 0 0, .bool false]) (by simp [results, Try.results33, go_sem]) rfl ?_
    exact TupD.emp hb (derF_none HV.out)
  · obtain ⟨t, hg, rfl, hs⟩ := exprB_iff.1 hv
    have HV := Lib.hid hv
    have HF := Lib.hid (derF_tree (lt := lt) hg hs)
    have HLEN := Lib.hid h.len
    clear hv h
    rcases hi : inB lt 0 2
    · have HI := Lib.hid hi
      go_enter Try.func33, Try.ntmps33
      go_wp2_with fail
      refine (specExprValid_any w A n c t.flat (unhide HH) hn).mono ?_
      rintro r w1 ⟨rfl, hb⟩
      rw [HV.out]
      go_wp2_with (go_at_call 64; refine (l1In_any _ _ _ _).mono ?_; rintro e w' ⟨rfl, rfl⟩)
      refine bodyPost_ret (v := .tuple #[.slice (some ⟨w1.heap.size, 0, none⟩) 0 0, .bool false]) (by simp [results, Try.results33, go_sem]) rfl ?_
      exact TupD.emp hb (by rw [HF.out, HI.out]; simp)
    · have HI := Lib.hid hi
      go_enter Try.func33, Try.ntmps33
      go_wp2_with fail
      refine (specExprValid_any w A n c t.flat (unhide HH) hn).mono ?_
      rintro r w1 ⟨rfl, hb⟩
      rw [HV.out]
      go_wp2_with (go_at_call 64; refine (l1In_any _ _ _ _).mono ?_; rintro e w' ⟨rfl, rfl⟩)
      refine (l6Derive_any lt t _ _ _ _ hg ((unhide HH).up hb) (by rw [HLEN.out]; exact hs) hc hcm).mono ?_
      intro r w2 hd
      have hl3 := der_len lt t hs
      obtain ⟨A2, c2, rfl, hsl, hown, hb2⟩ := hd.sl (by omega)
      have HO := hide hown
      clear hd hsl hown
      by_cases h60 : (Ex.der lt t).flat.length ≤ 60
      · have HR := Lib.hid (show derF lt t.flat = (true, (Ex.der lt t).flat) by rw [HF.out, if_pos ⟨HI.out, h60⟩])
        generalize (Ex.der lt t).flat = x at *
        go_wp2
        refine bodyPost_ret (v := .tuple #[.slice A2 x.length c2, .bool true]) (by simp [results, Try.results33, go_sem]) rfl ?_
        exact TupD.of (q := (true, x)) hb ⟨_, rfl, unhide HO, hb2⟩ HR.out
      · have HR := Lib.hid (show derF lt t.flat = (false, []) by rw [HF.out, if_neg (fun h => h60 h.2)])
        generalize (Ex.der lt t).flat = x at *
        go_wp2
        refine bodyPost_ret (v := .tuple #[.slice (some ⟨w2.heap.size, 0, none⟩) 0 0, .bool false]) (by simp [results, Try.results33, go_sem]) rfl ?_
        exact TupD.emp (hb.trans (hb2.mono hb.size)) HR.out
set_option maxHeartbeats 800000 in
theorem implDerive_all (lt : Int) (w : World) (A : Option Addr) (n c : Nat) (e : List Pt) (h : SL w w.heap.size A n c e) (hn : n ≤ 1000000000) :
    Calls Try.prog 32 #[.slice A n c, .int .i64 lt] w (TupD w (derF lt e)) := by
  have HH := hide h
  rcases hv : exprB e
  · have HV := Lib.hid hv
    clear hv h
    go_enter Try.func32, Try.ntmps32
    go_wp2_with fail
    refine (implExprValid_any _ _ _ _ e (unhide HH).1).mono ?_
    rintro r w1 ⟨rfl, hb⟩
    rw [HV.out]
    go_wp2
    refine bodyPost_ret (v := .tuple #[.slice none 0 0, .bool false]) (by simp [results, Try.results32, go_sem]) rfl ?_
    exact TupD.no hb (derF_none HV.out)
  · obtain ⟨t, hg, rfl, hs⟩ := exprB_iff.1 hv
    have HV := Lib.hid hv
    have HF := Lib.hid (derF_tree (lt := lt) hg hs)
    have HLEN := Lib.hid h.1.len
    clear hv h
    rcases hi : inB lt 0 2
    · have HI := Lib.hid hi
      go_enter Try.func32, Try.ntmps32
      go_wp2_with fail
      refine (implExprValid_any w A n c t.flat (unhide HH).1).mono ?_
      rintro r w1 ⟨rfl, hb⟩
      rw [HV.out]
      go_wp2_with (go_at_call 71; refine (isLetter_any _ _).mono ?_; rintro e w' ⟨rfl, rfl⟩)
      refine bodyPost_ret (v := .tuple #[.slice none 0 0, .bool false]) (by simp [results, Try.results32, go_sem]) rfl ?_
      exact TupD.no hb (by rw [HF.out, HI.out]; simp)
    · have HI := Lib.hid hi
      go_enter Try.func32, Try.ntmps32
      go_wp2_with fail
      refine (implExprValid_any w A n c t.flat (unhide HH).1).mono ?_
      rintro r w1 ⟨rfl, hb⟩
      rw [HV.out]
      go_wp2_with (go_at_call 71; refine (isLetter_any _ _).mono ?_; rintro e w' ⟨rfl, rfl⟩)
      refine (derived_any lt t _ _ _ _ hg ((unhide HH).up hb) (by rw [HLEN.out]; exact hs)).mono ?_
      intro r w2 hd
      have hl3 := der_len lt t hs
      obtain ⟨A2, n2, c2, rfl, hsl, hb2⟩ := hd.opn
      have HN2 := Lib.hid hsl.1.1
      have HO := hide hsl
      have hbb := hb.trans (hb2.mono hb.size)
      clear hd hsl
      by_cases h60 : (Ex.der lt t).flat.length ≤ 60
      · have HR := Lib.hid (show derF lt t.flat = (true, (Ex.der lt t).flat) by rw [HF.out, if_pos ⟨HI.out, h60⟩])
        generalize (Ex.der lt t).flat = x at *
        have hn60 : (n2 : Int) ≤ 60 := by have := HN2.out; omega
        go_wp2_with fail
        refine (clone_any _ _ _ _ _ (unhide HO) (by have := HN2.out; omega)).mono ?_
        rintro r w3 ⟨v, rfl, h1, h2⟩
        go_wp2
        refine bodyPost_ret (v := .tuple #[v, .bool true]) (by simp [results, Try.results32, go_sem]) rfl ?_
        exact TupD.of (q := (true, x)) hbb ⟨_, rfl, h1, h2⟩ HR.out
      · have HR := Lib.hid (show derF lt t.flat = (false, []) by rw [HF.out, if_neg (fun h => h60 h.2)])
        generalize (Ex.der lt t).flat = x at *
        have hn60 : ¬ (n2 : Int) ≤ 60 := by have := HN2.out; omega
        go_wp2
        refine bodyPost_ret (v := .tuple #[.slice none 0 0, .bool false]) (by simp [results, Try.results32, go_sem]) rfl ?_
        exact TupD.no hbb HR.out
end Go.Proofs.Ytadibjjjdbglaaa
