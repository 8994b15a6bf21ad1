/-
  Texts of expressions: the walks of both printers.
-/
import Derived.Test.YtadibjjjdbglaaaTxt
import Derived.Test.YtadibjjjdbglaaaOpnd
import Derived.Test.YtadibjjjdbglaaaTurn
import Derived.Test.YtadibjjjdbglaaaLists
import Derived.MapKept
import Derived.Test.YtadibjjjdbglaaaWords
namespace Go.Proofs.Ytadibjjjdbglaaa
open Go.RowKit
set_option linter.unusedVariables false
set_option maxRecDepth 100000

/-- A text as a value. -/
abbrev strV (l : List UInt8) : Value := .string ⟨l.toArray⟩
theorem str_brk (l : List UInt8) : (⟨#[40]⟩ : ByteArray) ++ ⟨l.toArray⟩ ++ ⟨#[41]⟩ = ⟨(40 :: (l ++ [41])).toArray⟩ := by
  apply ByteArray.ext; apply Array.ext'; simp [ByteArray.data_append]
theorem str_pre (c : UInt8) (l : List UInt8) : (⟨#[c]⟩ : ByteArray) ++ ⟨l.toArray⟩ = ⟨(c :: l).toArray⟩ := by
  apply ByteArray.ext; apply Array.ext'; simp [ByteArray.data_append]
theorem str_post (c : UInt8) (l : List UInt8) : (⟨l.toArray⟩ : ByteArray) ++ ⟨#[c]⟩ = ⟨(l ++ [c]).toArray⟩ := by
  apply ByteArray.ext; apply Array.ext'; simp [ByteArray.data_append]
/-- What a printer leaves. -/
def PrintD (w : World) (l : List UInt8) (r : Ending) (w' : World) : Prop := ∃ X : ByteArray, r = .returned (.string X) ∧ Hid (X = ⟨l.toArray⟩) ∧ X.size ≤ 250 ∧ Below w.heap.size w w'
theorem PrintD.shut {w w' : World} {l : List UInt8} {X : ByteArray} (h : X = ⟨l.toArray⟩) (hl : l.length ≤ 250) (hb : Below w.heap.size w w') : PrintD w l (.returned (.string X)) w' := by
  refine ⟨X, rfl, Lib.hid h, ?_, hb⟩
  rw [h]; exact hl
theorem Ex.txt_small {t : Ex} (h : t.sz ≤ 60) : t.txt.length ≤ 237 := by have := t.txt_len; omega
theorem Ex.br_small {t : Ex} (h : t.sz ≤ 60) (l : Nat) : (t.br l).length ≤ 239 := by have := t.br_len l; have := Ex.txt_small h; omega
/-- What the text of a list of parts is. -/
def TxR (e : List Pt) (X : ByteArray) : Prop := txtS e X.data.toList ∧ X.size ≤ 250
theorem TxR.uniq {e : List Pt} {X Y : ByteArray} (h : TxR e X) (h' : TxR e Y) : X = Y := ByteArray.ext (Array.ext' (txtS.uniq h.1 h'.1))
def TextR (w : World) (e : List Pt) (r : Ending) (w' : World) : Prop := ∃ X : ByteArray, r = .returned (.string X) ∧ TxR e X ∧ Below w.heap.size w w'
theorem TextR.of {w w1 w' : World} {t : Ex} {r : Ending} (hb : Below w.heap.size w w1) (hg : t.good) (hs : t.sz ≤ 60) (h : PrintD w1 t.txt r w') : TextR w t.flat r w' := by
  obtain ⟨X, rfl, hX, hl, hb1⟩ := h
  exact ⟨X, rfl, ⟨.inr ⟨t, hg, rfl, hs, by rw [hX.out]⟩, hl⟩, hb.trans (hb1.mono hb.size)⟩
theorem TextR.bad {w w' : World} {e : List Pt} (h : exprB e = false) (hb : Below w.heap.size w w') : TextR w e (.returned (.string ⟨#[]⟩)) w' := ⟨⟨#[]⟩, rfl, ⟨.inl ⟨h, rfl⟩, by decide⟩, hb⟩
theorem binding_any (k : Int) (w : World) : Calls Try.prog 93 #[.int .i64 k] w fun e w' => e = .returned (.int .i64 ((levK k : Int) + 1)) ∧ w = w' := by
  by_cases h5 : k = 5
  · subst h5; go_enter Try.func93, Try.ntmps93; go_wp2; go_ret; exact ⟨rfl, rfl⟩
  by_cases h6 : k = 6
  · subst h6; go_enter Try.func93, Try.ntmps93; go_wp2; go_ret; exact ⟨rfl, rfl⟩
  by_cases h4 : k = 4
  · subst h4; go_enter Try.func93, Try.ntmps93; go_wp2; go_ret; exact ⟨rfl, rfl⟩
  by_cases h7 : k = 7
  · subst h7; go_enter Try.func93, Try.ntmps93; go_wp2; go_ret; exact ⟨rfl, rfl⟩
  by_cases h8 : k = 8
  · subst h8; go_enter Try.func93, Try.ntmps93; go_wp2; go_ret; exact ⟨rfl, rfl⟩
  have e5 : (k == 5) = false := by simpa using h5
  have e6 : (k == 6) = false := by simpa using h6
  have e4 : (k == 4) = false := by simpa using h4
  have e7 : (k == 7) = false := by simpa using h7
  have e8 : (k == 8) = false := by simpa using h8
  go_enter Try.func93, Try.ntmps93
  go_wp2
  go_ret
  exact ⟨ret_int (by simp [levK, h4, h5, h6, h7, h8]), rfl⟩
end Go.Proofs.Ytadibjjjdbglaaa
