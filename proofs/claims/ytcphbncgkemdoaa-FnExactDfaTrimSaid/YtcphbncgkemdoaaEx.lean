/-
  Plain functions on expressions: lists of parts; a list is valid exactly if it is the list of a tree.
-/
import Derived.Test.YtcphbncgkemdoaaParts
namespace Go.Proofs.Ytcphbncgkemdoaa
open Go.RowKit
set_option linter.unusedVariables false

abbrev Pt := Int × Int
/-- How many whole expressions stand behind a list of parts, if d stood there before it. -/
def runD : List Pt → Int → Option Int
  | [], d => some d
  | p :: r, d => if pnI p.1 p.2 < 0 ∨ d < pnI p.1 p.2 then none else runD r (d - pnI p.1 p.2 + 1)
def exprB (e : List Pt) : Bool := decide ((e.length : Int) ≤ 60) && decide (runD e 0 = some 1)
theorem runD_append (a b : List Pt) (d : Int) : runD (a ++ b) d = (runD a d).bind (runD b) := by
  induction a generalizing d with
  | nil => rfl
  | cons p a ih =>
    simp only [List.cons_append, runD]
    split
    · rfl
    · rw [ih]

/-- A tree: a leaf with its part, an operation with one operand, one with two. -/
inductive Ex where
  | leaf (k l : Int)
  | un (k : Int) (a : Ex)
  | bin (k : Int) (a b : Ex)
namespace Ex
def flat : Ex → List Pt
  | leaf k l => [(k, l)]
  | un k a => a.flat ++ [(k, 0)]
  | bin k a b => a.flat ++ b.flat ++ [(k, 0)]
/-- The kinds fit. -/
def good : Ex → Prop
  | leaf k l => ((k = 1 ∨ k = 2) ∧ l = 0) ∨ (k = 3 ∧ 0 ≤ l ∧ l ≤ 2)
  | un k a => (k = 7 ∨ k = 8) ∧ a.good
  | bin k a b => (k = 4 ∨ k = 5 ∨ k = 6) ∧ a.good ∧ b.good
def sz : Ex → Nat
  | leaf _ _ => 1
  | un _ a => a.sz + 1
  | bin _ a b => a.sz + b.sz + 1
theorem flat_length (t : Ex) : t.flat.length = t.sz := by
  induction t with
  | leaf k l => rfl
  | un k a ih => simp [flat, sz, ih]
  | bin k a b iha ihb => simp [flat, sz, iha, ihb]; omega
theorem sz_pos (t : Ex) : 0 < t.sz := by cases t <;> simp [sz]
theorem pn_leaf {k l : Int} (h : good (leaf k l)) : pnI k l = 0 := by
  rcases h with ⟨h | h, hl⟩ | ⟨h, h1, h2⟩
  · subst h hl; decide
  · subst h hl; decide
  · subst h
    have : l = 0 ∨ l = 1 ∨ l = 2 := by omega
    rcases this with rfl | rfl | rfl <;> decide
theorem pn_un {k : Int} (h : k = 7 ∨ k = 8) : pnI k 0 = 1 := by rcases h with rfl | rfl <;> decide
theorem pn_bin {k : Int} (h : k = 4 ∨ k = 5 ∨ k = 6) : pnI k 0 = 2 := by rcases h with rfl | rfl | rfl <;> decide
/-- Behind a tree one expression more stands there. -/
theorem runD_flat (t : Ex) (h : t.good) (d : Int) (hd : 0 ≤ d) : runD t.flat d = some (d + 1) := by
  induction t generalizing d with
  | leaf k l => simp [flat, runD, pn_leaf h]; omega
  | un k a ih =>
    rw [flat, runD_append, ih h.2 d hd]
    simp [runD, pn_un h.1]; omega
  | bin k a b iha ihb =>
    rw [flat, runD_append, runD_append, iha h.2.1 d hd]
    show ((some (d + 1)).bind (runD b.flat)).bind _ = _
    rw [Option.bind_some, ihb h.2.2 (d + 1) (by omega)]
    simp [runD, pn_bin h.1]; omega
/-- The kind of the last part. -/
def kind : Ex → Int
  | leaf k _ => k
  | un k _ => k
  | bin k _ _ => k
def lett : Ex → Int
  | leaf _ l => l
  | _ => 0
theorem last_flat (t : Ex) : t.flat.getLast? = some (t.kind, t.lett) := by
  cases t <;> simp [flat, kind, lett]
end Ex

/-- A list of trees, one behind the other. -/
def flats : List Ex → List Pt
  | [] => []
  | t :: ts => t.flat ++ flats ts
theorem flats_append (a b : List Ex) : flats (a ++ b) = flats a ++ flats b := by
  induction a with
  | nil => rfl
  | cons t a ih => simp [flats, ih]
theorem kind_cases {k l : Int} (h : 0 ≤ pnI k l) : (pnI k l = 0 ∧ Ex.good (.leaf k l)) ∨ (pnI k l = 1 ∧ (k = 7 ∨ k = 8) ∧ l = 0) ∨ (pnI k l = 2 ∧ (k = 4 ∨ k = 5 ∨ k = 6) ∧ l = 0) := by
  have hv : pvB k l = true := by
    cases hv : pvB k l with
    | true => rfl
    | false => simp [pnI, hv] at h
  have hk := pvB_kind hv
  have e : pnI k l = needN k := by simp [pnI, hv]
  rw [e]
  rw [pvB, Bool.and_eq_true] at hv
  have hl := hv.2
  have h8 : k = 1 ∨ k = 2 ∨ k = 3 ∨ k = 4 ∨ k = 5 ∨ k = 6 ∨ k = 7 ∨ k = 8 := by omega
  rcases h8 with rfl | rfl | rfl | rfl | rfl | rfl | rfl | rfl
  · exact .inl ⟨by decide, .inl ⟨.inl rfl, by simpa using hl⟩⟩
  · exact .inl ⟨by decide, .inl ⟨.inr rfl, by simpa using hl⟩⟩
  · exact .inl ⟨by decide, .inr ⟨rfl, inB_true.1 (by simpa using hl)⟩⟩
  · exact .inr (.inr ⟨by decide, .inl rfl, by simpa using hl⟩)
  · exact .inr (.inr ⟨by decide, .inr (.inl rfl), by simpa using hl⟩)
  · exact .inr (.inr ⟨by decide, .inr (.inr rfl), by simpa using hl⟩)
  · exact .inr (.inl ⟨by decide, .inl rfl, by simpa using hl⟩)
  · exact .inr (.inl ⟨by decide, .inr rfl, by simpa using hl⟩)
/-- A run that begins behind some trees and does not fail ends behind trees. -/
theorem run_trees (e : List Pt) (ts : List Ex) (hts : ∀ t ∈ ts, t.good) (d : Int) (h : runD e ts.length = some d) :
    ∃ us : List Ex, (us.length : Int) = d ∧ (∀ t ∈ us, t.good) ∧ flats us = flats ts ++ e := by
  induction e generalizing ts with
  | nil => exact ⟨ts, by simpa [runD] using h, hts, by simp⟩
  | cons p e ih =>
    rw [runD] at h
    split at h
    · cases h
    · rename_i hn
      have hp : 0 ≤ pnI p.1 p.2 := by omega
      obtain ⟨k, l⟩ := p
      rcases kind_cases hp with ⟨e0, hg⟩ | ⟨e1, hk, hl⟩ | ⟨e2, hk, hl⟩
      · simp only at e0 hg h
        rw [e0] at h
        obtain ⟨us, h1, h2, h3⟩ := ih (ts ++ [.leaf k l]) (by
          intro x hx
          rcases List.mem_append.1 hx with hx | hx
          · exact hts x hx
          · simp at hx; subst hx; exact hg) (by simpa using h)
        exact ⟨us, h1, h2, by rw [h3, flats_append]; simp [flats, Ex.flat]⟩
      · simp only at e1 hk hl h hn
        subst hl
        rw [e1] at h hn
        have hne : ts ≠ [] := by rintro rfl; simp at hn
        obtain ⟨ts', t, rfl⟩ : ∃ ts' t, ts = ts' ++ [t] := ⟨ts.dropLast, ts.getLast hne, (List.dropLast_concat_getLast hne).symm⟩
        have hg : t.good := hts t (by simp)
        obtain ⟨us, h1, h2, h3⟩ := ih (ts' ++ [.un k t]) (by
          intro x hx
          rcases List.mem_append.1 hx with hx | hx
          · exact hts x (by simp [hx])
          · simp at hx; subst hx; exact ⟨hk, hg⟩) (by simpa using h)
        exact ⟨us, h1, h2, by rw [h3, flats_append, flats_append]; simp [flats, Ex.flat]⟩
      · simp only at e2 hk hl h hn
        subst hl
        rw [e2] at h hn
        have hlen : 2 ≤ ts.length := by omega
        have hne : ts ≠ [] := by rintro rfl; simp at hlen
        obtain ⟨ts1, b, rfl⟩ : ∃ ts' t, ts = ts' ++ [t] := ⟨ts.dropLast, ts.getLast hne, (List.dropLast_concat_getLast hne).symm⟩
        have hne1 : ts1 ≠ [] := by rintro rfl; simp at hlen
        obtain ⟨ts2, a, rfl⟩ : ∃ ts' t, ts1 = ts' ++ [t] := ⟨ts1.dropLast, ts1.getLast hne1, (List.dropLast_concat_getLast hne1).symm⟩
        have ha : a.good := hts a (by simp)
        have hb : b.good := hts b (by simp)
        obtain ⟨us, h1, h2, h3⟩ := ih (ts2 ++ [.bin k a b]) (by
          intro x hx
          rcases List.mem_append.1 hx with hx | hx
          · exact hts x (by simp [hx])
          · simp at hx; subst hx; exact ⟨hk, ha, hb⟩) (by
            have e : (((ts2 ++ [Ex.bin k a b]).length : Nat) : Int) = (((ts2 ++ [a] ++ [b]).length : Nat) : Int) - 2 + 1 := by simp <;> omega
            rw [e]; exact h)
        exact ⟨us, h1, h2, by rw [h3]; simp [flats_append, flats, Ex.flat]⟩
/-- A valid list of parts is the list of a tree. -/
theorem exprB_iff {e : List Pt} : exprB e = true ↔ ∃ t : Ex, t.good ∧ t.flat = e ∧ t.sz ≤ 60 := by
  constructor
  · intro h
    rw [exprB, Bool.and_eq_true, decide_eq_true_eq, decide_eq_true_eq] at h
    obtain ⟨us, h1, h2, h3⟩ := run_trees e [] (by simp) 1 (by simpa using h.2)
    match us, h1 with
    | [t], _ =>
      have e' : t.flat = e := by simpa [flats] using h3
      refine ⟨t, h2 t (by simp), e', ?_⟩
      rw [← Ex.flat_length, e']; omega
  · rintro ⟨t, hg, rfl, hs⟩
    have := Ex.runD_flat t hg 0 (Int.le_refl _)
    rw [exprB, this, Ex.flat_length]
    simp; omega

/-- Where the expression that ends with each part begins: by the stack of beginnings. -/
def needT (p : Pt) : Nat := (pnI p.1 p.2).toNat
def outB (p : Pt) (i : Int) (st : List Int) : Int := if needT p = 0 then i else st.getD (st.length - needT p) 0
def stB (p : Pt) (i : Int) (st : List Int) : List Int := st.take (st.length - needT p) ++ [outB p i st]
def begs : List Pt → Int → List Int → List Int
  | [], _, _ => []
  | p :: r, i, st => outB p i st :: begs r (i + 1) (stB p i st)
def stacks : List Pt → Int → List Int → List Int
  | [], _, st => st
  | p :: r, i, st => stacks r (i + 1) (stB p i st)
theorem begs_append (a b : List Pt) (i : Int) (st : List Int) : begs (a ++ b) i st = begs a i st ++ begs b (i + a.length) (stacks a i st) := by
  induction a generalizing i st with
  | nil => simp [begs, stacks]
  | cons p a ih => simp [begs, stacks, ih]; congr 1; omega
theorem stacks_append (a b : List Pt) (i : Int) (st : List Int) : stacks (a ++ b) i st = stacks b (i + a.length) (stacks a i st) := by
  induction a generalizing i st with
  | nil => simp [stacks]
  | cons p a ih => simp [stacks, ih]; congr 1; omega
theorem begs_length (a : List Pt) (i : Int) (st : List Int) : (begs a i st).length = a.length := by
  induction a generalizing i st with
  | nil => rfl
  | cons p a ih => simp [begs, ih]
theorem begs_flat (t : Ex) (h : t.good) (i : Int) (st : List Int) : stacks t.flat i st = st ++ [i] ∧ (begs t.flat i st).getLast? = some i := by
  induction t generalizing i st with
  | leaf k l =>
    have e : needT (k, l) = 0 := by simp [needT, Ex.pn_leaf h]
    simp [Ex.flat, stacks, begs, stB, outB, e]
  | un k a ih =>
    obtain ⟨h1, h2⟩ := ih h.2 i st
    have e : needT (k, 0) = 1 := by simp [needT, Ex.pn_un h.1]
    rw [Ex.flat, stacks_append, begs_append, h1]
    simp [stacks, begs, stB, outB, e]
  | bin k a b iha ihb =>
    obtain ⟨h1, h2⟩ := iha h.2.1 i st
    obtain ⟨h3, h4⟩ := ihb h.2.2 (i + a.flat.length) (st ++ [i])
    have e : needT (k, 0) = 2 := by simp [needT, Ex.pn_bin h.1]
    rw [Ex.flat, stacks_append, begs_append, stacks_append, h1, h3]
    simp [stacks, begs, stB, outB, e]
/-- The middle of an operation with two operands. -/
theorem begs_middle {k : Int} {a b : Ex} (h : Ex.good (.bin k a b)) : (begs (Ex.flat (.bin k a b)) 0 []).getD (a.sz + b.sz - 1) 0 = a.sz := by
  obtain ⟨h1, -⟩ := begs_flat a h.2.1 0 []
  obtain ⟨-, h4⟩ := begs_flat b h.2.2 (0 + a.flat.length) (stacks a.flat 0 [])
  have hp := Ex.sz_pos b
  have hla : (begs a.flat 0 []).length = a.sz := by rw [begs_length, Ex.flat_length]
  have hlb : (begs b.flat (0 + a.flat.length) (stacks a.flat 0 [])).length = b.sz := by rw [begs_length, Ex.flat_length]
  rw [Ex.flat, begs_append, begs_append]
  rw [List.getLast?_eq_getElem?, hlb] at h4
  have e1 : a.sz + b.sz - 1 = a.sz + (b.sz - 1) := by omega
  rw [e1, List.getD_eq_getElem?_getD, List.getElem?_append_left (by rw [List.length_append, hla, hlb]; omega), List.getElem?_append_right (by omega), hla]
  rw [show a.sz + (b.sz - 1) - a.sz = b.sz - 1 from by omega, h4]
  simp [Ex.flat_length]
end Go.Proofs.Ytcphbncgkemdoaa
