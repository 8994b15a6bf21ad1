/-
  Texts of expressions: they have no fault. Plain.
-/
import Derived.Test.YtglffbkldffipaaTxt
import Derived.Test.YtglffbkldffipaaFault
namespace Go.Proofs.Ytglffbkldffipaa
open Go.RowKit
set_option linter.unusedVariables false

/-- A text and what it reads as. -/
def ReadR (s : List UInt8) (e : List Pt) (b : Bool) : Prop :=
  (b = true ∧ s.length ≤ 120 ∧ ∃ t : Ex, t.good ∧ t.flat = e ∧ t.sz ≤ 60 ∧ s = t.txt) ∨
  (b = false ∧ e = [] ∧ ¬ (s.length ≤ 120 ∧ ∃ t : Ex, t.good ∧ t.sz ≤ 60 ∧ s = t.txt))
theorem ReadR.uniq {s : List UInt8} {e e' : List Pt} {b b' : Bool} (h : ReadR s e b) (h' : ReadR s e' b') : e = e' ∧ b = b' := by
  rcases h with ⟨rfl, hl, t, hg, rfl, hs, ht⟩ | ⟨rfl, rfl, hn⟩
  · rcases h' with ⟨rfl, -, u, hg', rfl, hs', hu⟩ | ⟨rfl, rfl, hn⟩
    · exact ⟨txt_inj hg hg' (ht.symm.trans hu), rfl⟩
    · exact absurd ⟨hl, t, hg, hs, ht⟩ hn
  · rcases h' with ⟨rfl, hl, u, hg', rfl, hs', hu⟩ | ⟨rfl, rfl, -⟩
    · exact absurd ⟨hl, u, hg', hs', hu⟩ hn
    · exact ⟨rfl, rfl⟩
theorem ReadR.len {s : List UInt8} {e : List Pt} {b : Bool} (h : ReadR s e b) : e.length ≤ 60 := by
  rcases h with ⟨-, -, t, -, rfl, hs, -⟩ | ⟨-, rfl, -⟩
  · rw [Ex.flat_length]; exact hs
  · simp

/-- A printed tree has no fault: it leaves the open brackets as they are, and an operand behind it. -/
theorem fault_brk {l : List UInt8} (h : ∀ q o r, 0 ≤ o → faultT (l ++ q) o r = l.length + faultT q o true) (b : Bool) : ∀ q o r, 0 ≤ o → faultT (brk b l ++ q) o r = (brk b l).length + faultT q o true := by
  intro q o r ho
  unfold brk
  split
  · rw [List.cons_append, List.append_assoc, faultT, show stepT o r ((40 : UInt8).toNat : Int) = some (o + 1, false) from rfl]
    simp only
    rw [h _ _ _ (by omega), List.singleton_append, faultT]
    have e : stepT (o + 1) true ((41 : UInt8).toNat : Int) = some (o, true) := by
      show stepT (o + 1) true 41 = _
      unfold stepT
      rw [if_neg (by decide), if_neg (by decide), if_neg (by decide), if_neg (by decide), if_neg (by decide), if_neg (by decide), if_pos ⟨rfl, by omega⟩]
      congr 2; omega
    rw [e]
    simp only [List.length_cons, List.length_append, List.length_nil]
    omega
  · exact h q o r ho
theorem fault_txt (t : Ex) (hg : t.good) : ∀ q o r, 0 ≤ o → faultT (t.txt ++ q) o r = t.txt.length + faultT q o true := by
  induction t with
  | leaf k l =>
    intro q o r ho
    rw [Ex.txt, List.singleton_append, faultT]
    have e : stepT o r ((leafC k l).toNat : Int) = some (o, true) := by
      rcases hg with ⟨h | h, hl⟩ | ⟨h, h1, h2⟩
      · subst h; rfl
      · subst h; rfl
      · subst h
        rcases (show l = 0 ∨ l = 1 ∨ l = 2 by omega) with rfl | rfl | rfl <;> rfl
    rw [e]; simp
  | un k a ih =>
    intro q o r ho
    rcases hg.1 with rfl | rfl
    · rw [Ex.txt_un7, List.cons_append, faultT, show stepT o r ((33 : UInt8).toNat : Int) = some (o, false) from rfl]
      simp only
      rw [Ex.br, fault_brk (ih hg.2) _ _ _ _ ho]
      simp only [List.length_cons]; omega
    · rw [Ex.txt_un8, List.append_assoc, Ex.br, fault_brk (ih hg.2) _ _ _ _ ho, List.singleton_append, faultT, show stepT o true ((42 : UInt8).toNat : Int) = some (o, true) from rfl]
      simp only [List.length_append, List.length_singleton]; omega
  | bin k a b iha ihb =>
    intro q o r ho
    rw [Ex.txt_bin, List.append_assoc, List.append_assoc, Ex.br, fault_brk (iha hg.2.1) _ _ _ _ ho]
    have e : ∀ r', faultT (b.br (levK k + 1) ++ q) o r' = (b.br (levK k + 1)).length + faultT q o true := fun r' => by
      rw [Ex.br, fault_brk (ihb hg.2.2) _ _ _ _ ho]
    rcases hg.1 with rfl | rfl | rfl
    · rw [show signT 4 = [] from rfl, List.nil_append, e]
      simp only [List.length_append, List.length_nil]; omega
    · rw [show signT 5 = [124] from rfl, List.singleton_append, faultT, show stepT o true ((124 : UInt8).toNat : Int) = some (o, false) from rfl]
      simp only
      rw [e]
      simp only [List.length_append, List.length_singleton]; omega
    · rw [show signT 6 = [38] from rfl, List.singleton_append, faultT, show stepT o true ((38 : UInt8).toNat : Int) = some (o, false) from rfl]
      simp only
      rw [e]
      simp only [List.length_append, List.length_singleton]; omega
theorem fault_whole {t : Ex} (hg : t.good) (h : t.txt.length ≤ 120) : faultI t.txt = t.txt.length := by
  have h1 := fault_txt t hg [] 0 false (Int.le_refl _)
  rw [List.append_nil] at h1
  rw [faultI, if_neg (by omega), h1, faultT]; omega
/-- A fault's place hangs on what stands before it alone. -/
theorem fault_take (l : List UInt8) (m : Nat) (o : Int) (r : Bool) : faultT (l.take m) o r = min (faultT l o r) (m : Int) := by
  induction l generalizing m o r with
  | nil => simp [faultT]; omega
  | cons c l ih =>
    cases m with
    | zero =>
      have := (faultT_bd (c :: l) o r).1
      show (0 : Int) = min (faultT (c :: l) o r) ((0 : Nat) : Int)
      omega
    | succ m =>
      rw [List.take_succ_cons, faultT, faultT]
      split
      · rw [ih]; omega
      · omega
theorem fault_append (l x : List UInt8) (o : Int) (r : Bool) (h : faultT l o r < l.length) : faultT (l ++ x) o r = faultT l o r := by
  have h1 := fault_take (l ++ x) l.length o r
  rw [List.take_left'] at h1
  · omega
  · rfl
theorem faultI_small {l : List UInt8} (h : l.length ≤ 120) : faultI l = faultT l 0 false := by rw [faultI, if_neg (by omega)]
theorem faultI_bd {l : List UInt8} (h : l.length ≤ 120) : 0 ≤ faultI l ∧ faultI l ≤ l.length := by
  rw [faultI_small h]; exact faultT_bd l 0 false
/-- The law on faults, in plain words. -/
theorem fault_law {l : List UInt8} (h : l.length ≤ 110) {n : Nat} (hn : faultI l = n) :
    n ≤ l.length ∧ faultI (l.take n) = n ∧ (n ≠ l.length → faultI (l ++ [97]) = n ∧ faultI (l.take (n + 1)) = n ∧ ∀ e b, ReadR l e b → b = false) := by
  have hb := faultI_bd (l := l) (by omega)
  have hle : n ≤ l.length := by omega
  rw [faultI_small (by omega)] at hn
  refine ⟨hle, ?_, fun hne => ⟨?_, ?_, ?_⟩⟩
  · rw [faultI_small (by rw [List.length_take]; omega), fault_take, hn]; omega
  · rw [faultI_small (by simp; omega), fault_append _ _ _ _ (by omega), hn]
  · rw [faultI_small (by rw [List.length_take]; omega), fault_take, hn]; omega
  · rintro e b (⟨-, -, t, hg, -, -, rfl⟩ | ⟨hb, -⟩)
    · have := fault_whole hg (by omega)
      rw [faultI_small (by omega), hn] at this
      exact absurd (by omega) hne
    · exact hb
/-- In further brackets an accepted text is refused. -/
theorem read_brk {t : Ex} (hg : t.good) {e : List Pt} {b : Bool} (h : ReadR (40 :: (t.txt ++ [41])) e b) : b = false := by
  rcases h with ⟨-, -, u, hgu, -, -, hu⟩ | ⟨h, -⟩
  · exfalso
    have h1 := rd_bracketed begC_ok hg (f := needR (t.txt.length + 2) 0) (Nat.le_refl _)
    have h2 := rd_whole begC_ok hgu (f := needR (t.txt.length + 2) 0) (by rw [← hu]; simp)
    rw [hu, h2] at h1
    injection h1 with h1
    injection h1 with h1 _
    have e : t = u := Ex.flat_inj hg hgu h1.symm
    subst e
    have := congrArg List.length hu
    simp at this
    omega
  · exact h
end Go.Proofs.Ytglffbkldffipaa
