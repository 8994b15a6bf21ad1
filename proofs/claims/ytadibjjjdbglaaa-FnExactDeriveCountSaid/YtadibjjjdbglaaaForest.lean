/-
  A list of parts, read part by part: the trees that stand behind its first parts. Plain lists.
-/
import Derived.Test.YtadibjjjdbglaaaSimp
import Derived.Test.YtadibjjjdbglaaaPs
namespace Go.Proofs.Ytadibjjjdbglaaa
open Go.RowKit
set_option linter.unusedVariables false

theorem runD_flats (us : List Ex) (h : ∀ t ∈ us, t.good) (d : Int) (hd : 0 ≤ d) : runD (flats us) d = some (d + us.length) := by
  induction us generalizing d with
  | nil => simp [flats, runD]
  | cons t us ih =>
    rw [flats, runD_append, Ex.runD_flat t (h t (by simp)) d hd, Option.bind_some, ih (fun x hx => h x (by simp [hx])) _ (by omega)]
    simp; omega
/-- The trees behind the first parts of a valid list. -/
def Forest (e : List Pt) (k : Nat) (us : List Ex) : Prop := (∀ t ∈ us, t.good) ∧ flats us = e.take k
theorem Forest.nil (e : List Pt) : Forest e 0 [] := ⟨by simp, by simp [flats]⟩
/-- One part more: a leaf, an operation on the last tree, one on the last two. -/
theorem Forest.step {t : Ex} (ht : t.good) {k : Nat} {us : List Ex} (h : Forest t.flat k us) {kd l : Int} (hi : t.flat[k]? = some (kd, l)) :
    (Ex.good (.leaf kd l) ∧ Forest t.flat (k + 1) (us ++ [.leaf kd l])) ∨
    (∃ vs a, us = vs ++ [a] ∧ (kd = 7 ∨ kd = 8) ∧ l = 0 ∧ Forest t.flat (k + 1) (vs ++ [.un kd a])) ∨
    (∃ vs a b, us = vs ++ [a, b] ∧ (kd = 4 ∨ kd = 5 ∨ kd = 6) ∧ l = 0 ∧ Forest t.flat (k + 1) (vs ++ [.bin kd a b])) := by
  obtain ⟨hg, hf⟩ := h
  have hr := runD_flats us hg 0 (Int.le_refl _)
  rw [hf] at hr
  obtain ⟨s1, -⟩ := runD_take_next hi hr
  have hT := Ex.runD_flat t ht 0 (Int.le_refl _)
  have hok : ¬ (pnI kd l < 0 ∨ 0 + (us.length : Int) < pnI kd l) := fun h => by rw [s1 h] at hT; cases hT
  have htk : t.flat.take (k + 1) = t.flat.take k ++ [(kd, l)] := by
    obtain ⟨hlt, he⟩ := List.getElem?_eq_some_iff.1 hi
    rw [List.take_succ_eq_append_getElem hlt, he]
  rcases kind_cases (k := kd) (l := l) (by omega) with ⟨e0, hgl⟩ | ⟨e1, hk, hl⟩ | ⟨e2, hk, hl⟩
  · left
    refine ⟨hgl, ?_, ?_⟩
    · intro x hx
      rcases List.mem_append.1 hx with hx | hx
      · exact hg x hx
      · simp at hx; subst hx; exact hgl
    · rw [flats_append, hf, htk]; simp [flats, Ex.flat]
  · right; left
    have hne : us ≠ [] := by rintro rfl; simp at hok; omega
    obtain ⟨vs, a, rfl⟩ : ∃ vs a, us = vs ++ [a] := ⟨us.dropLast, us.getLast hne, (List.dropLast_concat_getLast hne).symm⟩
    subst hl
    refine ⟨vs, a, rfl, hk, rfl, ?_, ?_⟩
    · intro x hx
      rcases List.mem_append.1 hx with hx | hx
      · exact hg x (by simp [hx])
      · simp at hx; subst hx; exact ⟨hk, hg a (by simp)⟩
    · rw [htk, ← hf, flats_append, flats_append]; simp [flats, Ex.flat]
  · right; right
    have hlen : 2 ≤ us.length := by omega
    have hne : us ≠ [] := by rintro rfl; simp at hlen
    obtain ⟨ts1, b, rfl⟩ : ∃ ts' t, us = ts' ++ [t] := ⟨us.dropLast, us.getLast hne, (List.dropLast_concat_getLast hne).symm⟩
    have hne1 : ts1 ≠ [] := by rintro rfl; simp at hlen
    obtain ⟨vs, a, rfl⟩ : ∃ ts' t, ts1 = ts' ++ [t] := ⟨ts1.dropLast, ts1.getLast hne1, (List.dropLast_concat_getLast hne1).symm⟩
    subst hl
    refine ⟨vs, a, b, by simp, hk, rfl, ?_, ?_⟩
    · intro x hx
      rcases List.mem_append.1 hx with hx | hx
      · exact hg x (by simp [hx])
      · simp at hx; subst hx; exact ⟨hk, hg a (by simp), hg b (by simp)⟩
    · rw [htk, ← hf]; simp [flats_append, flats, Ex.flat]
/-- At the end one tree stands there. -/
theorem Forest.done {t : Ex} (ht : t.good) {us : List Ex} {k : Nat} (hk : t.sz ≤ k) (h : Forest t.flat k us) : us = [t] := by
  obtain ⟨hg, hf⟩ := h
  rw [List.take_of_length_le (by rw [Ex.flat_length]; exact hk)] at hf
  have hr := runD_flats us hg 0 (Int.le_refl _)
  rw [hf, Ex.runD_flat t ht 0 (Int.le_refl _)] at hr
  injection hr with hr
  match us, hr with
  | [u], _ =>
    have : u.flat = t.flat := by simpa [flats] using hf
    rw [Ex.flat_inj (hg u (by simp)) ht this]
  | [], hr => simp at hr
  | u :: v :: r, hr => simp at hr; omega
theorem flats_len (us : List Ex) : us.length ≤ (flats us).length := by
  induction us with
  | nil => exact Nat.le_refl _
  | cons t us ih => have := Ex.sz_pos t; simp only [flats, List.length_append, Ex.flat_length, List.length_cons]; omega
theorem Forest.len {e : List Pt} {k : Nat} {us : List Ex} (h : Forest e k us) : us.length ≤ k := by
  have h1 := flats_len us
  rw [h.2, List.length_take] at h1
  omega
end Go.Proofs.Ytadibjjjdbglaaa
