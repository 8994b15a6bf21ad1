/-
  The language of a tree: plain functions on lists of bytes, no program in sight.
-/
import Derived.Test.YtgcggmlekmjpdaaEx
namespace Go.Proofs.Ytgcggmlekmjpdaa
open Go.RowKit
set_option linter.unusedVariables false

/-- Some place between i and j divides. -/
def joinB (f g : Nat → Nat → Bool) (i j : Nat) : Bool := (List.range (j + 1)).any fun m => decide (i ≤ m) && (f i m && g m j)
/-- At most n steps, one behind the other. -/
def starN (f : Nat → Nat → Bool) : Nat → Nat → Nat → Bool
  | 0, i, j => decide (i = j)
  | n + 1, i, j => starN f n i j || joinB (starN f n) f i j
theorem joinB_iff {f g : Nat → Nat → Bool} {i j : Nat} : joinB f g i j = true ↔ ∃ m, i ≤ m ∧ m ≤ j ∧ f i m = true ∧ g m j = true := by
  simp only [joinB, List.any_eq_true, List.mem_range, Bool.and_eq_true, decide_eq_true_eq]
  constructor
  · rintro ⟨m, h1, h2, h3, h4⟩; exact ⟨m, h2, by omega, h3, h4⟩
  · rintro ⟨m, h1, h2, h3, h4⟩; exact ⟨m, by omega, h1, h3, h4⟩
/-- A byte is the letter l. -/
def letAt (s : List UInt8) (i : Nat) (l : Int) : Bool := match s[i]? with
  | some c => decide (digI c = l)
  | none => false
namespace Ex
/-- Whether the letters between two places are in the language. -/
def sp (s : List UInt8) : Ex → Nat → Nat → Bool
  | leaf k l, i, j => if k = 1 then false else if k = 2 then decide (i = j) else decide (j = i + 1) && letAt s i l
  | un k a, i, j => if k = 7 then !(a.sp s i j) else starN (a.sp s) s.length i j
  | bin k a b, i, j => if k = 4 then joinB (a.sp s) (b.sp s) i j else if k = 5 then a.sp s i j || b.sp s i j else a.sp s i j && b.sp s i j
def acc (t : Ex) (s : List UInt8) : Bool := t.sp s 0 s.length
end Ex

/-- Any number of words, one behind the other. -/
inductive StarL (P : List UInt8 → Prop) : List UInt8 → Prop
  | nil : StarL P []
  | app {u v : List UInt8} : P u → StarL P v → StarL P (u ++ v)
namespace Ex
/-- The language. -/
def L : Ex → List UInt8 → Prop
  | leaf k l, w => if k = 1 then False else if k = 2 then w = [] else ∃ c, w = [c] ∧ digI c = l
  | un k a, w => if k = 7 then ¬ a.L w else StarL a.L w
  | bin k a b, w => if k = 4 then ∃ u v, w = u ++ v ∧ a.L u ∧ b.L v else if k = 5 then a.L w ∨ b.L w else a.L w ∧ b.L w
end Ex
/-- The letters between two places. -/
def cut (s : List UInt8) (i j : Nat) : List UInt8 := (s.take j).drop i
theorem cut_len {s : List UInt8} {i j : Nat} (h : j ≤ s.length) : (cut s i j).length = j - i := by
  simp [cut]; omega
theorem cut_nil (s : List UInt8) (i : Nat) : cut s i i = [] := by
  rw [cut]; apply List.drop_eq_nil_of_le; rw [List.length_take]; omega
theorem cut_all (s : List UInt8) : cut s 0 s.length = s := by simp [cut]
theorem cut_app {s : List UInt8} {i m j : Nat} (h1 : i ≤ m) (h2 : m ≤ j) (h3 : j ≤ s.length) : cut s i j = cut s i m ++ cut s m j := by
  unfold cut
  have e1 : (s.take j).take m = s.take m := by rw [List.take_take, Nat.min_eq_left h2]
  have e2 : (s.take j).drop i = ((s.take j).drop i).take (m - i) ++ ((s.take j).drop i).drop (m - i) := (List.take_append_drop _ _).symm
  rw [e2, List.take_drop, List.drop_drop]
  rw [show i + (m - i) = m from by omega, e1]
theorem cut_split {s u v : List UInt8} {i j : Nat} (hij : i ≤ j) (hj : j ≤ s.length) (h : cut s i j = u ++ v) : ∃ m, i ≤ m ∧ m ≤ j ∧ u = cut s i m ∧ v = cut s m j := by
  have hl := cut_len (s := s) (i := i) hj
  rw [h, List.length_append] at hl
  refine ⟨i + u.length, by omega, by omega, ?_⟩
  have e := cut_app (s := s) (i := i) (m := i + u.length) (j := j) (by omega) (by omega) hj
  rw [h] at e
  have hu : (cut s i (i + u.length)).length = u.length := by rw [cut_len (by omega)]; omega
  exact List.append_inj e hu.symm
theorem cut_one_at {s : List UInt8} {i : Nat} {c : UInt8} (h : s[i]? = some c) : cut s i (i + 1) = [c] := by
  obtain ⟨hlt, he⟩ := List.getElem?_eq_some_iff.1 h
  rw [cut, List.take_succ_eq_append_getElem hlt, List.drop_append_of_le_length (by rw [List.length_take]; omega)]
  rw [List.drop_eq_nil_of_le (by rw [List.length_take]; omega), he]; rfl
/-- Some words, one behind the other, none of them empty. -/
theorem starL_cons {P : List UInt8 → Prop} {w : List UInt8} (h : StarL P w) : w = [] ∨ ∃ u v, w = u ++ v ∧ u ≠ [] ∧ P u ∧ StarL P v := by
  induction h with
  | nil => exact .inl rfl
  | @app u v hu hv ih =>
    cases u with
    | nil =>
      rcases ih with rfl | ⟨u', v', e, h1, h2, h3⟩
      · exact .inl rfl
      · exact .inr ⟨u', v', by simpa using e, h1, h2, h3⟩
    | cons c u => exact .inr ⟨c :: u, v, rfl, by simp, hu, hv⟩
theorem starL_trans {P : List UInt8 → Prop} {u v : List UInt8} (h : StarL P u) (k : StarL P v) : StarL P (u ++ v) := by
  induction h with
  | nil => exact k
  | app h1 h2 ih => rw [List.append_assoc]; exact .app h1 ih
theorem starL_one {P : List UInt8 → Prop} {u : List UInt8} (h : P u) : StarL P u := by
  have := StarL.app h (StarL.nil (P := P)); simpa using this
theorem starL_snoc {P : List UInt8 → Prop} {w : List UInt8} (h : StarL P w) : w = [] ∨ ∃ u v, w = u ++ v ∧ v ≠ [] ∧ StarL P u ∧ P v := by
  induction h with
  | nil => exact .inl rfl
  | @app u v hu hv ih =>
    rcases ih with rfl | ⟨u', v', e, h1, h2, h3⟩
    · cases u with
      | nil => exact .inl rfl
      | cons c u => exact .inr ⟨[], c :: u, by simp, by simp, .nil, hu⟩
    · exact .inr ⟨u ++ u', v', by rw [e, List.append_assoc], h1, .app hu h2, h3⟩
theorem starL_mono {P Q : List UInt8 → Prop} (hpq : ∀ u, P u → Q u) {w : List UInt8} (h : StarL P w) : StarL Q w := by
  induction h with
  | nil => exact .nil
  | app h1 h2 ih => exact .app (hpq _ h1) ih

theorem starN_iff {s : List UInt8} {f : Nat → Nat → Bool} {P : List UInt8 → Prop} (hf : ∀ i j, i ≤ j → j ≤ s.length → (f i j = true ↔ P (cut s i j))) (n i j : Nat) (hij : i ≤ j) (hj : j ≤ s.length) :
    (starN f n i j = true → StarL P (cut s i j)) ∧ (j - i ≤ n → StarL P (cut s i j) → starN f n i j = true) := by
  induction n generalizing i j with
  | zero =>
    constructor
    · intro h
      simp only [starN, decide_eq_true_eq] at h
      subst h; rw [cut_nil]; exact .nil
    · intro h _
      simp only [starN, decide_eq_true_eq]; omega
  | succ n ih =>
    constructor
    · intro h
      rw [starN, Bool.or_eq_true] at h
      rcases h with h | h
      · exact (ih i j hij hj).1 h
      · obtain ⟨m, h1, h2, h3, h4⟩ := joinB_iff.1 h
        rw [cut_app h1 h2 hj]
        exact starL_trans ((ih i m h1 (by omega)).1 h3) (starL_one ((hf m j h2 hj).1 h4))
    · intro hn h
      rw [starN, Bool.or_eq_true]
      rcases starL_snoc h with h0 | ⟨u, v, e, hv, h1, h2⟩
      · have : (cut s i j).length = 0 := by rw [h0]; rfl
        rw [cut_len hj] at this
        left
        obtain rfl : i = j := by omega
        exact (ih i i hij hj).2 (by omega) (by rw [cut_nil]; exact .nil)
      · obtain ⟨m, m1, m2, rfl, rfl⟩ := cut_split hij hj e
        have hvl : (cut s m j).length ≠ 0 := by intro h0; exact hv (List.eq_nil_of_length_eq_zero h0)
        rw [cut_len hj] at hvl
        right
        exact joinB_iff.2 ⟨m, m1, m2, (ih i m m1 (by omega)).2 (by omega) h1, (hf m j m2 hj).2 h2⟩
theorem letAt_iff {s : List UInt8} {i j : Nat} {l : Int} (hij : i ≤ j) (hj : j ≤ s.length) : (decide (j = i + 1) && letAt s i l) = true ↔ ∃ c, cut s i j = [c] ∧ digI c = l := by
  rw [Bool.and_eq_true, decide_eq_true_eq]
  constructor
  · rintro ⟨rfl, h⟩
    unfold letAt at h
    split at h
    · rename_i c hc
      exact ⟨c, cut_one_at hc, by simpa using h⟩
    · cases h
  · rintro ⟨c, hc, hl⟩
    have h1 : (cut s i j).length = 1 := by rw [hc]; rfl
    rw [cut_len hj] at h1
    have h2 : j = i + 1 := by omega
    subst h2
    have hlt : i < s.length := by omega
    have h3 := cut_one_at (List.getElem?_eq_getElem hlt)
    rw [hc] at h3
    injection h3 with h3
    refine ⟨rfl, ?_⟩
    unfold letAt
    rw [List.getElem?_eq_getElem hlt]
    simp [← h3, hl]
/-- The two ways to say it are one. -/
theorem Ex.sp_iff (s : List UInt8) (t : Ex) (i j : Nat) (hij : i ≤ j) (hj : j ≤ s.length) : t.sp s i j = true ↔ t.L (cut s i j) := by
  induction t generalizing i j with
  | leaf k l =>
    simp only [sp, L]
    split
    · simp
    · split
      · rw [decide_eq_true_eq]
        constructor
        · rintro rfl; exact cut_nil s i
        · intro h
          have : (cut s i j).length = 0 := by rw [h]; rfl
          rw [cut_len hj] at this; omega
      · exact letAt_iff hij hj
  | un k a ih =>
    simp only [sp, L]
    split
    · rw [Bool.not_eq_true', ← Bool.not_eq_true, ih i j hij hj]
    · have := starN_iff (s := s) (f := a.sp s) (P := a.L) (fun i j h1 h2 => ih i j h1 h2) s.length i j hij hj
      exact ⟨this.1, this.2 (by omega)⟩
  | bin k a b iha ihb =>
    simp only [sp, L]
    split
    · rw [joinB_iff]
      constructor
      · rintro ⟨m, h1, h2, h3, h4⟩
        exact ⟨cut s i m, cut s m j, cut_app h1 h2 hj, (iha i m h1 (by omega)).1 h3, (ihb m j h2 hj).1 h4⟩
      · rintro ⟨u, v, e, h1, h2⟩
        obtain ⟨m, m1, m2, rfl, rfl⟩ := cut_split hij hj e
        exact ⟨m, m1, m2, (iha i m m1 (by omega)).2 h1, (ihb m j m2 hj).2 h2⟩
    · split
      · rw [Bool.or_eq_true, iha i j hij hj, ihb i j hij hj]
      · rw [Bool.and_eq_true, iha i j hij hj, ihb i j hij hj]
theorem Ex.acc_iff (t : Ex) (s : List UInt8) : t.acc s = true ↔ t.L s := by
  rw [acc, sp_iff s t 0 s.length (by omega) (Nat.le_refl _), cut_all]
theorem Ex.acc_congr {t u : Ex} {s r : List UInt8} (h : t.L s ↔ u.L r) : t.acc s = u.acc r := by
  rw [Bool.eq_iff_iff, acc_iff, acc_iff, h]
/-- The reference's way to say a star: a first step that goes on, and a star behind it. -/
theorem starN_left {s : List UInt8} {f : Nat → Nat → Bool} {P : List UInt8 → Prop} (hf : ∀ i j, i ≤ j → j ≤ s.length → (f i j = true ↔ P (cut s i j))) (i j : Nat) (hij : i ≤ j) (hj : j ≤ s.length) :
    starN f s.length i j = true ↔ i = j ∨ ∃ m, i < m ∧ m ≤ j ∧ f i m = true ∧ starN f s.length m j = true := by
  have hs : ∀ i j, i ≤ j → j ≤ s.length → (starN f s.length i j = true ↔ StarL P (cut s i j)) := fun i j h1 h2 =>
    ⟨(starN_iff hf _ i j h1 h2).1, (starN_iff hf _ i j h1 h2).2 (by omega)⟩
  rw [hs i j hij hj]
  constructor
  · intro h
    rcases starL_cons h with h0 | ⟨u, v, e, hu, h1, h2⟩
    · left
      have : (cut s i j).length = 0 := by rw [h0]; rfl
      rw [cut_len hj] at this; omega
    · right
      obtain ⟨m, m1, m2, rfl, rfl⟩ := cut_split hij hj e
      have hul : (cut s i m).length ≠ 0 := by intro h0; exact hu (List.eq_nil_of_length_eq_zero h0)
      rw [cut_len (by omega)] at hul
      exact ⟨m, by omega, m2, (hf i m m1 (by omega)).2 h1, (hs m j m2 hj).2 h2⟩
  · rintro (rfl | ⟨m, h1, h2, h3, h4⟩)
    · rw [cut_nil]; exact .nil
    · rw [cut_app (by omega : i ≤ m) h2 hj]
      exact .app ((hf i m (by omega) (by omega)).1 h3) ((hs m j h2 hj).1 h4)

/-- The empty word. -/
def Ex.emp : Ex → Bool
  | .leaf k _ => decide (k = 2)
  | .un k a => if k = 7 then !a.emp else true
  | .bin k a b => if k = 5 then a.emp || b.emp else a.emp && b.emp
theorem Ex.emp_iff {t : Ex} (h : t.good) : t.emp = true ↔ t.L [] := by
  induction t with
  | leaf k l =>
    simp only [emp, L, decide_eq_true_eq]
    rcases h with ⟨rfl | rfl, _⟩ | ⟨rfl, _⟩ <;> simp
  | un k a ih =>
    simp only [emp, L]
    split
    · rw [Bool.not_eq_true', ← Bool.not_eq_true, ih h.2]
    · simp; exact .nil
  | bin k a b iha ihb =>
    simp only [emp, L]
    rcases h.1 with rfl | rfl | rfl
    · simp [iha h.2.1, ihb h.2.2]
      constructor
      · rintro ⟨h1, h2⟩; exact ⟨[], [], ⟨rfl, rfl⟩, h1, h2⟩
      · rintro ⟨u, v, ⟨rfl, rfl⟩, h1, h2⟩; exact ⟨h1, h2⟩
    · simp [iha h.2.1, ihb h.2.2]
    · simp [iha h.2.1, ihb h.2.2]
end Go.Proofs.Ytgcggmlekmjpdaa
