/-
  Simplified, turned and derived trees: plain functions, no program in sight.
-/
import Derived.Test.YtgcggmlekmjpdaaLang
import Derived.Test.YtgcggmlekmjpdaaNd
namespace Go.Proofs.Ytgcggmlekmjpdaa
open Go.RowKit
set_option linter.unusedVariables false

namespace Ex
/-- A leaf of a kind. -/
def isK : Ex → Int → Bool
  | leaf k' _, k => decide (k' = k)
  | _, _ => false
def child : Ex → Ex
  | un _ a => a
  | t => t
def none1 : Ex := leaf 1 0
def emp2 : Ex := leaf 2 0
def sJoin (a b : Ex) : Ex := if a.isK 1 = true ∨ b.isK 1 = true then none1 else if a.isK 2 = true then b else if b.isK 2 = true then a else bin 4 a b
def sEither (a b : Ex) : Ex := if a.isK 1 = true ∨ a.flat = b.flat then b else if b.isK 1 = true then a else bin 5 a b
def sBoth (a b : Ex) : Ex := if a.isK 1 = true ∨ b.isK 1 = true then none1 else if a.flat = b.flat then a else bin 6 a b
def sNot (a : Ex) : Ex := if a.kind = 7 then a.child else un 7 a
def sStar (a : Ex) : Ex := if a.isK 1 = true ∨ a.isK 2 = true then emp2 else if a.kind = 8 then a else un 8 a
def mk (k : Int) (a b : Ex) : Ex := if k = 4 then sJoin a b else if k = 5 then sEither a b else sBoth a b
def mk1 (k : Int) (a : Ex) : Ex := if k = 7 then sNot a else sStar a
def simp : Ex → Ex
  | leaf k l => leaf k l
  | un k a => mk1 k a.simp
  | bin k a b => mk k a.simp b.simp

theorem good_none : none1.good := .inl ⟨.inl rfl, rfl⟩
theorem good_emp : emp2.good := .inl ⟨.inr rfl, rfl⟩
theorem isK_leaf {t : Ex} {k : Int} (h : t.isK k = true) : ∃ l, t = leaf k l := by
  cases t with
  | leaf k' l => simp only [isK, decide_eq_true_eq] at h; subst h; exact ⟨l, rfl⟩
  | un k' a => cases h
  | bin k' a b => cases h
theorem isK_L1 {t : Ex} (h : t.isK 1 = true) (w : List UInt8) : ¬ t.L w := by
  obtain ⟨l, rfl⟩ := isK_leaf h; simp [L]
theorem isK_L2 {t : Ex} (h : t.isK 2 = true) (w : List UInt8) : t.L w ↔ w = [] := by
  obtain ⟨l, rfl⟩ := isK_leaf h; simp [L]
theorem isK_two {t : Ex} (h1 : t.isK 1 = true) : t.isK 2 = false := by
  obtain ⟨l, rfl⟩ := isK_leaf h1; rfl
theorem kind7 {t : Ex} (hg : t.good) (h : t.kind = 7) : ∃ a, t = un 7 a := by
  cases t with
  | leaf k l => simp only [kind] at h; subst h; rcases hg with ⟨h | h, _⟩ | ⟨h, _⟩ <;> omega
  | un k a => simp only [kind] at h; subst h; exact ⟨a, rfl⟩
  | bin k a b => simp only [kind] at h; subst h; have := hg.1; omega
theorem kind8 {t : Ex} (hg : t.good) (h : t.kind = 8) : ∃ a, t = un 8 a := by
  cases t with
  | leaf k l => simp only [kind] at h; subst h; rcases hg with ⟨h | h, _⟩ | ⟨h, _⟩ <;> omega
  | un k a => simp only [kind] at h; subst h; exact ⟨a, rfl⟩
  | bin k a b => simp only [kind] at h; subst h; have := hg.1; omega
/-- Good trees with one list are one. -/
theorem flat_inj {t u : Ex} (ht : t.good) (hu : u.good) (h : t.flat = u.flat) : t = u := by
  induction t generalizing u with
  | leaf k l =>
    have hs : u.sz = 1 := by rw [← flat_length, ← h]; rfl
    cases u with
    | leaf k' l' => simp [flat] at h; rw [h.1, h.2]
    | un k' a => simp only [sz] at hs; have := sz_pos a; omega
    | bin k' a b => simp only [sz] at hs; have := sz_pos a; omega
  | un k a ih =>
    have h0 := last_flat (un k a)
    rw [h, last_flat] at h0
    injection h0 with h0
    injection h0 with h1 h2
    have hk := ht.1
    cases u with
    | leaf k' l' => simp only [kind] at h1; subst h1; rcases hu with ⟨h | h, _⟩ | ⟨h, _⟩ <;> omega
    | bin k' a' b' => simp only [kind] at h1; subst h1; have := hu.1; omega
    | un k' a' =>
      simp only [kind] at h1; subst h1
      have h3 : a.flat = a'.flat := (List.append_inj' h rfl).1
      rw [ih ht.2 hu.2 h3]
  | bin k a b iha ihb =>
    have h0 := last_flat (bin k a b)
    rw [h, last_flat] at h0
    injection h0 with h0
    injection h0 with h1 h2
    have hk := ht.1
    cases u with
    | leaf k' l' => simp only [kind] at h1; subst h1; rcases hu with ⟨h | h, _⟩ | ⟨h, _⟩ <;> omega
    | un k' a' => simp only [kind] at h1; subst h1; have := hu.1; omega
    | bin k' a' b' =>
      simp only [kind] at h1; subst h1
      have h3 : a.flat ++ b.flat = a'.flat ++ b'.flat := (List.append_inj' h rfl).1
      obtain ⟨e1, e2⟩ := tail_inj ht.2.2 hu.2.2 h3
      rw [iha ht.2.1 hu.2.1 e1, ihb ht.2.2 hu.2.2 e2]

/-! Sizes, kinds. -/
theorem sJoin_sz (a b : Ex) : (sJoin a b).sz ≤ a.sz + b.sz + 1 := by
  unfold sJoin; split
  · have := sz_pos a; simp only [none1, sz]; omega
  · split
    · omega
    · split <;> (try simp only [sz]) <;> omega
theorem sEither_sz (a b : Ex) : (sEither a b).sz ≤ a.sz + b.sz + 1 := by
  unfold sEither; split
  · omega
  · split <;> (try simp only [sz]) <;> omega
theorem sBoth_sz (a b : Ex) : (sBoth a b).sz ≤ a.sz + b.sz + 1 := by
  unfold sBoth; split
  · have := sz_pos a; simp only [none1, sz]; omega
  · split <;> (try simp only [sz]) <;> omega
theorem mk_sz (k : Int) (a b : Ex) : (mk k a b).sz ≤ a.sz + b.sz + 1 := by
  unfold mk; split
  · exact sJoin_sz a b
  · split
    · exact sEither_sz a b
    · exact sBoth_sz a b
theorem child_sz (a : Ex) : a.child.sz ≤ a.sz := by cases a <;> simp [child, sz]
theorem mk1_sz (k : Int) (a : Ex) : (mk1 k a).sz ≤ a.sz + 1 := by
  unfold mk1 sNot sStar; split
  · split
    · have := child_sz a; omega
    · simp [sz]
  · split
    · have := sz_pos a; simp only [emp2, sz]; omega
    · split <;> (try simp only [sz]) <;> omega
theorem simp_sz (t : Ex) : t.simp.sz ≤ t.sz := by
  induction t with
  | leaf k l => exact Nat.le_refl _
  | un k a ih => have := mk1_sz k a.simp; simp only [simp, sz]; omega
  | bin k a b iha ihb => have := mk_sz k a.simp b.simp; simp only [simp, sz]; omega
theorem sJoin_good {a b : Ex} (ha : a.good) (hb : b.good) : (sJoin a b).good := by
  unfold sJoin; split
  · exact good_none
  · split
    · exact hb
    · split
      · exact ha
      · exact ⟨.inl rfl, ha, hb⟩
theorem sEither_good {a b : Ex} (ha : a.good) (hb : b.good) : (sEither a b).good := by
  unfold sEither; split
  · exact hb
  · split
    · exact ha
    · exact ⟨.inr (.inl rfl), ha, hb⟩
theorem sBoth_good {a b : Ex} (ha : a.good) (hb : b.good) : (sBoth a b).good := by
  unfold sBoth; split
  · exact good_none
  · split
    · exact ha
    · exact ⟨.inr (.inr rfl), ha, hb⟩
theorem mk_good {k : Int} {a b : Ex} (ha : a.good) (hb : b.good) : (mk k a b).good := by
  unfold mk; split
  · exact sJoin_good ha hb
  · split
    · exact sEither_good ha hb
    · exact sBoth_good ha hb
theorem sNot_good {a : Ex} (ha : a.good) : (sNot a).good := by
  unfold sNot; split
  · rename_i h; obtain ⟨x, rfl⟩ := kind7 ha h; exact ha.2
  · exact ⟨.inl rfl, ha⟩
theorem sStar_good {a : Ex} (ha : a.good) : (sStar a).good := by
  unfold sStar; split
  · exact good_emp
  · split
    · exact ha
    · exact ⟨.inr rfl, ha⟩
theorem mk1_good {k : Int} {a : Ex} (ha : a.good) : (mk1 k a).good := by
  unfold mk1; split
  · exact sNot_good ha
  · exact sStar_good ha
theorem simp_good {t : Ex} (h : t.good) : t.simp.good := by
  induction t with
  | leaf k l => exact h
  | un k a ih => exact mk1_good (ih h.2)
  | bin k a b iha ihb => exact mk_good (iha h.2.1) (ihb h.2.2)

/-! Languages. -/
theorem sJoin_L {a b : Ex} (w : List UInt8) : (sJoin a b).L w ↔ ∃ u v, w = u ++ v ∧ a.L u ∧ b.L v := by
  unfold sJoin; split
  · rename_i h
    refine ⟨fun h' => by simp [none1, L] at h', ?_⟩
    rintro ⟨u, v, -, h1, h2⟩
    rcases h with h | h
    · exact absurd h1 (isK_L1 h u)
    · exact absurd h2 (isK_L1 h v)
  · split
    · rename_i h
      constructor
      · intro h'; exact ⟨[], w, rfl, (isK_L2 h _).2 rfl, h'⟩
      · rintro ⟨u, v, rfl, h1, h2⟩; rw [(isK_L2 h u).1 h1]; exact h2
    · split
      · rename_i h
        constructor
        · intro h'; exact ⟨w, [], by simp, h', (isK_L2 h _).2 rfl⟩
        · rintro ⟨u, v, rfl, h1, h2⟩; rw [(isK_L2 h v).1 h2]; simpa using h1
      · simp [L]
theorem sEither_L {a b : Ex} (ha : a.good) (hb : b.good) (w : List UInt8) : (sEither a b).L w ↔ a.L w ∨ b.L w := by
  unfold sEither; split
  · rename_i h
    rcases h with h | h
    · simp [isK_L1 h w]
    · rw [flat_inj ha hb h]; simp
  · split
    · rename_i h; simp [isK_L1 h w]
    · simp [L]
theorem sBoth_L {a b : Ex} (ha : a.good) (hb : b.good) (w : List UInt8) : (sBoth a b).L w ↔ a.L w ∧ b.L w := by
  unfold sBoth; split
  · rename_i h
    rcases h with h | h
    · simp [isK_L1 h w, none1, L]
    · simp [isK_L1 h w, none1, L]
  · split
    · rename_i h; rw [flat_inj ha hb h]; simp
    · simp [L]
theorem mk_L {k : Int} {a b : Ex} (ha : a.good) (hb : b.good) (w : List UInt8) : (mk k a b).L w ↔ (bin k a b).L w := by
  unfold mk; simp only [L]; split
  · exact sJoin_L w
  · split
    · exact sEither_L ha hb w
    · exact sBoth_L ha hb w
theorem sNot_L {a : Ex} (ha : a.good) (w : List UInt8) : (sNot a).L w ↔ ¬ a.L w := by
  unfold sNot; split
  · rename_i h; obtain ⟨x, rfl⟩ := kind7 ha h; simp [child, L]
  · simp [L]
theorem starL_star {P : List UInt8 → Prop} {w : List UInt8} (h : StarL (StarL P) w) : StarL P w := by
  induction h with
  | nil => exact .nil
  | app h1 h2 ih => exact starL_trans h1 ih
theorem sStar_L {a : Ex} (ha : a.good) (w : List UInt8) : (sStar a).L w ↔ StarL a.L w := by
  unfold sStar; split
  · rename_i h
    have e : emp2.L w ↔ w = [] := by simp [emp2, L]
    rw [e]
    constructor
    · rintro rfl; exact .nil
    · intro hs
      rcases starL_cons hs with h0 | ⟨u, v, e, hu, h1, h2⟩
      · exact h0
      · rcases h with h | h
        · exact absurd h1 (isK_L1 h u)
        · exact absurd ((isK_L2 h u).1 h1) hu
  · split
    · rename_i h
      obtain ⟨x, rfl⟩ := kind8 ha h
      have e : ∀ w, (un 8 x).L w ↔ StarL x.L w := fun w => by simp [L]
      rw [e]
      constructor
      · intro h; exact starL_one ((e w).2 h)
      · intro h; exact starL_star (starL_mono (fun u h => (e u).1 h) h)
    · simp [L]
theorem starL_congr {P Q : List UInt8 → Prop} (h : ∀ w, P w ↔ Q w) (w : List UInt8) : StarL P w ↔ StarL Q w :=
  ⟨starL_mono fun u => (h u).1, starL_mono fun u => (h u).2⟩
theorem mk1_L {k : Int} {a : Ex} (ha : a.good) (w : List UInt8) : (mk1 k a).L w ↔ (un k a).L w := by
  unfold mk1; simp only [L]; split
  · exact sNot_L ha w
  · exact sStar_L ha w
/-- A simplified tree has the same language. -/
theorem simp_L {t : Ex} (h : t.good) (w : List UInt8) : t.simp.L w ↔ t.L w := by
  induction t generalizing w with
  | leaf k l => exact Iff.rfl
  | un k a ih =>
    rw [simp, mk1_L (simp_good h.2)]
    simp only [L]
    split
    · rw [ih h.2]
    · exact starL_congr (fun w => ih h.2 w) w
  | bin k a b iha ihb =>
    rw [simp, mk_L (simp_good h.2.1) (simp_good h.2.2)]
    simp only [L, iha h.2.1, ihb h.2.2]

/-! Simplified once more. -/
def nf : Ex → Prop
  | leaf _ _ => True
  | un k a => mk1 k a = un k a ∧ a.nf
  | bin k a b => mk k a b = bin k a b ∧ a.nf ∧ b.nf
theorem nf_simp {t : Ex} (h : t.nf) : t.simp = t := by
  induction t with
  | leaf k l => rfl
  | un k a ih => rw [simp, ih h.2, h.1]
  | bin k a b iha ihb => rw [simp, iha h.2.1, ihb h.2.2, h.1]
theorem mk1_cases (k : Int) (a : Ex) (ha : a.good) (hn : a.nf) : (mk1 k a).nf ∨ mk1 k a = un k a ∨ ¬ (k = 7 ∨ k = 8) := by
  unfold mk1 sNot sStar
  split
  · split
    · rename_i h; obtain ⟨x, rfl⟩ := kind7 ha h; exact .inl hn.2
    · rename_i h _; right; left; rw [h]
  · split
    · exact .inl trivial
    · split
      · exact .inl hn
      · by_cases h8 : k = 8
        · right; left; rw [h8]
        · right; right; omega
theorem mk_cases (k : Int) (a b : Ex) (ha : a.nf) (hb : b.nf) : (mk k a b).nf ∨ mk k a b = bin k a b ∨ ¬ (k = 4 ∨ k = 5 ∨ k = 6) := by
  unfold mk sJoin sEither sBoth
  split
  · rename_i h4; subst h4
    repeat (first | exact .inl trivial | exact .inl ha | exact .inl hb | exact .inr (.inl rfl) | split)
  · split
    · rename_i h5; subst h5
      repeat (first | exact .inl trivial | exact .inl ha | exact .inl hb | exact .inr (.inl rfl) | split)
    · by_cases h6 : k = 6
      · subst h6
        repeat (first | exact .inl trivial | exact .inl ha | exact .inl hb | exact .inr (.inl rfl) | split)
      · right; right; omega
theorem simp_nf {t : Ex} (h : t.good) : t.simp.nf := by
  induction t with
  | leaf k l => trivial
  | un k a ih =>
    have h1 := ih h.2
    rcases mk1_cases k a.simp (simp_good h.2) h1 with h2 | h2 | h2
    · exact h2
    · rw [simp, h2]; exact ⟨h2, h1⟩
    · exact absurd h.1 h2
  | bin k a b iha ihb =>
    have h1 := iha h.2.1
    have h2 := ihb h.2.2
    rcases mk_cases k a.simp b.simp h1 h2 with h3 | h3 | h3
    · exact h3
    · rw [simp, h3]; exact ⟨h3, h1, h2⟩
    · exact absurd h.1 h3
theorem simp_simp {t : Ex} (h : t.good) : t.simp.simp = t.simp := nf_simp (simp_nf h)
theorem mk1_or (k : Int) (a : Ex) : (mk1 k a).sz ≤ a.sz ∨ ∃ k', mk1 k a = un k' a := by
  unfold mk1 sNot sStar
  split
  · split
    · exact .inl (child_sz a)
    · exact .inr ⟨_, rfl⟩
  · split
    · exact .inl (sz_pos a)
    · split
      · exact .inl (Nat.le_refl _)
      · exact .inr ⟨_, rfl⟩
theorem mk_or (k : Int) (a b : Ex) : (mk k a b).sz ≤ a.sz + b.sz ∨ ∃ k', mk k a b = bin k' a b := by
  have ha := sz_pos a
  have hb := sz_pos b
  have h1 : none1.sz = 1 := rfl
  unfold mk sJoin sEither sBoth
  split
  · split
    · left; omega
    · split
      · left; omega
      · split
        · left; omega
        · exact .inr ⟨_, rfl⟩
  · split
    · split
      · left; omega
      · split
        · left; omega
        · exact .inr ⟨_, rfl⟩
    · split
      · left; omega
      · split
        · left; omega
        · exact .inr ⟨_, rfl⟩
/-- The operands of a simple tree are simple. -/
theorem simple_un {k : Int} {a : Ex} (h : (un k a).simp = un k a) : a.simp = a := by
  rw [simp] at h
  have hs := simp_sz a
  rcases mk1_or k a.simp with h1 | ⟨k', h1⟩
  · rw [h] at h1; simp only [sz] at h1; omega
  · rw [h] at h1; injection h1 with _ h2; exact h2.symm
theorem simple_bin {k : Int} {a b : Ex} (h : (bin k a b).simp = bin k a b) : a.simp = a ∧ b.simp = b := by
  rw [simp] at h
  have hs := simp_sz a
  have hs2 := simp_sz b
  rcases mk_or k a.simp b.simp with h1 | ⟨k', h1⟩
  · rw [h] at h1; simp only [sz] at h1; omega
  · rw [h] at h1; injection h1 with _ h2 h3; exact ⟨h2.symm, h3.symm⟩

/-! Turned trees. -/
def turn : Ex → Ex
  | leaf k l => leaf k l
  | un k a => un k a.turn
  | bin k a b => if k = 4 then bin k b.turn a.turn else bin k a.turn b.turn
theorem turn_sz (t : Ex) : t.turn.sz = t.sz := by
  induction t with
  | leaf k l => rfl
  | un k a ih => simp only [turn, sz, ih]
  | bin k a b iha ihb =>
    simp only [turn]
    split <;> simp only [sz, iha, ihb]
    omega
theorem turn_good {t : Ex} (h : t.good) : t.turn.good := by
  induction t with
  | leaf k l => exact h
  | un k a ih => exact ⟨h.1, ih h.2⟩
  | bin k a b iha ihb =>
    simp only [turn]
    split
    · exact ⟨h.1, ihb h.2.2, iha h.2.1⟩
    · exact ⟨h.1, iha h.2.1, ihb h.2.2⟩
theorem turn_turn (t : Ex) : t.turn.turn = t := by
  induction t with
  | leaf k l => rfl
  | un k a ih => simp only [turn, ih]
  | bin k a b iha ihb =>
    simp only [turn]
    split
    · rename_i h; simp [turn, h, iha, ihb]
    · rename_i h; simp [turn, h, iha, ihb]
theorem starL_rev {P Q : List UInt8 → Prop} (h : ∀ w, P w → Q w.reverse) {w : List UInt8} (hs : StarL P w) : StarL Q w.reverse := by
  induction hs with
  | nil => exact .nil
  | app h1 h2 ih => rw [List.reverse_append]; exact starL_trans ih (starL_one (h _ h1))
/-- A turned tree has the turned words. -/
theorem turn_L (t : Ex) (ht : t.good) (w : List UInt8) : t.turn.L w ↔ t.L w.reverse := by
  induction t generalizing w with
  | leaf k l =>
    simp only [turn, L]
    split
    · rfl
    · split
      · simp
      · constructor
        · rintro ⟨c, rfl, h⟩; exact ⟨c, rfl, h⟩
        · rintro ⟨c, h1, h⟩; exact ⟨c, by rw [← List.reverse_reverse w, h1]; rfl, h⟩
  | un k a ih =>
    simp only [turn, L]
    split
    · rw [ih ht.2]
    · constructor
      · intro h; exact starL_rev (fun w hw => (ih ht.2 w).1 hw) h
      · intro h
        have := starL_rev (Q := a.turn.L) (fun w hw => (ih ht.2 w.reverse).2 (by rwa [List.reverse_reverse])) h
        rwa [List.reverse_reverse] at this
  | bin k a b iha ihb =>
    simp only [turn]
    split
    · rename_i h
      subst h
      have e : ∀ x y : Ex, ∀ w, (bin 4 x y).L w ↔ ∃ u v, w = u ++ v ∧ x.L u ∧ y.L v := fun x y w => by simp [L]
      rw [e, e]
      constructor
      · rintro ⟨u, v, rfl, h1, h2⟩
        exact ⟨v.reverse, u.reverse, by simp, (iha ht.2.1 v).1 h2, (ihb ht.2.2 u).1 h1⟩
      · rintro ⟨u, v, h0, h1, h2⟩
        refine ⟨v.reverse, u.reverse, ?_, (ihb ht.2.2 _).2 (by rwa [List.reverse_reverse]), (iha ht.2.1 _).2 (by rwa [List.reverse_reverse])⟩
        rw [← List.reverse_reverse w, h0, List.reverse_append]
    · rename_i h
      simp only [L, if_neg h, iha ht.2.1, ihb ht.2.2]

/-! Derived trees. -/
def der (c : Int) : Ex → Ex
  | leaf k l => if k = 3 ∧ l = c then emp2 else none1
  | un k a => if k = 7 then sNot (der c a) else sJoin (der c a) (simp (un k a))
  | bin k a b => if k = 4 then (if a.emp = true then sEither (sJoin (der c a) b.simp) (der c b) else sJoin (der c a) b.simp) else mk k (der c a) (der c b)
theorem der_good {c : Int} {t : Ex} (h : t.good) : (der c t).good := by
  induction t with
  | leaf k l => simp only [der]; split; exact good_emp; exact good_none
  | un k a ih =>
    simp only [der]; split
    · exact sNot_good (ih h.2)
    · exact sJoin_good (ih h.2) (simp_good h)
  | bin k a b iha ihb =>
    simp only [der]; split
    · split
      · exact sEither_good (sJoin_good (iha h.2.1) (simp_good h.2.2)) (ihb h.2.2)
      · exact sJoin_good (iha h.2.1) (simp_good h.2.2)
    · exact mk_good (iha h.2.1) (ihb h.2.2)
theorem sNot_sz (a : Ex) : (sNot a).sz ≤ a.sz + 1 := mk1_sz 7 a
/-- How great a derived tree can be. -/
theorem der_sz (c : Int) (t : Ex) (m : Nat) (h : t.sz ≤ m) : (der c t).sz + 1 ≤ t.sz * (m + 3) := by
  induction t with
  | leaf k l =>
    simp only [der, sz, Nat.one_mul]; split
    · show 1 + 1 ≤ _; omega
    · show 1 + 1 ≤ _; omega
  | un k a ih =>
    simp only [sz] at h
    have h1 := ih (by omega)
    simp only [der, sz, Nat.succ_mul]
    split
    · have := sNot_sz (der c a); omega
    · have h2 := sJoin_sz (der c a) (simp (un k a))
      have h3 := simp_sz (un k a)
      simp only [sz] at h3
      omega
  | bin k a b iha ihb =>
    simp only [sz] at h
    have h1 := iha (by omega)
    have h2 := ihb (by omega)
    simp only [der, sz, Nat.succ_mul, Nat.add_mul]
    have h5 := simp_sz b
    have hb0 : b.sz ≤ m := by omega
    split
    · split
      · have h3 := sEither_sz (sJoin (der c a) b.simp) (der c b)
        have h4 := sJoin_sz (der c a) b.simp
        omega
      · have h4 := sJoin_sz (der c a) b.simp
        omega
    · have h3 := mk_sz k (der c a) (der c b)
      omega
/-- A derived tree has the words that go on behind the letter. -/
theorem der_L {c : Int} {x : UInt8} (hx : digI x = c) {t : Ex} (ht : t.good) (w : List UInt8) : (der c t).L w ↔ t.L (x :: w) := by
  induction t generalizing w with
  | leaf k l =>
    simp only [der]
    rcases ht with ⟨h | h, hl⟩ | ⟨h, h0, h2⟩
    · subst h; simp [none1, L]
    · subst h; simp [none1, L]
    · subst h
      by_cases hlc : l = c
      · subst hlc
        simp [emp2, L]
        constructor
        · rintro rfl; exact ⟨x, ⟨rfl, rfl⟩, hx⟩
        · rintro ⟨y, ⟨rfl, h⟩, _⟩; exact h
      · have e : (if (3 : Int) = 3 ∧ l = c then emp2 else none1) = none1 := if_neg (by rintro ⟨-, h⟩; exact hlc h)
        rw [e]
        have e2 : ¬ none1.L w := by simp [none1, L]
        have e3 : ¬ (leaf 3 l).L (x :: w) := by
          simp only [L]
          rintro ⟨y, hy, hd⟩
          injection hy with hy _
          subst hy
          exact hlc (by rw [← hd, hx])
        exact ⟨fun h => absurd h e2, fun h => absurd h e3⟩
  | un k a ih =>
    simp only [der]
    split
    · rename_i h7
      subst h7
      rw [sNot_L (der_good ht.2), ih ht.2]; simp [L]
    · rename_i h7
      have h8 : k = 8 := by have := ht.1; omega
      subst h8
      rw [sJoin_L]
      have e : ∀ v, (un 8 a).L v ↔ StarL a.L v := fun v => by simp [L]
      rw [e]
      constructor
      · rintro ⟨u, v, rfl, h1, h2⟩
        rw [simp_L ht, e] at h2
        exact StarL.app (u := x :: u) ((ih ht.2 u).1 h1) h2
      · intro h
        rcases starL_cons h with h0 | ⟨u, v, e', hu, h1, h2⟩
        · cases h0
        · cases u with
          | nil => exact absurd rfl hu
          | cons y u =>
            simp only [List.cons_append] at e'
            injection e' with e1 e2
            subst e1
            exact ⟨u, v, e2, (ih ht.2 u).2 h1, by rw [simp_L ht, e]; exact h2⟩
  | bin k a b iha ihb =>
    simp only [der]
    split
    · rename_i h4
      subst h4
      have e : ∀ v, (bin 4 a b).L v ↔ ∃ p q, v = p ++ q ∧ a.L p ∧ b.L q := fun v => by simp [L]
      have e1 : (sJoin (der c a) b.simp).L w ↔ ∃ p q, w = p ++ q ∧ a.L (x :: p) ∧ b.L q := by
        rw [sJoin_L]
        constructor
        · rintro ⟨u, v, rfl, h1, h2⟩; exact ⟨u, v, rfl, (iha ht.2.1 u).1 h1, (simp_L ht.2.2 v).1 h2⟩
        · rintro ⟨u, v, rfl, h1, h2⟩; exact ⟨u, v, rfl, (iha ht.2.1 u).2 h1, (simp_L ht.2.2 v).2 h2⟩
      have e2 : (bin 4 a b).L (x :: w) ↔ (∃ p q, w = p ++ q ∧ a.L (x :: p) ∧ b.L q) ∨ (a.L [] ∧ b.L (x :: w)) := by
        rw [e]
        constructor
        · rintro ⟨p, q, h0, h1, h2⟩
          cases p with
          | nil => right; rw [h0]; exact ⟨h1, h2⟩
          | cons y p =>
            simp only [List.cons_append] at h0
            injection h0 with h3 h4
            subst h3
            left; exact ⟨p, q, h4, h1, h2⟩
        · rintro (⟨p, q, rfl, h1, h2⟩ | ⟨h1, h2⟩)
          · exact ⟨x :: p, q, rfl, h1, h2⟩
          · exact ⟨[], x :: w, rfl, h1, h2⟩
      split
      · rename_i he
        rw [sEither_L (sJoin_good (der_good ht.2.1) (simp_good ht.2.2)) (der_good ht.2.2), e1, e2, ihb ht.2.2]
        simp [(emp_iff ht.2.1).1 he]
      · rename_i he
        have : ¬ a.L [] := fun h => he ((emp_iff ht.2.1).2 h)
        rw [e1, e2]; simp [this]
    · rename_i h4
      rw [mk_L (der_good ht.2.1) (der_good ht.2.2)]
      simp only [L, if_neg h4, iha ht.2.1, ihb ht.2.2]
end Ex
end Go.Proofs.Ytgcggmlekmjpdaa
