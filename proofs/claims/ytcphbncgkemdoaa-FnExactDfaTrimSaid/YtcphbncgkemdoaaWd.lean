/-
  Plain functions on words (lists of bytes): no program in sight.
-/
import Derived.WalkKit
namespace Go.Proofs.Ytcphbncgkemdoaa
open Go.RowKit
set_option linter.unusedVariables false

/-- A number lies between two bounds; a byte is a letter: a, b or c. -/
def inB (n lo hi : Int) : Bool := decide (lo ≤ n) && decide (n ≤ hi)
theorem inB_true {n lo hi : Int} : inB n lo hi = true ↔ lo ≤ n ∧ n ≤ hi := by simp [inB]
theorem inB_false {n lo hi : Int} : inB n lo hi = false ↔ (n < lo ∨ hi < n) := by
  simp only [inB, Bool.and_eq_false_iff, decide_eq_false_iff_not]; omega
def letB (c : UInt8) : Bool := inB (c.toNat : Int) 97 99
/-- All bytes are letters. -/
def letsB (l : List UInt8) : Bool := l.all letB
/-- A word: at most eight letters. -/
def wordB (l : List UInt8) : Bool := letsB l && decide ((l.length : Int) ≤ 8)

theorem letsB_nil : letsB [] = true := rfl
theorem take_snoc (s : ByteArray) (k : Nat) (h : k < s.size) : s.data.toList.take (k + 1) = s.data.toList.take k ++ [s[k]] := by
  rw [List.take_succ_eq_append_getElem (by simpa using h)]; rfl
theorem letsB_snoc (l : List UInt8) (c : UInt8) : letsB (l ++ [c]) = (letsB l && letB c) := by
  simp [letsB]
theorem letsB_take_false {l : List UInt8} {k : Nat} (h : letsB (l.take k) = false) : letsB l = false := by
  rw [← List.take_append_drop k l, letsB, List.all_append, ← letsB, h]; rfl

/-- 3 to the n; how many words are shorter than n letters. -/
def p3 : Nat → Int
  | 0 => 1
  | n + 1 => 3 * p3 n
def shN : Nat → Int
  | 0 => 0
  | n + 1 => shN n + p3 n
theorem p3_pos (n : Nat) : 1 ≤ p3 n := by induction n with | zero => decide | succ n ih => simp [p3]; omega
theorem p3_mono {a b : Nat} (h : a ≤ b) : p3 a ≤ p3 b := by
  induction b with
  | zero => simp at h; subst h; exact Int.le_refl _
  | succ b ih =>
    by_cases e : a = b + 1
    · subst e; exact Int.le_refl _
    · have := ih (by omega); have := p3_pos b; simp [p3]; omega
theorem p3_bd {n : Nat} (h : n ≤ 9) : 1 ≤ p3 n ∧ p3 n ≤ 19683 := by
  have := p3_mono h
  have e : p3 9 = 19683 := by decide
  exact ⟨p3_pos n, by omega⟩
theorem shN_nonneg (n : Nat) : 0 ≤ shN n := by induction n with | zero => decide | succ n ih => have := p3_pos n; simp [shN]; omega
theorem shN_mono {a b : Nat} (h : a ≤ b) : shN a ≤ shN b := by
  induction b with
  | zero => simp at h; subst h; exact Int.le_refl _
  | succ b ih =>
    by_cases e : a = b + 1
    · subst e; exact Int.le_refl _
    · have := ih (by omega); have := p3_pos b; simp [shN]; omega
theorem shN_bd {n : Nat} (h : n ≤ 9) : 0 ≤ shN n ∧ shN n ≤ 9841 := by
  have := shN_mono h
  have e : shN 9 = 9841 := by decide
  exact ⟨shN_nonneg n, by omega⟩
theorem p3_shN (n : Nat) : p3 n = 2 * shN n + 1 := by
  induction n with
  | zero => decide
  | succ n ih => simp only [shN, p3]; omega
theorem shN_succ3 (n : Nat) : shN (n + 1) = 3 * shN n + 1 := by
  rw [shN, p3_shN]; omega
/-- How many words have n letters; -1 for other numbers. -/
def wordsOfI (n : Int) : Int := if inB n 0 8 = true then p3 n.toNat else -1

/-- The number of a word. -/
def digI (c : UInt8) : Int := (c.toNat : Int) - 97
def rankL (l : List UInt8) : Int := l.foldl (fun n c => 3 * n + digI c + 1) 0
def baseL (l : List UInt8) : Int := l.foldl (fun n c => 3 * n + digI c) 0
theorem rankL_snoc (l : List UInt8) (c : UInt8) : rankL (l ++ [c]) = 3 * rankL l + digI c + 1 := by simp [rankL]
theorem baseL_snoc (l : List UInt8) (c : UInt8) : baseL (l ++ [c]) = 3 * baseL l + digI c := by simp [baseL]
theorem snocInd {α : Type} {P : List α → Prop} (h0 : P []) (h1 : ∀ l a, P l → P (l ++ [a])) (l : List α) : P l := by
  have h : ∀ r : List α, P r.reverse := by
    intro r
    induction r with
    | nil => exact h0
    | cons a r ih => rw [List.reverse_cons]; exact h1 _ _ ih
  have := h l.reverse
  rwa [List.reverse_reverse] at this
theorem rank_base (l : List UInt8) : rankL l = shN l.length + baseL l := by
  induction l using snocInd with
  | h0 => decide
  | h1 l c ih =>
    rw [rankL_snoc, baseL_snoc, ih, List.length_append, List.length_singleton, shN_succ3]; omega
theorem letB_dig {c : UInt8} (h : letB c = true) : 0 ≤ digI c ∧ digI c ≤ 2 := by
  have := inB_true.1 h; unfold digI; omega
theorem baseL_bd (l : List UInt8) (h : letsB l = true) : 0 ≤ baseL l ∧ baseL l < p3 l.length := by
  induction l using snocInd with
  | h0 => decide
  | h1 l c ih =>
    rw [letsB_snoc, Bool.and_eq_true] at h
    have h1 := ih h.1
    have h2 := letB_dig h.2
    rw [baseL_snoc, List.length_append, List.length_singleton]
    simp only [p3]; omega
def rankI (l : List UInt8) : Int := if wordB l = true then rankL l else -1
theorem rankL_bd (l : List UInt8) (h : letsB l = true) (hl : l.length ≤ 8) : 0 ≤ rankL l ∧ rankL l ≤ 9840 := by
  have h1 := baseL_bd l h
  have h2 : shN l.length + p3 l.length ≤ 9841 := (shN_bd (n := l.length + 1) (by omega)).2
  have h3 := shN_nonneg l.length
  rw [rank_base]; omega
theorem take_lets {l : List UInt8} (h : letsB l = true) (k : Nat) : letsB (l.take k) = true := by
  rw [letsB, List.all_eq_true] at *
  exact fun x hx => h x (List.mem_of_mem_take hx)
theorem wordB_iff {l : List UInt8} : wordB l = true ↔ letsB l = true ∧ l.length ≤ 8 := by
  simp [wordB]; omega

/-- The byte of a letter. -/
def chr (d : Int) : UInt8 := UInt8.ofNat (97 + d.toNat)
theorem chr_dig {d : Int} (h0 : 0 ≤ d) (h2 : d ≤ 2) : digI (chr d) = d ∧ letB (chr d) = true := by
  have h : d = 0 ∨ d = 1 ∨ d = 2 := by omega
  rcases h with rfl | rfl | rfl <;> exact ⟨by decide, by decide⟩
theorem dig_chr {c : UInt8} (h : letB c = true) : chr (digI c) = c := by
  obtain ⟨h1, h2⟩ := inB_true.1 h
  have e : (digI c).toNat = c.toNat - 97 := by unfold digI; omega
  unfold chr
  rw [e, show 97 + (c.toNat - 97) = c.toNat from by omega]
  simp
theorem foldBase (l : List UInt8) (a : Int) : l.foldl (fun n c => 3 * n + digI c) a = p3 l.length * a + baseL l := by
  induction l using snocInd with
  | h0 => simp [p3, baseL]
  | h1 l c ih =>
    rw [List.foldl_append, ih, baseL_snoc, List.length_append, List.length_singleton]
    simp only [List.foldl_cons, List.foldl_nil, p3, Int.mul_add, Int.mul_assoc]
    omega
theorem foldRank (l : List UInt8) (a : Int) : l.foldl (fun n c => 3 * n + digI c + 1) a = p3 l.length * a + rankL l := by
  induction l using snocInd with
  | h0 => simp [p3, rankL]
  | h1 l c ih =>
    rw [List.foldl_append, ih, rankL_snoc, List.length_append, List.length_singleton]
    simp only [List.foldl_cons, List.foldl_nil, p3, Int.mul_add, Int.mul_assoc]
    omega
theorem baseL_cons (c : UInt8) (l : List UInt8) : baseL (c :: l) = p3 l.length * digI c + baseL l := by
  have := foldBase l (3 * 0 + digI c)
  simp only [baseL, List.foldl_cons] at *
  rw [this]; simp
theorem rankL_cons (c : UInt8) (l : List UInt8) : rankL (c :: l) = p3 l.length * (digI c + 1) + rankL l := by
  have := foldRank l (3 * 0 + digI c + 1)
  simp only [rankL, List.foldl_cons] at *
  rw [this]; simp
theorem div3 (p m : Int) : p * m = 3 * p * (m / 3) + p * (m % 3) := by
  have e : m = 3 * (m / 3) + m % 3 := by omega
  calc p * m = p * (3 * (m / 3) + m % 3) := by rw [← e]
    _ = 3 * p * (m / 3) + p * (m % 3) := by rw [Int.mul_add, ← Int.mul_assoc, Int.mul_comm p 3]
/-- One round of the loop that makes digits. -/
theorem base_round {l : List UInt8} {m : Int} (h0 : 0 ≤ m) : p3 l.length * m + baseL l = p3 (l.length + 1) * (m / 3) + baseL (chr (m % 3) :: l) := by
  have h := (chr_dig (d := m % 3) (by omega) (by omega)).1
  rw [baseL_cons, h, div3]; simp only [p3]; omega
theorem rank_round {l : List UInt8} {m : Int} (h0 : 1 ≤ m) : p3 l.length * m + rankL l = p3 (l.length + 1) * ((m - 1) / 3) + rankL (chr ((m - 1) % 3) :: l) := by
  have h := (chr_dig (d := (m - 1) % 3) (by omega) (by omega)).1
  rw [rankL_cons, h]
  have e := div3 (p3 l.length) (m - 1)
  rw [Int.mul_sub] at e
  rw [Int.mul_add]; simp only [p3]; omega
theorem letsB_cons (c : UInt8) (l : List UInt8) : letsB (c :: l) = (letB c && letsB l) := rfl
theorem dig_inj {a b : UInt8} (h : digI a = digI b) : a = b := by
  unfold digI at h
  exact UInt8.toNat_inj.1 (by omega)
theorem rankL_inj {a b : List UInt8} (ha : letsB a = true) (hb : letsB b = true) (h : rankL a = rankL b) : a = b := by
  induction a using snocInd generalizing b with
  | h0 =>
    have h2 := baseL_bd b hb
    rw [rank_base b] at h
    have h3 : rankL [] = 0 := rfl
    have h4 := shN_nonneg b.length
    rcases b with _ | ⟨x, b⟩
    · rfl
    · have h5 := shN_succ3 b.length
      have h6 := shN_nonneg b.length
      simp only [List.length_cons] at h h2
      omega
  | h1 a c ih =>
    rw [letsB_snoc, Bool.and_eq_true] at ha
    have hc := letB_dig ha.2
    have hz : 0 ≤ rankL a := by have h1 := baseL_bd a ha.1; have h2 := shN_nonneg a.length; rw [rank_base]; omega
    revert hb h
    induction b using snocInd with
    | h0 =>
      intro _ h
      rw [rankL_snoc] at h
      have h3 : rankL [] = 0 := rfl
      omega
    | h1 b d _ =>
      intro hb h
      rw [letsB_snoc, Bool.and_eq_true] at hb
      have hd := letB_dig hb.2
      rw [rankL_snoc, rankL_snoc] at h
      have e1 : rankL a = rankL b := by omega
      have e2 : digI c = digI d := by omega
      rw [ih ha.1 hb.1 e1, dig_inj e2]
theorem rankL_ge (l : List UInt8) (h : letsB l = true) : shN l.length ≤ rankL l ∧ rankL l < shN (l.length + 1) := by
  have := baseL_bd l h
  rw [rank_base]
  have : shN (l.length + 1) = shN l.length + p3 l.length := rfl
  omega
/-- The word with a number (fuel: the number of letters). -/
def watL : Nat → Int → List UInt8
  | 0, _ => []
  | f + 1, n => if n ≤ 0 then [] else watL f ((n - 1) / 3) ++ [chr ((n - 1) % 3)]
theorem watL_spec (f : Nat) (n : Int) (h0 : 0 ≤ n) (h : n < shN (f + 1)) : letsB (watL f n) = true ∧ (watL f n).length ≤ f ∧ rankL (watL f n) = n := by
  induction f generalizing n with
  | zero => have : shN (0 + 1) = 1 := rfl; exact ⟨rfl, Nat.le_refl _, by show (0 : Int) = n; omega⟩
  | succ f ih =>
    unfold watL
    split
    · exact ⟨rfl, by simp, by show (0 : Int) = n; omega⟩
    · have e := shN_succ3 (f + 1)
      obtain ⟨h1, h2, h3⟩ := ih ((n - 1) / 3) (by omega) (by omega)
      have hc := chr_dig (d := (n - 1) % 3) (by omega) (by omega)
      refine ⟨by rw [letsB_snoc, h1, hc.2]; rfl, by simp; omega, ?_⟩
      rw [rankL_snoc, h3, hc.1]; omega
def wat (n : Int) : List UInt8 := watL 8 n
theorem wat_spec {n : Int} (h0 : 0 ≤ n) (h : n ≤ 9840) : wordB (wat n) = true ∧ rankL (wat n) = n := by
  have e : shN (8 + 1) = 9841 := by decide
  obtain ⟨h1, h2, h3⟩ := watL_spec 8 n h0 (by omega)
  exact ⟨wordB_iff.2 ⟨h1, h2⟩, h3⟩
theorem wat_eq {l : List UInt8} {n : Int} (h : letsB l = true) (hr : rankL l = n) (h9 : n ≤ 9840) : l = wat n := by
  have h0 : 0 ≤ n := by have := rankL_ge l h; have := shN_nonneg l.length; omega
  obtain ⟨h1, h2⟩ := wat_spec h0 h9
  exact rankL_inj h (wordB_iff.1 h1).1 (by omega)
theorem len_of_rank {l : List UInt8} {k : Nat} (h : letsB l = true) (hr : rankL l < shN (k + 1)) : l.length ≤ k := by
  rcases Nat.lt_or_ge k l.length with hlt | hge
  · have h1 := (rankL_ge l h).1
    have h2 := shN_mono (a := k + 1) (b := l.length) (by omega)
    omega
  · exact hge

/-- A word turned; the empty word for other texts. -/
def turnL (l : List UInt8) : List UInt8 := if wordB l = true then l.reverse else []
theorem cut_one (s : ByteArray) (k : Nat) (h : k < s.size) (l : List UInt8) : s.extract k (k + 1) ++ ⟨l.toArray⟩ = ⟨(s[k] :: l).toArray⟩ := by
  apply ByteArray.ext
  apply Array.ext'
  simp only [ByteArray.data_append, ByteArray.data_extract, Array.toList_append, Array.toList_extract, List.extract_eq_take_drop]
  simp
  rw [List.take_one, List.head?_drop, List.getElem?_eq_getElem (by simpa using h)]
  rfl
theorem app_str (a b : List UInt8) : (⟨a.toArray⟩ : ByteArray) ++ ⟨b.toArray⟩ = ⟨(a ++ b).toArray⟩ := by
  apply ByteArray.ext
  apply Array.ext'
  simp [ByteArray.data_append]
end Go.Proofs.Ytcphbncgkemdoaa
