/-
  The number of derivatives: the plain law.
-/
import Derived.Test.YtadibjjjdbglaaaDerWord
import Derived.Test.YtadibjjjdbglaaaTxt
import Derived.Maps.OwnSet
namespace Go.Proofs.Ytadibjjjdbglaaa
open Go.RowKit
set_option linter.unusedVariables false
set_option maxRecDepth 100000

/-- The derivative by a letter, if there is one. -/
noncomputable def dO (c : Int) (e : List Pt) : Option (List Pt) := if (derF c e).1 = true then some (derF c e).2 else none
noncomputable def kids (e : List Pt) : List (List Pt) := (dO 0 e).toList ++ (dO 1 e).toList ++ (dO 2 e).toList
/-- The derivatives by the words of k letters, in order. -/
noncomputable def lev (e : List Pt) : Nat → List (List Pt)
  | 0 => [e]
  | k + 1 => (lev e k).flatMap kids
/-- Those by shorter words than of k letters. -/
noncomputable def upTo (e : List Pt) : Nat → List (List Pt)
  | 0 => []
  | k + 1 => upTo e k ++ lev e k
/-- The derivative by a word, if there is one. -/
noncomputable def dwO (s : List UInt8) (e : List Pt) : Option (List Pt) := if (dwF s e).1 = true then some (dwF s e).2 else none
/-- The derivatives by n words, from number a on. -/
noncomputable def seg (e : List Pt) (a : Nat) : Nat → List (List Pt)
  | 0 => []
  | n + 1 => seg e a n ++ (dwO (wat ((a + n : Nat) : Int)) e).toList
theorem dO_ok {c : Int} {e y : List Pt} (h : dO c e = some y) : exprB y = true := by
  unfold dO at h
  split at h
  · rename_i h1
    injection h with h
    subst h
    rcases hv : exprB e
    · rw [derF_none hv] at h1; cases h1
    · obtain ⟨t, hg, rfl, hs⟩ := exprB_iff.1 hv
      rw [derF_tree hg hs] at h1 ⊢
      split at h1
      · rename_i h2
        rw [if_pos h2]
        refine exprB_flat (Ex.der_good hg) ?_
        have := Ex.flat_length (Ex.der c t)
        omega
      · cases h1
  · cases h
theorem dwO_snoc (s : List UInt8) (c : UInt8) (e : List Pt) : dwO (s ++ [c]) e = (dwO s e).bind (dO (digI c)) := by
  induction s generalizing e with
  | nil =>
    simp only [dwO, dO, List.nil_append, dwF, Option.bind, if_true]
    split <;> simp
  | cons d r ih =>
    have h1 : ∀ q : List UInt8, dwO (d :: q) e = (dO (digI d) e).bind (dwO q) := by
      intro q
      simp only [dwO, dO, dwF]
      split <;> simp [dwO]
    rw [List.cons_append, h1, h1]
    cases dO (digI d) e with
    | none => rfl
    | some y => exact ih y
theorem wat_child {r : Nat} {d : Int} (h0 : 0 ≤ d) (h2 : d ≤ 2) (h : 3 * (r : Int) + d + 1 ≤ 9840) : wat (3 * (r : Int) + d + 1) = wat r ++ [chr d] := by
  obtain ⟨h1, h3⟩ := wat_spec (n := (r : Int)) (by omega) (by omega)
  obtain ⟨h4, h5⟩ := chr_dig h0 h2
  refine (wat_eq ?_ ?_ h).symm
  · rw [letsB_snoc, (wordB_iff.1 h1).1, h5]; rfl
  · rw [rankL_snoc, h3, h4]
theorem dwO_kids (e : List Pt) {r : Nat} (h : 3 * r + 3 ≤ 9840) :
    (dwO (wat ((3 * r + 1 : Nat) : Int)) e).toList ++ (dwO (wat ((3 * r + 2 : Nat) : Int)) e).toList ++ (dwO (wat ((3 * r + 3 : Nat) : Int)) e).toList = (dwO (wat (r : Int)) e).toList.flatMap kids := by
  have e0 : wat ((3 * r + 1 : Nat) : Int) = wat r ++ [chr 0] := by
    have := wat_child (r := r) (d := 0) (by omega) (by omega) (by omega)
    rw [← this]; congr 1
  have e1 : wat ((3 * r + 2 : Nat) : Int) = wat r ++ [chr 1] := by
    have := wat_child (r := r) (d := 1) (by omega) (by omega) (by omega)
    rw [← this]; congr 1
  have e2 : wat ((3 * r + 3 : Nat) : Int) = wat r ++ [chr 2] := by
    have := wat_child (r := r) (d := 2) (by omega) (by omega) (by omega)
    rw [← this]; congr 1
  rw [e0, e1, e2, dwO_snoc, dwO_snoc, dwO_snoc, (chr_dig (d := 0) (by omega) (by omega)).1, (chr_dig (d := 1) (by omega) (by omega)).1, (chr_dig (d := 2) (by omega) (by omega)).1]
  cases dwO (wat (r : Int)) e with
  | none => rfl
  | some y => simp [kids]
theorem seg_kids (e : List Pt) (a n : Nat) (h : 3 * (a + n) ≤ 9840) : (seg e a n).flatMap kids = seg e (3 * a + 1) (3 * n) := by
  induction n with
  | zero => rfl
  | succ n ih =>
    rw [seg, List.flatMap_append, ih (by omega), ← dwO_kids e (by omega)]
    show _ = seg e (3 * a + 1) (3 * n + 1 + 1 + 1)
    rw [seg, seg, seg]
    have q0 : 3 * a + 1 + 3 * n = 3 * (a + n) + 1 := by omega
    have q1 : 3 * a + 1 + (3 * n + 1) = 3 * (a + n) + 2 := by omega
    have q2 : 3 * a + 1 + (3 * n + 1 + 1) = 3 * (a + n) + 3 := by omega
    rw [q0, q1, q2]
    simp only [List.append_assoc]
theorem seg_add (e : List Pt) (a m n : Nat) : seg e a (m + n) = seg e a m ++ seg e (a + m) n := by
  induction n with
  | zero => simp [seg]
  | succ n ih => rw [← Nat.add_assoc, seg, seg, ih, List.append_assoc, Nat.add_assoc]
/-- How many words are shorter than k letters. -/
def shM : Nat → Nat
  | 0 => 0
  | k + 1 => 3 * shM k + 1
theorem shM_eq (k : Nat) : (shM k : Int) = shN k := by
  induction k with
  | zero => rfl
  | succ k ih => rw [shN_succ3, ← ih]; simp [shM]
theorem lev_seg (e : List Pt) (k : Nat) (hk : k ≤ 5) : lev e k = seg e (shM k) (shM (k + 1) - shM k) ∧ upTo e k = seg e 0 (shM k) := by
  have hm : shM k ≤ 364 := by
    rcases (show k = 0 ∨ k = 1 ∨ k = 2 ∨ k = 3 ∨ k = 4 ∨ k = 5 by omega) with rfl | rfl | rfl | rfl | rfl | rfl <;> decide
  clear hk
  induction k with
  | zero =>
    refine ⟨?_, rfl⟩
    have hw : wat 0 = [] := by decide
    show [e] = [] ++ (dwO (wat ((0 + 0 : Nat) : Int)) e).toList
    rw [show wat ((0 + 0 : Nat) : Int) = [] from hw]
    rfl
  | succ k ih =>
    have hm' : shM k ≤ 364 ∧ 3 * shM k + 1 ≤ 364 := by rw [shM] at hm; omega
    obtain ⟨h1, h2⟩ := ih hm'.1
    constructor
    · rw [lev, h1, seg_kids _ _ _ (by simp only [shM]; omega)]
      have q : 3 * (shM (k + 1) - shM k) = shM (k + 1 + 1) - shM (k + 1) := by simp only [shM]; omega
      rw [q]; rfl
    · rw [upTo, h1, h2]
      have := seg_add e 0 (shM k) (shM (k + 1) - shM k)
      rw [Nat.zero_add, show shM k + (shM (k + 1) - shM k) = shM (k + 1) by simp only [shM]; omega] at this
      exact this.symm
/-- Another one is put behind the others. -/
def ins (l : List (List Pt)) (x : List Pt) : List (List Pt) := if x ∈ l then l else l ++ [x]
open Classical in
/-- The text of some parts. -/
noncomputable def txtO (e : List Pt) : List UInt8 := match treeOf e with
  | none => []
  | some t => t.txt
noncomputable def litO (e : List Pt) : Lit := .string (txtO e)
theorem txtO_tree {t : Ex} (hg : t.good) (hs : t.sz ≤ 60) : txtO t.flat = t.txt := by unfold txtO; rw [treeOf_flat hg hs]
theorem litO_inj {x y : List Pt} (hx : exprB x = true) (hy : exprB y = true) (h : litO x = litO y) : x = y := by
  obtain ⟨t, hg, rfl, hs⟩ := exprB_iff.1 hx
  obtain ⟨u, hg', rfl, hs'⟩ := exprB_iff.1 hy
  unfold litO at h
  rw [txtO_tree hg hs, txtO_tree hg' hs'] at h
  injection h with h
  exact txt_inj hg hg' h
theorem litO_key (x : List Pt) : WideAt.IsKeyLit (litO x) := by unfold litO; simp [WideAt.IsKeyLit]
theorem addKey_ins (xs l : List (List Pt)) (hx : ∀ x ∈ xs, exprB x = true) (hl : ∀ x ∈ l, exprB x = true) : (xs.map litO).foldl Maps.addKey (l.map litO) = (xs.foldl ins l).map litO := by
  induction xs generalizing l with
  | nil => rfl
  | cons x r ih =>
    have hx0 := hx x (by simp)
    have step : Maps.addKey (l.map litO) (litO x) = (ins l x).map litO := by
      unfold Maps.addKey ins
      by_cases hm : x ∈ l
      · rw [if_pos hm, if_pos]
        rw [List.any_eq_true]
        exact ⟨litO x, List.mem_map.2 ⟨x, hm, rfl⟩, WideAt.sameKey_self (litO_key x)⟩
      · rw [if_neg hm, if_neg, List.map_append]
        · rfl
        · intro h
          obtain ⟨y, hy, hs⟩ := List.any_eq_true.1 h
          obtain ⟨z, hz, rfl⟩ := List.mem_map.1 hy
          exact hm (litO_inj (hl z hz) hx0 (WideAt.sameKey_eq hs) ▸ hz)
    rw [List.map_cons, List.foldl_cons, List.foldl_cons, step]
    refine ih _ (fun y hy => hx y (by simp [hy])) ?_
    intro y hy
    unfold ins at hy
    split at hy
    · exact hl y hy
    · rcases List.mem_append.1 hy with h | h
      · exact hl y h
      · simp at h; subst h; exact hx0
theorem kids_ok {x y : List Pt} (h : y ∈ kids x) : exprB y = true := by
  unfold kids at h
  simp only [List.mem_append, Option.mem_toList] at h
  rcases h with (h | h) | h <;> exact dO_ok h
theorem lev_ok {e : List Pt} (he : exprB e = true) (k : Nat) : ∀ x ∈ lev e k, exprB x = true := by
  cases k with
  | zero => intro x hx; simp [lev] at hx; subst hx; exact he
  | succ k =>
    intro x hx
    rw [lev, List.mem_flatMap] at hx
    obtain ⟨y, -, hy⟩ := hx
    exact kids_ok hy
theorem upTo_ok {e : List Pt} (he : exprB e = true) (k : Nat) : ∀ x ∈ upTo e k, exprB x = true := by
  induction k with
  | zero => intro x hx; simp [upTo] at hx
  | succ k ih =>
    intro x hx
    rcases List.mem_append.1 hx with h | h
    · exact ih x h
    · exact lev_ok he k x h
/-- The set of the texts of some parts, as a map. -/
noncomputable def textsOf {H : Type} (xs : List (List Pt)) : DataW H := Maps.setOf (.lit (.bool true)) (xs.map litO)
theorem textsOf_snoc {H : Type} (xs : List (List Pt)) (x : List Pt) : (textsOf (xs ++ [x]) : DataW H) = (textsOf xs).put (litO x) (.lit (.bool true)) := by
  unfold textsOf; rw [List.map_append]; exact Maps.setOf_snoc _ _ _
theorem textsOf_size {H : Type} (xs : List (List Pt)) (hx : ∀ x ∈ xs, exprB x = true) : Maps.size (textsOf xs : DataW H) = (xs.foldl ins []).length := by
  unfold textsOf
  rw [Maps.size_setOf _ _ (fun y hy => by obtain ⟨z, -, rfl⟩ := List.mem_map.1 hy; exact litO_key z)]
  have := addKey_ins xs [] hx (by simp)
  rw [List.map_nil] at this
  rw [this, List.length_map]
/-- What both count. -/
noncomputable def dcntI (e : List Pt) (len : Int) : Int := if exprB e = true ∧ inB len 0 4 = true then (((seg e 0 (shM (len.toNat + 1))).foldl ins []).length : Int) else -1
theorem lev_len (e : List Pt) (k : Nat) : (lev e k).length ≤ 3 ^ k := by
  induction k with
  | zero => simp [lev]
  | succ k ih =>
    have h1 : ∀ l : List (List Pt), (l.flatMap kids).length ≤ 3 * l.length := by
      intro l
      induction l with
      | nil => simp
      | cons a l ih2 =>
        have h2 : (kids a).length ≤ 3 := by
          unfold kids
          cases dO 0 a <;> cases dO 1 a <;> cases dO 2 a <;> simp
        rw [List.flatMap_cons, List.length_append, List.length_cons]; omega
    have := h1 (lev e k)
    rw [lev, Nat.pow_succ]; omega
theorem seg_len (e : List Pt) (a n : Nat) : (seg e a n).length ≤ n := by
  induction n with
  | zero => simp [seg]
  | succ n ih =>
    rw [seg, List.length_append]
    cases dwO (wat ((a + n : Nat) : Int)) e <;> simp <;> omega
theorem ins_len (xs l : List (List Pt)) : (xs.foldl ins l).length ≤ l.length + xs.length := by
  induction xs generalizing l with
  | nil => simp
  | cons x r ih =>
    have h1 : (ins l x).length ≤ l.length + 1 := by unfold ins; split <;> simp
    have := ih (ins l x)
    rw [List.foldl_cons, List.length_cons]; omega
end Go.Proofs.Ytadibjjjdbglaaa
