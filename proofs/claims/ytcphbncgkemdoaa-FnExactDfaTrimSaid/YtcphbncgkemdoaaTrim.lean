/-
  Automata without the states that cannot be reached: the plain law.
-/
import Derived.Test.YtcphbncgkemdoaaDfaV2
namespace Go.Proofs.Ytcphbncgkemdoaa
open Go.RowKit
set_option linter.unusedVariables false
set_option maxRecDepth 100000

/-- The next state. -/
def nx (rows : List (List Int)) (s : Int) (c : Nat) : Int := (rows.getD s.toNat []).getD c 0
/-- A state that is met. -/
def insI (M : List Int) (x : Int) : List Int := if x ∈ M then M else M ++ [x]
/-- Those met behind the first letters of a state. -/
def mIn (rows : List (List Int)) (s : Int) : Nat → List Int → List Int
  | 0, M => M
  | c + 1, M => insI (mIn rows s c M) (nx rows s c)
/-- Those met behind the first k states. -/
def mst (rows : List (List Int)) : Nat → List Int
  | 0 => [0]
  | k + 1 => if k < (mst rows k).length then mIn rows ((mst rows k).getD k 0) 3 (mst rows k) else mst rows k
def ord (rows : List (List Int)) : List Int := mst rows rows.length
/-- The place of a state. -/
def nmI (M : List Int) (x : Int) : Int := if x ∈ M then (M.idxOf x : Int) else -1
def tRow (rows : List (List Int)) (M : List Int) (j : Nat) : List Int := [nmI M (nx rows (M.getD j 0) 0), nmI M (nx rows (M.getD j 0) 1), nmI M (nx rows (M.getD j 0) 2)]
/-- What both answer. -/
def trimR (rows : List (List Int)) : List (List Int) := (List.range (ord rows).length).map (tRow rows (ord rows))
def trimE (rows : List (List Int)) (bs : List Bool) : List Bool := (List.range (ord rows).length).map fun j => bs.getD ((ord rows).getD j 0).toNat false
/-- Different states. -/
def GoodM (N : Nat) (M : List Int) : Prop := M.Nodup ∧ ∀ x ∈ M, 0 ≤ x ∧ x < (N : Int)
theorem nodup_le : ∀ (N : Nat) (M : List Int), M.Nodup → (∀ x ∈ M, 0 ≤ x ∧ x < (N : Int)) → M.length ≤ N := by
  intro N
  induction N with
  | zero =>
    intro M _ h
    cases M with
    | nil => simp
    | cons x r => have := h x (by simp); omega
  | succ N ih =>
    intro M hn h
    have h1 := ih (M.erase (N : Int)) (hn.erase _) (fun x hx => by
      have hx1 := (List.Nodup.mem_erase_iff hn).1 hx
      have := h x hx1.2
      have hne := hx1.1
      omega)
    by_cases hm : (N : Int) ∈ M
    · have := List.length_erase_of_mem hm
      omega
    · rw [List.erase_of_not_mem hm] at h1; omega
theorem GoodM.len {N : Nat} {M : List Int} (h : GoodM N M) : M.length ≤ N := nodup_le N M h.1 h.2
theorem GoodM.full {N : Nat} {M : List Int} (h : GoodM N M) (hl : M.length = N) {x : Int} (hx : 0 ≤ x ∧ x < (N : Int)) : x ∈ M := by
  by_cases hm : x ∈ M
  · exact hm
  · exfalso
    have h1 := nodup_le N (x :: M) (List.nodup_cons.2 ⟨hm, h.1⟩) (fun y hy => by
      rcases List.mem_cons.1 hy with rfl | hy
      · exact hx
      · exact h.2 y hy)
    simp at h1; omega
theorem GoodM.ins {N : Nat} {M : List Int} (h : GoodM N M) {x : Int} (hx : 0 ≤ x ∧ x < (N : Int)) : GoodM N (insI M x) := by
  unfold insI
  split
  · exact h
  · rename_i hm
    refine ⟨?_, fun y hy => ?_⟩
    · rw [List.nodup_append]
      refine ⟨h.1, by simp, ?_⟩
      intro a ha b hb
      simp at hb
      subst hb
      intro e
      subst e
      exact hm ha
    · rcases List.mem_append.1 hy with hy | hy
      · exact h.2 y hy
      · simp at hy; subst hy; exact hx
/-- Are the rows those of a valid automaton? -/
def RowsB (rows : List (List Int)) : Prop := ∀ z ∈ rows, rowB (rows.length : Int) z = true
theorem nx_in {rows : List (List Int)} (h : RowsB rows) {s : Int} (hs : 0 ≤ s ∧ s < (rows.length : Int)) {c : Nat} (hc : c < 3) : 0 ≤ nx rows s c ∧ nx rows s c < (rows.length : Int) := by
  have hl : s.toNat < rows.length := by omega
  have h1 := h (rows.getD s.toNat []) (by rw [List.getD_eq_getElem?_getD, List.getElem?_eq_getElem hl]; exact List.getElem_mem hl)
  rw [rowB, Bool.and_eq_true, decide_eq_true_eq, List.all_eq_true] at h1
  have hl2 : c < (rows.getD s.toNat []).length := by rw [h1.1]; exact hc
  have h2 := h1.2 (nx rows s c) (by unfold nx; rw [List.getD_eq_getElem?_getD (l := rows.getD s.toNat []), List.getElem?_eq_getElem hl2]; exact List.getElem_mem hl2)
  have := inB_true.1 h2
  omega
theorem mIn_good {rows : List (List Int)} (h : RowsB rows) {s : Int} (hs : 0 ≤ s ∧ s < (rows.length : Int)) {M : List Int} (hM : GoodM rows.length M) : ∀ c, c ≤ 3 → GoodM rows.length (mIn rows s c M) := by
  intro c
  induction c with
  | zero => intro _; exact hM
  | succ c ih => intro hc; exact (ih (by omega)).ins (nx_in h hs (by omega))
theorem insI_pre (M : List Int) (x : Int) : M <+: insI M x := by unfold insI; split; exact List.prefix_refl _; exact List.prefix_append _ _
theorem mIn_pre (rows : List (List Int)) (s : Int) (M : List Int) (c : Nat) : M <+: mIn rows s c M := by
  induction c with
  | zero => exact List.prefix_refl _
  | succ c ih => exact ih.trans (insI_pre _ _)
theorem mIn_pre2 (rows : List (List Int)) (s : Int) (M : List Int) {c d : Nat} (h : c ≤ d) : mIn rows s c M <+: mIn rows s d M := by
  induction d with
  | zero => rw [show c = 0 by omega]; exact List.prefix_refl _
  | succ d ih =>
    by_cases e : c = d + 1
    · subst e; exact List.prefix_refl _
    · exact (ih (by omega)).trans (insI_pre _ _)
theorem mem_getD {M : List Int} {k : Nat} (h : k < M.length) : M.getD k 0 ∈ M := by rw [List.getD_eq_getElem?_getD, List.getElem?_eq_getElem h]; exact List.getElem_mem h
theorem mst_good {rows : List (List Int)} (h : RowsB rows) (h0 : 0 < rows.length) (k : Nat) : GoodM rows.length (mst rows k) := by
  induction k with
  | zero => exact ⟨by simp [mst], fun x hx => by simp [mst] at hx; omega⟩
  | succ k ih =>
    rw [mst]
    split
    · rename_i hlt
      exact mIn_good h (ih.2 _ (mem_getD hlt)) ih 3 (by omega)
    · exact ih
theorem mst_pre (rows : List (List Int)) (k : Nat) : mst rows k <+: mst rows (k + 1) := by
  rw [mst]
  split
  · exact mIn_pre _ _ _ _
  · exact List.prefix_refl _
theorem mst_pre2 (rows : List (List Int)) {k d : Nat} (h : k ≤ d) : mst rows k <+: mst rows d := by
  induction d with
  | zero => rw [show k = 0 by omega]; exact List.prefix_refl _
  | succ d ih =>
    by_cases e : k = d + 1
    · subst e; exact List.prefix_refl _
    · exact (ih (by omega)).trans (mst_pre _ _)
theorem mst_stop (rows : List (List Int)) {k : Nat} (h : (mst rows k).length ≤ k) (d : Nat) : mst rows (k + d) = mst rows k := by
  induction d with
  | zero => rfl
  | succ d ih =>
    rw [← Nat.add_assoc, mst, ih, if_neg (by omega)]
theorem mst_end {rows : List (List Int)} (h : RowsB rows) (h0 : 0 < rows.length) {k : Nat} (hk : k = (mst rows k).length) : ord rows = mst rows k := by
  have h1 := (mst_good h h0 k).len
  have h2 := mst_stop rows (k := k) (by omega) (rows.length - k)
  rw [ord, ← h2]
  congr 1; omega
theorem mst_ord {rows : List (List Int)} {k : Nat} (hk : k ≤ rows.length) : mst rows k <+: ord rows := mst_pre2 rows hk
theorem mst_in {rows : List (List Int)} {k : Nat} (h : k < (mst rows k).length) : mst rows (k + 1) = mIn rows ((mst rows k).getD k 0) 3 (mst rows k) := by rw [mst, if_pos h]
theorem pre_getD {M O : List Int} (h : M <+: O) {k : Nat} (hk : k < M.length) : O.getD k 0 = M.getD k 0 := by
  obtain ⟨r, rfl⟩ := h
  rw [List.getD_eq_getElem?_getD, List.getD_eq_getElem?_getD, List.getElem?_append_left hk]
theorem pre_nm {M O : List Int} (h : M <+: O) {x : Int} (hx : x ∈ M) : nmI O x = (M.idxOf x : Int) := by
  obtain ⟨r, rfl⟩ := h
  rw [nmI, if_pos (List.mem_append_left _ hx), List.idxOf_append, if_pos hx]
theorem ins_mem {M : List Int} {x : Int} : x ∈ insI M x := by
  unfold insI
  split
  · assumption
  · simp
/-- The place of a state that is met at a step. -/
theorem step_nm {rows : List (List Int)} {k c : Nat} (hk : k < (mst rows k).length) (hN : k + 1 ≤ rows.length) (hc : c < 3) :
    nmI (ord rows) (nx rows ((mst rows k).getD k 0) c) = ((mIn rows ((mst rows k).getD k 0) (c + 1) (mst rows k)).idxOf (nx rows ((mst rows k).getD k 0) c) : Int) := by
  refine pre_nm ?_ ins_mem
  have h1 := mIn_pre2 rows ((mst rows k).getD k 0) (mst rows k) (show c + 1 ≤ 3 by omega)
  rw [← mst_in hk] at h1
  exact h1.trans (mst_ord hN)
theorem ord_at {rows : List (List Int)} {k : Nat} (hk : k < (mst rows k).length) (hN : k ≤ rows.length) : (ord rows).getD k 0 = (mst rows k).getD k 0 := pre_getD (mst_ord hN) hk
theorem tRow_at {rows : List (List Int)} {k : Nat} (hk : k < (mst rows k).length) (hN : k ≤ rows.length) :
    tRow rows (ord rows) k = [nmI (ord rows) (nx rows ((mst rows k).getD k 0) 0), nmI (ord rows) (nx rows ((mst rows k).getD k 0) 1), nmI (ord rows) (nx rows ((mst rows k).getD k 0) 2)] := by rw [tRow, ord_at hk hN]
end Go.Proofs.Ytcphbncgkemdoaa
