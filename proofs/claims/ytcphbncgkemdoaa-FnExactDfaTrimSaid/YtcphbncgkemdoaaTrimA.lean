/-
  Automata without the states that cannot be reached: order and names; the program's closures.
-/
import Derived.Test.YtcphbncgkemdoaaRoles
import Derived.BigQuiet
namespace Go.Proofs.Ytcphbncgkemdoaa
open Go.RowKit
set_option linter.unusedVariables false
set_option maxRecDepth 100000

theorem intsV_at {w : World} {B : Nat} {A : Option Addr} {n : Nat} {zs : List Int} (h : VS w B A n (zs.map (Value.int .i64))) {i : Nat} (hi : i < n) :
    ∃ b off z, A = some ⟨b, off, none⟩ ∧ b < B ∧ zs[i]? = some z ∧ w.cell? ⟨b, off + i, none⟩ = some (.int .i64 z) := by
  obtain ⟨b, off, v, e, hb, hzq, hc⟩ := h.at hi
  rw [List.getElem?_map] at hzq
  cases hzz : zs[i]? with
  | none => rw [hzz] at hzq; cases hzq
  | some z => rw [hzz] at hzq; injection hzq with hzq; exact ⟨b, off, z, e, hb, rfl, by rw [hc, ← hzq]⟩
theorem nx_at {rs : List RowV} {i c : Nat} {A : Option Addr} {m cp : Nat} {zs : List Int} {z : Int} (hr : rs[i]? = some (A, m, cp, zs)) (hz : zs[c]? = some z) : nx (nums rs) (i : Int) c = z := by
  unfold nx
  rw [Int.toNat_natCast, List.getD_eq_getElem?_getD, List.getD_eq_getElem?_getD, nums, List.getElem?_map, hr]
  simp [hz]
theorem row3 {rs : List RowV} (h : RowsB (nums rs)) {i : Nat} {A : Option Addr} {m c : Nat} {zs : List Int} (hr : rs[i]? = some (A, m, c, zs)) : zs.length = 3 := by
  have h1 := h zs (nums_mem hr)
  rw [rowB, Bool.and_eq_true, decide_eq_true_eq] at h1
  exact h1.1
/-- A step of an automaton in memory: the cells it reads. -/
theorem step_cells {w : World} {A : Option Addr} {n : Nat} {rs : List RowV} (h : RS w w.heap.size A n rs) (hv : RowsB (nums rs)) {s : Int} (hs : 0 ≤ s ∧ s < (n : Int)) {c : Nat} (hc : c < 3) :
    ∃ (i b off b2 off2 cp : Nat) (z : Int), s = (i : Int) ∧ i < n ∧ A = some ⟨b, off, none⟩ ∧ w.cell? ⟨b, off + i, none⟩ = some (.slice (some ⟨b2, off2, none⟩) 3 cp) ∧ w.cell? ⟨b2, off2 + c, none⟩ = some (.int .i64 z) ∧ nx (nums rs) s c = z ∧ b < w.heap.size ∧ b2 < w.heap.size := by
  obtain ⟨i, rfl⟩ : ∃ i : Nat, s = (i : Int) := ⟨s.toNat, by omega⟩
  obtain ⟨b, off, A', m, cp, zs, e1, hb, hr, hc0, hvz, hl, -, -⟩ := h.at (show i < n by omega)
  have hz3 := row3 hv hr
  have hm : m = 3 := by omega
  subst hm
  obtain ⟨b2, off2, z, e2, hb2, hz, hc2⟩ := intsV_at hvz hc
  subst e2
  exact ⟨i, b, off, b2, off2, cp, z, rfl, by omega, e1, hc0, hc2, nx_at hr hz, hb, hb2⟩
theorem VS.keep' {w w' : World} {B : Nat} {A : Option Addr} {n : Nat} {vs : List Value} (h : VS w w.heap.size A n vs) (hb : Below B w w') (hB : ∀ b o, A = some ⟨b, o, none⟩ → b < B) : VS w' w'.heap.size A n vs := by
  refine ⟨h.1, fun hn => ?_⟩
  obtain ⟨b, off, e1, hb1, hc⟩ := h.2 hn
  exact ⟨b, off, e1, Nat.lt_of_lt_of_le hb1 hb.size, fun i v hi => (hb.cell (p := ⟨b, off + i, none⟩) (hB _ _ e1)).trans (hc i v hi)⟩
theorem enter_t1 (args : Array Value) (W : World) : (callFunc 90 args).run Try.prog W = .ok (.enter 90 args) W := rfl
theorem enter_t2 (args : Array Value) (W : World) : (callFunc 91 args).run Try.prog W = .ok (.enter 91 args) W := rfl
theorem trim1_any (w : World) (g : Nat) (A : Option Addr) (n cp : Nat) (rs : List RowV) (s : Int) (c : Nat) (hg : w.cell? ⟨g, 0, none⟩ = some (.slice A n cp)) (h : RS w w.heap.size A n rs) (hn : n ≤ 1048576) (hv : RowsB (nums rs)) (hs : 0 ≤ s ∧ s < (n : Int)) (hc : c < 3) :
    Calls Try.prog 90 #[.int .i64 s, .int .i64 (c : Int), .pointer (some ⟨g, 0, none⟩)] w fun r w' => r = .returned (.int .i64 (nx (nums rs) s c)) ∧ w = w' := by
  obtain ⟨i, b, off, b2, off2, cp2, z, rfl, hi, rfl, h1, h2, h3, -, -⟩ := step_cells h hv hs hc
  rw [h3]
  have i0 : (0 : Int) ≤ (i : Int) := Int.natCast_nonneg _
  have i1 : (i : Int) < (n : Int) := by omega
  have c0 : (0 : Int) ≤ (c : Int) := Int.natCast_nonneg _
  have c1 : (c : Int) < 3 := by omega
  clear h hv hs h3
  go_enter Try.func90, Try.ntmps90
  go_wp2
  go_ret
  exact ⟨rfl, rfl⟩
theorem trim2_any (w : World) (g : Nat) (A2 : Option Addr) (n cp : Nat) (bs : List Bool) (s : Int) (hg : w.cell? ⟨g, 1, none⟩ = some (.slice A2 n cp)) (h : VS w w.heap.size A2 n (bs.map Value.bool)) (hn : n ≤ 1048576) (hs : 0 ≤ s ∧ s < (n : Int)) :
    Calls Try.prog 91 #[.int .i64 s, .pointer (some ⟨g, 0, none⟩)] w fun r w' => r = .returned (.bool (bs.getD s.toNat false)) ∧ w = w' := by
  obtain ⟨i, rfl⟩ : ∃ i : Nat, s = (i : Int) := ⟨s.toNat, by omega⟩
  obtain ⟨b, off, v, rfl, hb, hzq, hc⟩ := h.at (show i < n by omega)
  obtain ⟨x, hx, rfl⟩ : ∃ x, bs[i]? = some x ∧ v = .bool x := by
    rw [List.getElem?_map] at hzq
    cases hzz : bs[i]? with
    | none => rw [hzz] at hzq; cases hzq
    | some z => rw [hzz] at hzq; injection hzq with hzq; exact ⟨z, rfl, hzq.symm⟩
  have hx2 : bs.getD (i : Int).toNat false = x := by rw [Int.toNat_natCast, List.getD_eq_getElem?_getD, hx]; rfl
  rw [hx2]
  have i0 : (0 : Int) ≤ (i : Int) := Int.natCast_nonneg _
  have i1 : (i : Int) < (n : Int) := by omega
  clear h hs hx hx2 hzq
  go_enter Try.func91, Try.ntmps91
  go_wp2
  go_ret
  exact ⟨rfl, rfl⟩
theorem idx_le : ∀ (M : List Int) (k : Nat) (x : Int), M[k]? = some x → M.idxOf x ≤ k := by
  intro M
  induction M with
  | nil => intro k x h; simp at h
  | cons a r ih =>
    intro k x h
    rw [List.idxOf_cons]
    cases k with
    | zero => simp at h; simp [h]
    | succ k =>
      have := ih k x (by simpa using h)
      cases a == x <;> simp <;> omega
theorem idx_first {M : List Int} {k : Nat} {x : Int} (h : ∀ j v, j < k → M[j]? = some v → v ≠ x) (hk : M[k]? = some x) : nmI M x = (k : Int) := by
  have hm : x ∈ M := List.mem_of_getElem? hk
  rw [nmI, if_pos hm]
  have h1 : M.idxOf x < M.length := List.idxOf_lt_length_iff.2 hm
  have h2 : M[M.idxOf x]? = some x := by rw [List.getElem?_eq_getElem h1, List.getElem_idxOf h1]
  have h3 : ¬ M.idxOf x < k := fun h4 => h _ _ h4 h2 rfl
  have h5 : M.idxOf x ≤ k := idx_le M k x hk
  congr 1; omega
theorem idx_none {M : List Int} {n : Nat} {x : Int} (hl : M.length = n) (h : ∀ j v, j < n → M[j]? = some v → v ≠ x) : nmI M x = -1 := by
  rw [nmI, if_neg]
  intro hm
  obtain ⟨j, hj, he⟩ := List.mem_iff_getElem.1 hm
  exact h j x (by omega) (by rw [List.getElem?_eq_getElem hj, he]) rfl
set_option maxHeartbeats 1000000 in
theorem l7Name_any (w : World) (A : Option Addr) (n c : Nat) (M : List Int) (x : Int) (h : VS w w.heap.size A n (M.map (Value.int .i64))) (hn : n ≤ 1048576) :
    Calls Try.prog 79 #[.slice A n c, .int .i64 x] w fun r w' => r = .returned (.int .i64 (nmI M x)) ∧ w = w' := by
  have HL := Lib.hid (show M.length = n by have := h.1; rwa [List.length_map] at this)
  have HH := hide h
  clear h
  go_enter Try.func79, Try.ntmps79
  go_wp2
  go_loop [5] (fun kv => ∃ k : Nat, kv = .int .i64 k ∧ k ≤ n ∧ Hid (∀ j v, j < k → M[j]? = some v → v ≠ x)) (fun kv => n - (intOf kv).toNat)
  case atStart => exact ⟨0, rfl, Nat.zero_le _, Lib.hid (fun j v hj => absurd hj (by omega))⟩
  case round =>
    obtain ⟨k, rfl, hk, hbef⟩ := hrel
    by_cases hlt : k < n
    · obtain ⟨b, off, z, rfl, hb, hz, hc0⟩ := intsV_at (unhide HH) hlt
      have HZ := Lib.hid hz
      have k0 : (0 : Int) ≤ (k : Int) := Int.natCast_nonneg _
      have k1 : (k : Int) < (n : Int) := by omega
      clear hz
      by_cases hzx : z = x
      · subst hzx
        have HR := Lib.hid (idx_first hbef.out HZ.out)
        go_wp2
        go_ret
        exact ⟨ret_int HR.out.symm, rfl⟩
      · have hzx' : (z == x) = false := by simpa using hzx
        go_wp2
        go_round
        case rel =>
          refine ⟨k + 1, by go_num, by omega, Lib.hid fun j v hj hv => ?_⟩
          by_cases hjk : j = k
          · subst hjk
            rw [HZ.out] at hv
            injection hv with hv
            subst hv
            exact hzx
          · exact hbef.out j v (by omega) hv
        case measure => simp [intOf]; omega
    · obtain rfl : k = n := by omega
      have HR := Lib.hid (idx_none HL.out hbef.out)
      go_wp2
      go_ret
      exact ⟨ret_int HR.out.symm, rfl⟩
/-- Marks of the states that are met. -/
def MarkM (w : World) (g n : Nat) (M : List Int) : Prop := ∃ cur : Array Value, w.heap[g]? = some (.cells cur 4 (0, 0)) ∧ cur.size = n ∧ ∀ x : Nat, x < n → cur[x]? = some (.bool (decide ((x : Int) ∈ M)))
theorem MarkM.keep {w w' : World} {g n : Nat} {M : List Int} {row : Option Nat} (h : MarkM w g n M) (hg : w.grownBy w' row) (hr : row ≠ some g) : MarkM w' g n M := by
  obtain ⟨cur, h1, h2, h3⟩ := h
  exact ⟨cur, (hg.block g (blk_lt h1) (fun e => hr e.symm)).trans h1, h2, h3⟩
theorem MarkM.at {w : World} {g n : Nat} {M : List Int} (h : MarkM w g n M) {x : Nat} (hx : x < n) : w.cell? ⟨g, x, none⟩ = some (.bool (decide ((x : Int) ∈ M))) ∧ w.frozen? ⟨g, x, none⟩ = false := by
  obtain ⟨cur, h1, h2, h3⟩ := h
  exact ⟨by rw [cell_of_row w _ _ _ _ _ h1]; exact h3 x hx, by simp [World.frozen?, h1]⟩
theorem MarkM.set {w : World} {g n : Nat} {M : List Int} (h : MarkM w g n M) {x : Nat} (hx : x < n) : MarkM (w.setCell ⟨g, x, none⟩ (.bool true)) g n (M ++ [(x : Int)]) := by
  obtain ⟨cur, h1, h2, h3⟩ := h
  refine ⟨cur.setIfInBounds x (.bool true), heap_set h1 _ _, by simp [h2], fun y hy => ?_⟩
  by_cases e : y = x
  · subst e
    rw [Array.getElem?_setIfInBounds_self_of_lt (by omega)]; simp
  · rw [Array.getElem?_setIfInBounds_ne (by omega), h3 y hy]
    have : ((y : Int) ∈ M ++ [(x : Int)]) ↔ (y : Int) ∈ M := by
      rw [List.mem_append, List.mem_singleton]
      constructor
      · rintro (h | h)
        · exact h
        · exact absurd h (by omega)
      · exact .inl
    rw [decide_eq_decide.2 this]
end Go.Proofs.Ytcphbncgkemdoaa
