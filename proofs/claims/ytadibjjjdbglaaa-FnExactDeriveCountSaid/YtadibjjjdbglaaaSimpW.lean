/-
  Simplified expressions: the program's walks.
-/
import Derived.Test.YtadibjjjdbglaaaSame
import Derived.Test.YtadibjjjdbglaaaTurn
namespace Go.Proofs.Ytadibjjjdbglaaa
open Go.RowKit
set_option linter.unusedVariables false
set_option maxRecDepth 100000

/-- What leaves a slice that reads as some parts, fresh or not. -/
def RetP (w : World) (x : List Pt) (r : Ending) (w' : World) : Prop :=
  ∃ A c, r = .returned (.slice A x.length c) ∧ SL w' w'.heap.size A x.length c x ∧ Below w.heap.size w w'
theorem OwnD.ret {w : World} {x : List Pt} {r : Ending} {w' : World} (h : OwnD w x r w') (hl : x.length ≤ 1000000000) : RetP w x r w' := by
  obtain ⟨A, c, h1, h2, -, h3⟩ := h.sl hl
  exact ⟨A, c, h1, h2, h3⟩
theorem RetP.behind {w w1 w2 : World} {x : List Pt} {r : Ending} (hb : Below w.heap.size w w1) (h : RetP w1 x r w2) : RetP w x r w2 := by
  obtain ⟨A, c, h1, h2, h3⟩ := h
  exact ⟨A, c, h1, h2, hb.trans (h3.mono hb.size)⟩
theorem OwnD.behind {w w1 w2 : World} {x : List Pt} {r : Ending} (hb : Below w.heap.size w w1) (h : OwnD w1 x r w2) : OwnD w x r w2 := by
  obtain ⟨v, h0, h1, h2⟩ := h
  exact ⟨v, h0, own_base h1 hb.size, hb.trans (h2.mono hb.size)⟩
theorem RetP.of {w : World} {A : Option Addr} {n c : Nat} {x : List Pt} (h : SL w w.heap.size A n c x) {w' : World} (hb : Below w.heap.size w w') : RetP w x (.returned (.slice A n c)) w' := by
  have := h.1.1
  subst this
  exact ⟨A, c, rfl, h.up hb, hb⟩
theorem Ex.isK_big {t : Ex} (h : ¬ t.sz = 1) (k : Int) : t.isK k = false := by
  cases t with
  | leaf k' l => exact absurd rfl h
  | un k' a => rfl
  | bin k' a b => rfl
theorem Ex.isK_one {t : Ex} (h : t.sz = 1) (k : Int) : t.isK k = decide (t.kind = k) := by
  cases t with
  | leaf k' l => rfl
  | un k' a => simp only [sz] at h; have := sz_pos a; omega
  | bin k' a b => simp only [sz] at h; have := sz_pos a; omega
theorem isKind_any (t : Ex) (w : World) (A : Option Addr) (n c : Nat) (k : Int) (h : PS w w.heap.size A n t.flat) (hn : n ≤ 1000000000) :
    Calls Try.prog 104 #[.slice A n c, .int .i64 k] w fun r w' => r = .returned (.bool (t.isK k)) ∧ w = w' := by
  obtain ⟨b, off, m, rfl, hbB, hnm, hm, hk, hl⟩ := h.last
  have hlen := h.len
  by_cases h1 : n = 1
  · have hm0 : m = 0 := by omega
    subst hm0
    subst h1
    have HK := Lib.hid (Ex.isK_one hlen.symm k)
    simp only [Nat.zero_mul, Nat.add_zero] at hk
    clear h hlen hnm hm
    go_enter Try.func104, Try.ntmps104
    go_wp2
    go_ret
    exact ⟨ret_bool (by rw [HK.out]; rfl), rfl⟩
  · have hn1 : ((n : Int) == 1) = false := by simp; omega
    have HK := Lib.hid (Ex.isK_big (t := t) (by omega) k)
    clear h hlen hnm hm h1
    go_enter Try.func104, Try.ntmps104
    go_wp2
    go_ret
    exact ⟨ret_bool HK.out.symm, rfl⟩
theorem l5Is_any (t : Ex) (w : World) (A : Option Addr) (n c : Nat) (k : Int) (h : PS w w.heap.size A n t.flat) (hn : n ≤ 1000000000) :
    Calls Try.prog 106 #[.slice A n c, .int .i64 k] w fun r w' => r = .returned (.bool (t.isK k)) ∧ w = w' := by
  obtain ⟨b, off, m, rfl, hbB, hnm, hm, hk, hl⟩ := h.last
  have hlen := h.len
  by_cases h1 : n = 1
  · have hm0 : m = 0 := by omega
    subst hm0
    subst h1
    have HK := Lib.hid (Ex.isK_one hlen.symm k)
    simp only [Nat.zero_mul, Nat.add_zero] at hk
    clear h hlen hnm hm
    go_enter Try.func106, Try.ntmps106
    go_wp2
    go_ret
    exact ⟨ret_bool (by rw [HK.out]; rfl), rfl⟩
  · have hn1 : ((n : Int) == 1) = false := by simp; omega
    have HK := Lib.hid (Ex.isK_big (t := t) (by omega) k)
    clear h hlen hnm hm h1
    go_enter Try.func106, Try.ntmps106
    go_wp2
    go_ret
    exact ⟨ret_bool HK.out.symm, rfl⟩
theorem ends_any (t : Ex) (w : World) (A : Option Addr) (n c : Nat) (k : Int) (h : PS w w.heap.size A n t.flat) (hn : n ≤ 1000000000) :
    Calls Try.prog 102 #[.slice A n c, .int .i64 k] w fun r w' => r = .returned (.bool (decide (t.kind = k))) ∧ w = w' := by
  obtain ⟨b, off, m, rfl, hbB, hnm, hm, hk, hl⟩ := h.last
  obtain ⟨K, hK⟩ : ∃ K, t.kind = K := ⟨_, rfl⟩
  rw [hK] at hk
  have HK := Lib.hid hK
  have n1 : 1 ≤ n := by omega
  have HNM := Lib.hid hnm
  clear h hnm hK
  go_enter Try.func102, Try.ntmps102
  go_wp2
  go_ret
  exact ⟨ret_bool (by rw [HK.out]; rfl), rfl⟩
theorem leaf_any (w : World) (k : Int) : Calls Try.prog 95 #[.int .i64 k] w (OwnD w [(k, 0)]) := by
  go_enter Try.func95, Try.ntmps95
  go_wp2
  go_ret
  exact ⟨_, rfl, World.ownsRow_lit (base := w.heap.size) (e := 45) (size := 2) w #[.int .i64 k, .int .i64 0] 1 (Nat.le_refl _) (by simp [maxLen]) rfl, (Below.refl _ _).alloc (Nat.le_refl _) _⟩
theorem operation_any (w : World) (G : Option Addr) (m c : Nat) (xs : List SlV) (k : Int) (h : RowS w w.heap.size G m xs) (hm : m ≤ 1000) (hT : (cats xs).length ≤ 500000000) :
    Calls Try.prog 103 #[.int .i64 k, .slice G m c] w (OwnD w (cats xs ++ [(k, 0)])) := by
  have HR := hide h
  have HT := Lib.hid hT
  clear h hT
  go_enter Try.func103, Try.ntmps103
  go_wp2_with fail
  refine (concat_any _ G m c xs (unhide HR) hm HT.out).mono ?_
  rintro r w1 ⟨v, rfl, hown, hb⟩
  have HO := hide hown
  clear hown
  go_wp2_with (at_builtin; go_must (refine wpList_append_parts rfl (.tmp 6) (.tmp 9) rfl w.heap.size (w1.heap.size + 1) v (cats xs).length (cats xs) rfl ((unhide HO).alloc _) (some ⟨w1.heap.size, 0, none⟩) 1 1 [(k, 0)] rfl (fun h => nomatch h) (PS.one _ _ _ _ _ (Nat.lt_succ_self _)) ?_ ?_ ?_); go_must (have := HT.out; omega); go_must (exact le_alloc hb.size); go_must (intro v' w' hown' hgrow))
  go_ret
  refine ⟨v', rfl, ?_, (hb.alloc hb.size _).grown hgrow (le_alloc hb.size) (own_block (unhide HO))⟩
  rw [List.length_append, List.length_singleton]
  exact hown'
end Go.Proofs.Ytadibjjjdbglaaa
