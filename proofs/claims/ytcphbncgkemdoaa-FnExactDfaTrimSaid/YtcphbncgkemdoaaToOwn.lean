/-
  Copies of automata, with whose memory they are.
-/
import Derived.Test.YtcphbncgkemdoaaMark
namespace Go.Proofs.Ytcphbncgkemdoaa
open Go.RowKit
set_option linter.unusedVariables false
set_option maxRecDepth 100000

theorem upd_row {k i n : Nat} {a : List Value} {x : Value} (ha : a.length = i) (hi : i < n) : (a ++ List.replicate (n - i) (Value.slice none 0 0)).set i x = (a ++ [x]) ++ List.replicate (n - (i + 1)) (Value.slice none 0 0) := by
  subst ha
  rw [List.set_append_right _ _ (Nat.le_refl _), Nat.sub_self]
  obtain ⟨d, hd⟩ : ∃ d, n - a.length = d + 1 := ⟨n - a.length - 1, by omega⟩
  rw [hd, List.replicate_succ, List.set_cons_zero, show n - (a.length + 1) = d by omega, List.append_assoc]; rfl
/-- What a copy of rows leaves. -/
def CopyO (w : World) (n : Nat) (rs : List RowV) (r : Ending) (w' : World) : Prop :=
  ∃ (f : Nat → Nat) (rs' : List RowV), r = .returned (.slice (some ⟨w.heap.size, 0, none⟩) n n) ∧ nums rs' = nums rs ∧ (∀ r ∈ rs', r.2.1 ≤ 1048576) ∧ RowO f 5 w' w.heap.size 55 (.slice (some ⟨w.heap.size, 0, none⟩) n n) n (rs'.map slV) ∧ (∀ (j : Nat) (r : RowV), rs'[j]? = some r → RowO f (7 + j) w' w.heap.size 3 (slV r) r.2.1 (r.2.2.2.map (Value.int .i64)) ∧ r.2.1 = r.2.2.2.length) ∧ Below w.heap.size w w'
/-- What stands while rows are copied. -/
def CopI (f : Nat → Nat) (w wr : World) (n i : Nat) (rs rs' : List RowV) : Prop :=
  rs'.length = i ∧ nums rs' = (nums rs).take i ∧ (∀ r ∈ rs', r.2.1 ≤ 1048576) ∧ RowO f 5 wr w.heap.size 55 (.slice (some ⟨w.heap.size, 0, none⟩) n n) n (rs'.map slV ++ List.replicate (n - i) (Value.slice none 0 0)) ∧ ∀ (j : Nat) (r : RowV), rs'[j]? = some r → RowO f (7 + j) wr w.heap.size 3 (slV r) r.2.1 (r.2.2.2.map (Value.int .i64)) ∧ r.2.1 = r.2.2.2.length
theorem madeN (n : Nat) : (madeCells (Value.slice none 0 0).cells n).toList = List.replicate n (Value.slice none 0 0) := by
  apply List.ext_getElem?
  intro j
  by_cases hj : j < n
  · rw [List.getElem?_replicate, if_pos hj]
    simp [madeCells, Value.cells, Nat.mod_one]
    exact ⟨j, by simp [hj]⟩
  · rw [List.getElem?_eq_none (by simp [madeCells]; omega), List.getElem?_eq_none (by simp; omega)]
set_option maxHeartbeats 2000000 in
theorem toIntSS_own (w : World) (A : Option Addr) (n c : Nat) (rs : List RowV) (h : RS w w.heap.size A n rs) (hn : n ≤ 1048576) (hm : ∀ r ∈ rs, r.2.1 ≤ 1048576) :
    Calls Try.prog 62 #[.slice A n c] w (CopyO w n rs) := by
  obtain ⟨i0, hi0, hz0, hz1, hz2⟩ := info_parts rowc_info
  have hmk0 := fun W => run_make_rowN (P := Try.prog) 44 55 i0 (.slice none 0 0) Try.underlying44 hi0 hz0 .i64 .i64 n n (Nat.le_refl _) (by rw [hz2]; omega) (by omega) W
  obtain ⟨C0, hC0⟩ : ∃ C0, madeCells (Value.slice none 0 0).cells (n * i0.size) = C0 := ⟨_, rfl⟩
  have hC : C0.toList = List.replicate n (Value.slice none 0 0) := by rw [← hC0, hz1, Nat.mul_one]; exact madeN n
  rw [hC0] at hmk0
  have hmk := hmk0
  have hI0 : Hid (∃ f rs', CopI f w (w.alloc (.cells C0 55)) n 0 rs rs') := by
    refine ⟨fun _ => 5, [], rfl, rfl, (fun _ h => nomatch h), ⟨⟨by simp, .inr ⟨w.heap.size, n, C0, rfl, Nat.le_refl _, heap_alloc_new _ _, Nat.le_refl _, by unfold maxLen; omega, ?_, ?_⟩⟩, fun _ _ => rfl⟩, fun j r hj => by simp at hj⟩
    · rw [← Array.length_toList, hC]; simp
    · rw [hC]; simp
  have HN := hide h
  have HM := Lib.hid hm
  have HLR := Lib.hid h.len
  clear h hm hi0 hz0 hz1 hz2 hmk0 hC0 hC
  go_enter Try.func62, Try.ntmps62
  go_wp2
  clear hmk
  go_loopw [4] (fun iv wr => ∃ i : Nat, iv = .int .i64 i ∧ i ≤ n ∧ Hid (∃ f rs', CopI f w wr n i rs rs') ∧ Below w.heap.size w wr) (fun iv _ => n - (intOf iv).toNat)
  case atStart => exact ⟨0, rfl, Nat.zero_le _, hI0, (Below.refl _ _).alloc (Nat.le_refl _) _⟩
  case round =>
    clear hI0
    obtain ⟨i, rfl, hi, hI, hb⟩ := hrel
    by_cases hlt : i < n
    · obtain ⟨b, off, A', m, c', zs, rfl, hbB, hr, hc0, hv, hzl, hmc, hcm⟩ := ((unhide HN).up hb).at hlt
      have hm0 : m ≤ 1048576 := HM.out _ (List.mem_of_getElem? hr)
      obtain ⟨f, rs', g1, g2, g3, g4, g5⟩ := unhide hI
      have HR := Lib.hid hr
      have HG1 := Lib.hid g1
      have HG2 := Lib.hid g2
      have HG3 := Lib.hid g3
      have HG4 := hide g4
      have HG5 := hide g5
      have HZL := Lib.hid hzl
      have hcpy := toIntS_any wr A' m c' zs hv hm0
      have hz := hb.size
      have hfw := g4.2 w.heap.size rfl
      clear hr g1 g2 g3 g4 g5 hzl hv hI
      go_wp2_with fail
      refine hcpy.mono ?_
      rintro r w1 ⟨rfl, hown1, -, hb1⟩
      have hg1 := bel_gr hb1
      obtain ⟨f', hf'⟩ : ∃ f', fset f wr.heap.size (7 + i) = f' := ⟨_, rfl⟩
      have hfl : ∀ b, b < wr.heap.size → f' b = f b := fun b hb => by rw [← hf']; exact fset_lt b hb
      have hR4 := (unhide HG4).keep (f' := f') hg1 none_r hfl
      have hR5 := fun j r hj => ((unhide HG5) j r hj).1.keep (f' := f') hg1 none_r hfl
      have hRn : RowO f' (7 + i) w1 w.heap.size 3 (.slice (some ⟨wr.heap.size, 0, none⟩) m m) m (zs.map (Value.int .i64)) := by
        refine ⟨own_base hown1 hz, fun b e => ?_⟩
        simp [Value.ownBlock] at e
        rw [← e, ← hf']; exact fset_at
      have hln : (rs'.map slV ++ List.replicate (n - i) (Value.slice none 0 0)).length = n := by simp [HG1.out]; omega
      obtain ⟨v0, h0⟩ : ∃ v0, w1.cell? ⟨w.heap.size, i, none⟩ = some v0 := ⟨(rs'.map slV ++ List.replicate (n - i) (Value.slice none 0 0))[i]'(by omega), by rw [hR4.1.cellAt _ (by omega)]; exact List.getElem?_eq_getElem (by omega)⟩
      have f0 := hR4.1.frozenAt i
      have hst := hR4.1.stored i (.slice (some ⟨wr.heap.size, 0, none⟩) m m)
      rw [upd_row (k := 0) (by rw [List.length_map]; exact HG1.out) hlt] at hst
      have HST := hide hst
      have HRN := hide hRn
      have HR5 := hide hR5
      have HR4 := hide hR4.2
      clear hst hRn hR5 hR4 hln hown1 hg1 hcpy
      go_wp2
      go_roundw
      case rel =>
        have hst := unhide HST
        have hro : ∀ b, (some w.heap.size : Option Nat) = some b → f' b = 5 := fun b e => (unhide HR4) b e
        refine ⟨i + 1, by go_num, by omega, Lib.hid ⟨f', rs' ++ [(some ⟨wr.heap.size, 0, none⟩, m, m, zs)], by simp [HG1.out], ?_, ?_, ⟨?_, unhide HR4⟩, ?_⟩, (hb.trans (hb1.mono hb.size)).setCell (Nat.le_refl _) _⟩
        · have h1 := HG2.out
          unfold nums at h1 ⊢
          rw [List.map_append, h1]
          have h2 : (rs.map fun r => r.2.2.2)[i]? = some zs := by rw [List.getElem?_map, HR.out]; rfl
          obtain ⟨p1, p2⟩ := List.getElem?_eq_some_iff.1 h2
          rw [List.take_succ_eq_append_getElem p1, p2]
          rfl
        · intro x hx
          rcases List.mem_append.1 hx with hx | hx
          · exact HG3.out x hx
          · simp at hx; subst hx; exact hm0
        · rw [List.map_append]; exact hst.1
        · intro j x hj
          by_cases hji : j < i
          · rw [List.getElem?_append_left (by have := HG1.out; omega)] at hj
            exact ⟨((unhide HR5) j x hj).keep hst.2 (fun b e => by have := hro b e; omega) (fun _ _ => rfl), ((unhide HG5) j x hj).2⟩
          · have hlj := (List.getElem?_eq_some_iff.1 hj).1
            rw [List.length_append, List.length_singleton, HG1.out] at hlj
            obtain rfl : j = i := by omega
            rw [List.getElem?_append_right (by have := HG1.out; omega), HG1.out, Nat.sub_self] at hj
            simp at hj
            subst hj
            exact ⟨(unhide HRN).keep hst.2 (fun b e => by have := hro b e; omega) (fun _ _ => rfl), HZL.out.symm⟩
      case measure => simp [intOf]; omega
    · obtain rfl : i = n := by omega
      obtain ⟨f, rs', g1, g2, g3, g4, g5⟩ := unhide hI
      rw [List.take_of_length_le (by rw [nums_len]; have := HLR.out; omega)] at g2
      rw [Nat.sub_self, List.replicate_zero, List.append_nil] at g4
      have H := Lib.hid (show nums rs' = nums rs ∧ (∀ r ∈ rs', r.2.1 ≤ 1048576) from ⟨g2, g3⟩)
      have H4 := hide g4
      have H5 := hide g5
      clear g1 g2 g3 g4 g5 hI
      go_wp2
      go_ret
      exact ⟨f, rs', rfl, H.out.1, H.out.2, unhide H4, unhide H5, hb⟩
/-- What a copy of an automaton leaves. -/
def CopyOA (w : World) (n m : Nat) (rs : List RowV) (bs : List Bool) (r : Ending) (w' : World) : Prop :=
  ∃ (f : Nat → Nat) (rs' : List RowV) (g g2 : Nat), r = .returned (dfaV (some ⟨g, 0, none⟩) n n (some ⟨g2, 0, none⟩) m m) ∧ nums rs' = nums rs ∧ (∀ r ∈ rs', r.2.1 ≤ 1048576) ∧ OwnA f w' w.heap.size (some ⟨g, 0, none⟩) n n rs' (some ⟨g2, 0, none⟩) m m bs ∧ Below w.heap.size w w'
set_option maxHeartbeats 4000000 in
theorem toDfa_own (w : World) (A : Option Addr) (n c : Nat) (A2 : Option Addr) (m c2 : Nat) (rs : List RowV) (bs : List Bool) (h : DfaS w A n A2 m rs bs) (hn : n ≤ 1048576) (hm : m ≤ 1048576) (hr : ∀ r ∈ rs, r.2.1 ≤ 1048576) :
    Calls Try.prog 37 #[dfaV A n c A2 m c2] w (CopyOA w n m rs bs) := by
  have HH := hide h
  have HR := Lib.hid hr
  clear h hr
  have hbW : Below w.heap.size w (((w.alloc (.cells #[.slice A n c, .slice A2 m c2] 47)).alloc (.cells #[.slice none 0 0, .slice none 0 0] 50)).alloc (.cells #[.slice none 0 0, .slice none 0 0] 50)) := (((Below.refl _ _).alloc (Nat.le_refl _) _).alloc (by simp) _).alloc (by simp; omega) _
  obtain ⟨W, hW⟩ : ∃ W, (((w.alloc (.cells #[.slice A n c, .slice A2 m c2] 47)).alloc (.cells #[.slice none 0 0, .slice none 0 0] 50)).alloc (.cells #[.slice none 0 0, .slice none 0 0] 50)) = W := ⟨_, rfl⟩
  have hWs : W.heap.size = w.heap.size + 1 + 1 + 1 := by rw [← hW]; simp
  have b0 : W.heap[w.heap.size]? = some (.cells #[.slice A n c, .slice A2 m c2] 47) := by
    rw [← hW, Below.heap_alloc _ _ _ (by simp; omega), Below.heap_alloc _ _ _ (by simp)]; exact heap_alloc_new _ _
  have b1 : W.heap[w.heap.size + 1]? = some (.cells #[.slice none 0 0, .slice none 0 0] 50) := by
    rw [← hW, Below.heap_alloc _ _ _ (by simp)]
    have := heap_alloc_new (w.alloc (.cells #[.slice A n c, .slice A2 m c2] 47)) (.cells #[.slice none 0 0, .slice none 0 0] 50)
    rwa [World.size_alloc] at this
  have b2 : W.heap[w.heap.size + 1 + 1]? = some (.cells #[.slice none 0 0, .slice none 0 0] 50) := by
    rw [← hW]
    have := heap_alloc_new ((w.alloc (.cells #[.slice A n c, .slice A2 m c2] 47)).alloc (.cells #[.slice none 0 0, .slice none 0 0] 50)) (.cells #[.slice none 0 0, .slice none 0 0] 50)
    rwa [World.size_alloc, World.size_alloc] at this
  rw [hW] at hbW
  have HW := Lib.hid hW
  have HWS := Lib.hid hWs
  have hI := toIntSS_own W A n c rs ((unhide HH).1.up hbW) hn HR.out
  rw [← hW] at hI
  clear hW hWs
  go_enter Try.func37, Try.ntmps37
  go_wp2_with fail
  refine hI.mono ?_
  rw [HW.out]
  rintro r w1 ⟨f, rs', rfl, hnm, hmm, hO5, hO7, hb1⟩
  have hbw1 := hbW.trans (hb1.mono hbW.size)
  have d0 := (hb1.block w.heap.size (by rw [HWS.out]; omega)).trans b0
  have d1 := (hb1.block (w.heap.size + 1) (by rw [HWS.out]; omega)).trans b1
  have d2 := (hb1.block (w.heap.size + 1 + 1) (by rw [HWS.out]; omega)).trans b2
  have c1 : w1.cell? ⟨w.heap.size, 1, none⟩ = some (.slice A2 m c2) := by rw [cell_of_row w1 _ 1 _ _ _ d0]; rfl
  have c2' : w1.cell? ⟨w.heap.size + 1 + 1, 0, none⟩ = some (.slice none 0 0) := by rw [cell_of_row w1 _ 0 _ _ _ d2]; rfl
  have f2 : w1.frozen? ⟨w.heap.size + 1 + 1, 0, none⟩ = false := frozen_of_row _ _ _ _ _ d2
  have hbS : Below w.heap.size w (w1.setCell ⟨w.heap.size + 1 + 1, 0, none⟩ (.slice (some ⟨W.heap.size, 0, none⟩) n n)) := hbw1.setCell (show w.heap.size ≤ w.heap.size + 1 + 1 by omega) _
  have hB2 := toBoolS_any (w1.setCell ⟨w.heap.size + 1 + 1, 0, none⟩ (.slice (some ⟨W.heap.size, 0, none⟩) n n)) A2 m c2 bs ((unhide HH).2.up hbS) hm
  have hg1 := gr_set w1 ⟨w.heap.size + 1 + 1, 0, none⟩ (.slice (some ⟨W.heap.size, 0, none⟩) n n)
  -- the low blocks have no role
  have hlow : ∀ {i : Nat} {t : TypeId} {v : Value} {k : Nat} {xs : List Value}, RowO f i w1 W.heap.size t v k xs → RowO (fun x => if x < W.heap.size then 0 else f x) i w1 W.heap.size t v k xs := fun {i t v k xs} hr => ⟨hr.1, fun b e => by
    have h1 := (hr.1.lt b e).1
    have h2 := hr.2 b e
    show (if b < W.heap.size then 0 else f b) = i
    rw [if_neg (by omega)]; exact h2⟩
  have hr0 : ∀ b, (some (w.heap.size + 1 + 1) : Option Nat) = some b → (if b < W.heap.size then 0 else f b) = 0 := fun b e => by
    injection e with e
    rw [if_pos (by have := HWS.out; omega)]
  have HO5 := hide ((hlow hO5).keep hg1 (fun b e => by have := hr0 b e; omega) (fun _ _ => rfl))
  have HO7 := hide (fun (j : Nat) (r : RowV) (hj : rs'[j]? = some r) => (⟨(hlow (hO7 j r hj).1).keep hg1 (fun b e => by have := hr0 b e; omega) (fun _ _ => rfl), (hO7 j r hj).2⟩ : RowO (fun x => if x < W.heap.size then 0 else f x) (7 + j) (w1.setCell ⟨w.heap.size + 1 + 1, 0, none⟩ (.slice (some ⟨W.heap.size, 0, none⟩) n n)) W.heap.size 3 (slV r) r.2.1 (r.2.2.2.map (Value.int .i64)) ∧ r.2.1 = r.2.2.2.length))
  have HNM := Lib.hid hnm
  have HMM := Lib.hid hmm
  have D1 := Lib.hid d1
  have D2 := Lib.hid d2
  clear hnm hmm d0 d1 d2 b0 b1 b2 hO5 hO7 hlow hg1 hr0
  go_wp2_with fail
  refine hB2.mono ?_
  rintro r w2 ⟨rfl, hown2, -, hb2⟩
  rw [size_set] at hown2 ⊢
  have hbw2 := hbS.trans (hb2.mono hbS.size)
  have hz1 := hb1.size
  have hz2 := hb2.size
  have hgb := bel_gr hb2
  rw [size_set] at hz2
  have hWS := HWS.out
  have e1 : w2.heap[w.heap.size + 1]? = some (.cells #[.slice none 0 0, .slice none 0 0] 50) := (hb2.block _ (by rw [size_set]; omega)).trans ((Below.heap_setCell _ _ _ _ (by show w.heap.size + 1 ≠ w.heap.size + 1 + 1; omega)).trans D1.out)
  have e2 : w2.heap[w.heap.size + 1 + 1]? = some (.cells #[.slice (some ⟨W.heap.size, 0, none⟩) n n, .slice none 0 0] 50) := (hb2.block _ (by rw [size_set]; omega)).trans (heap_set D2.out _ _)
  have x2 : w2.cell? ⟨w.heap.size + 1 + 1, 1, none⟩ = some (.slice none 0 0) := by rw [cell_of_row w2 _ 1 _ _ _ e2]; rfl
  have x20 : w2.cell? ⟨w.heap.size + 1 + 1, 0, none⟩ = some (.slice (some ⟨W.heap.size, 0, none⟩) n n) := by rw [cell_of_row w2 _ 0 _ _ _ e2]; rfl
  have y2 : w2.frozen? ⟨w.heap.size + 1 + 1, 1, none⟩ = false := frozen_of_row _ _ _ _ _ e2
  have x10 : w2.cell? ⟨w.heap.size + 1, 0, none⟩ = some (.slice none 0 0) := by rw [cell_of_row w2 _ 0 _ _ _ e1]; rfl
  have x11 : w2.cell? ⟨w.heap.size + 1, 1, none⟩ = some (.slice none 0 0) := by rw [cell_of_row w2 _ 1 _ _ _ e1]; rfl
  have y10 : w2.frozen? ⟨w.heap.size + 1, 0, none⟩ = false := frozen_of_row _ _ _ _ _ e1
  have y11 : w2.frozen? ⟨w.heap.size + 1, 1, none⟩ = false := frozen_of_row _ _ _ _ _ e1
  -- roles with the marks' block
  let F : Nat → Nat := fun x => if x = w1.heap.size then 6 else if x < W.heap.size then 0 else f x
  have hF1 : ∀ b, b < (w1.setCell ⟨w.heap.size + 1 + 1, 0, none⟩ (.slice (some ⟨W.heap.size, 0, none⟩) n n)).heap.size → F b = (if b < W.heap.size then 0 else f b) := fun b hb => by
    rw [size_set] at hb
    show (if b = w1.heap.size then 6 else _) = _
    rw [if_neg (by omega)]
  have HA5 := hide ((unhide HO5).keep (f' := F) hgb none_r hF1)
  have HA7 := hide (fun (j : Nat) (r : RowV) (hj : rs'[j]? = some r) => (⟨((unhide HO7) j r hj).1.keep (f' := F) hgb none_r hF1, ((unhide HO7) j r hj).2⟩ : RowO F (7 + j) w2 W.heap.size 3 (slV r) r.2.1 (r.2.2.2.map (Value.int .i64)) ∧ r.2.1 = r.2.2.2.length))
  have HA6 : Hid (RowO F 6 w2 W.heap.size 4 (.slice (some ⟨w1.heap.size, 0, none⟩) m m) m (bs.map Value.bool)) := by
    refine ⟨own_base hown2 hz1, fun b e => ?_⟩
    simp [Value.ownBlock] at e
    show (if b = w1.heap.size then 6 else _) = 6
    rw [if_pos e.symm]
  have hFlow : ∀ b, b < W.heap.size → F b < 5 := fun b hb => by
    show (if b = w1.heap.size then 6 else if b < W.heap.size then 0 else f b) < 5
    rw [if_neg (by omega), if_pos hb]; omega
  have HFL := Lib.hid hFlow
  have HE1 := Lib.hid e1
  clear e1 e2 hz2 hWS hgb hF1 hown2 hFlow HO5 HO7
  clear_value F
  go_wp2
  have hFx : (((w2.setCell ⟨w.heap.size + 1 + 1, 1, none⟩ (.slice (some ⟨w1.heap.size, 0, none⟩) m m)).setCell ⟨w.heap.size + 1, 0, none⟩ (.slice (some ⟨W.heap.size, 0, none⟩) n n)).setCell ⟨w.heap.size + 1, 1, none⟩ (.slice (some ⟨w1.heap.size, 0, none⟩) m m)).heap[w.heap.size + 1]? = some (.cells #[.slice (some ⟨W.heap.size, 0, none⟩) n n, .slice (some ⟨w1.heap.size, 0, none⟩) m m] 50 (0, 0)) :=
    heap_set (heap_set ((Below.heap_setCell _ _ _ _ (by show w.heap.size + 1 ≠ w.heap.size + 1 + 1; omega)).trans HE1.out) _ _) _ _
  have g1 := gr_set w2 ⟨w.heap.size + 1 + 1, 1, none⟩ (.slice (some ⟨w1.heap.size, 0, none⟩) m m)
  have g2 := gr_set (w2.setCell ⟨w.heap.size + 1 + 1, 1, none⟩ (.slice (some ⟨w1.heap.size, 0, none⟩) m m)) ⟨w.heap.size + 1, 0, none⟩ (.slice (some ⟨W.heap.size, 0, none⟩) n n)
  have g3 := gr_set ((w2.setCell ⟨w.heap.size + 1 + 1, 1, none⟩ (.slice (some ⟨w1.heap.size, 0, none⟩) m m)).setCell ⟨w.heap.size + 1, 0, none⟩ (.slice (some ⟨W.heap.size, 0, none⟩) n n)) ⟨w.heap.size + 1, 1, none⟩ (.slice (some ⟨w1.heap.size, 0, none⟩) m m)
  have r1 : ∀ b, (some (w.heap.size + 1 + 1) : Option Nat) = some b → F b < 5 := fun b e => by injection e with e; exact HFL.out b (by have := HWS.out; omega)
  have r2 : ∀ b, (some (w.heap.size + 1) : Option Nat) = some b → F b < 5 := fun b e => by injection e with e; exact HFL.out b (by have := HWS.out; omega)
  have hOA : OwnA F w2 W.heap.size (some ⟨W.heap.size, 0, none⟩) n n rs' (some ⟨w1.heap.size, 0, none⟩) m m bs := ⟨unhide HA5, unhide HA7, unhide HA6⟩
  refine bodyPost_ret (results_cell_row rfl _ _ (w.heap.size + 1) 50 #[.slice (some ⟨W.heap.size, 0, none⟩) n n, .slice (some ⟨w1.heap.size, 0, none⟩) m m] (0, 0) _ rfl hFx Try.underlying50 rfl (by kernel_rfl)) rfl ?_
  refine ⟨F, rs', W.heap.size, w1.heap.size, rfl, HNM.out, HMM.out, ?_, ?_⟩
  · exact (((hOA.keep g1 r1 (fun _ _ => rfl)).keep g2 r2 (fun _ _ => rfl)).keep g3 r2 (fun _ _ => rfl)).base hbW.size
  · exact ((hbw2.setCell (by show w.heap.size ≤ w.heap.size + 1 + 1; omega) _).setCell (by show w.heap.size ≤ w.heap.size + 1; omega) _).setCell (by show w.heap.size ≤ w.heap.size + 1; omega) _
end Go.Proofs.Ytcphbncgkemdoaa
