/-
  Where the expressions begin: the walk of 'starts'.
-/
import Derived.Test.YtcphbncgkemdoaaPs
import Derived.Laws.MakeOwn
import Derived.Deep.DeepCutAuto
import Derived.Deep.RegionWith
import Derived.Deep.RegionHeld3
import Derived.WalkSmall
import Derived.Deep.DeepMust
namespace Go.Proofs.Ytcphbncgkemdoaa
open Go.RowKit
set_option linter.unusedVariables false
set_option maxRecDepth 100000

theorem run_make_rowN {P : Program} (t e : TypeId) (i : TypeInfo) (z : Value) (ht : P.underlying t = some (.slice e)) (hi : P.info? e = some i) (hz : i.zero = some z)
    (kl kc : IntKind) (n c : Nat) (hnc : n ≤ c) (hbytes : i.bytes * c ≤ 281474976710656) (h63 : c ≤ 9223372036854775807) (w : World) :
    (Instr.makeSlice t (.int kl (n : Int)) (.int kc (c : Int))).run P w = .ok (.slice (some ⟨w.heap.size, 0, none⟩) n c) (w.alloc (.cells (madeCells z.cells (c * i.size)) e)) := by
  have hb : (i.bytes : Int) * (c : Int) ≤ 281474976710656 := by
    have h : ((i.bytes * c : Nat) : Int) ≤ 281474976710656 := by omega
    rwa [Int.natCast_mul] at h
  have hr := run_make (P := P) w t e i z ht hi hz kl kc n c (by omega) (by omega) hb (by omega)
  simp only [Int.toNat_natCast] at hr
  exact hr
theorem int_info : (Try.prog.info? 3).map (fun i => (i.zero, i.size, i.bytes)) = some (some (.int .i64 0), 1, 8) := by kernel_rfl

/-- The block of beginnings: n numbers, the first of them known. -/
def OutB (w : World) (g n : Nat) (xs : List Int) : Prop := ∃ cur : Array Value, w.heap[g]? = some (.cells cur 3 (0, 0)) ∧ cur.size = n ∧ cur.toList.take xs.length = xs.map (Value.int .i64)

theorem begs_next {e : List Pt} {i : Nat} {k l : Int} {st : List Int} (he : e[i]? = some (k, l)) (hs : stacks (e.take i) 0 [] = st) :
    stacks (e.take (i + 1)) 0 [] = stB (k, l) i st ∧ begs (e.take (i + 1)) 0 [] = begs (e.take i) 0 [] ++ [outB (k, l) i st] := by
  obtain ⟨hlt, hei⟩ := List.getElem?_eq_some_iff.1 he
  have hl : (e.take i).length = i := by rw [List.length_take]; omega
  rw [List.take_succ_eq_append_getElem hlt, hei, stacks_append, begs_append, hs, hl]
  simp [stacks, begs]
theorem take_set {cur : Array Value} {xs : List Int} {i : Nat} {x : Int} (hl : xs.length = i) (hi : i < cur.size) (h : cur.toList.take xs.length = xs.map (Value.int .i64)) :
    (cur.setIfInBounds i (.int .i64 x)).toList.take (xs ++ [x]).length = (xs ++ [x]).map (Value.int .i64) := by
  subst hl
  have h1 : xs.length < cur.toList.length := by simpa using hi
  rw [Array.toList_setIfInBounds, List.length_append, List.length_singleton, List.take_succ_eq_append_getElem (by simpa using hi), List.map_append]
  congr 1
  · rw [List.take_set_of_le (by omega)]; exact h
  · simp
theorem take_set_keep (cur : Array Value) (i : Nat) (v : Value) (m : Nat) (h : m ≤ i) : (cur.setIfInBounds i v).toList.take m = cur.toList.take m := by
  rw [Array.toList_setIfInBounds, List.take_set_of_le h]
theorem own_cut {w : World} {base g j n cap : Nat} {e : TypeId} {size : Nat} {xs : List Value} (h : w.ownsRow base e size (.slice (some ⟨g, 0, none⟩) n cap) n xs) (hj : j ≤ n) : w.ownsRow base e size (.slice (some ⟨g, 0, none⟩) j cap) j (xs.take (j * size)) := by
  obtain ⟨hl, h2⟩ := h
  have hm := Nat.mul_le_mul_right size hj
  rcases h2 with ⟨h0, _⟩ | ⟨g', cap', cur, hv, hg, hh, hn, hcap, hsz, htake⟩
  · cases h0
  · cases hv
    refine ⟨by rw [List.length_take]; omega, .inr ⟨g, cap, cur, rfl, hg, hh, by omega, hcap, hsz, ?_⟩⟩
    rw [← htake, List.take_take, Nat.min_eq_left hm]
theorem stB_eq {k l : Int} {m j : Nat} {st : List Int} (i : Int) (hv : pvB k l = true) (hm : needN k = (m : Int)) (hj : j + m = st.length) (x : Int) (hx : x = if m = 0 then i else st.getD j 0) :
    stB (k, l) i st = st.take j ++ [x] ∧ outB (k, l) i st = x := by
  have e : needT (k, l) = m := by
    have : pnI k l = needN k := by simp [pnI, hv]
    unfold needT; rw [this, hm]; rfl
  have e2 : st.length - m = j := by omega
  have e3 : outB (k, l) i st = x := by rw [outB, e, e2, hx]
  exact ⟨by rw [stB, e3, e, e2], e3⟩
theorem begs_len {e : List Pt} {i : Nat} (h : i ≤ e.length) : (begs (e.take i) 0 []).length = i := by rw [begs_length, List.length_take]; omega
theorem own_shape {w : World} {base n : Nat} {e : TypeId} {size : Nat} {v : Value} {xs : List Value} (h : w.ownsRow base e size v n xs) : ∃ A c, v = .slice A n c ∧ n ≤ c ∧ (0 < n → ∃ g, A = some ⟨g, 0, none⟩) := by
  rcases h.2 with ⟨rfl, rfl⟩ | ⟨g, cap, cur, rfl, -, -, hc, -⟩
  · exact ⟨none, 0, rfl, Nat.le_refl _, fun h => absurd h (by omega)⟩
  · exact ⟨_, _, rfl, hc, fun _ => ⟨g, rfl⟩⟩
/-- What 'starts' leaves: whether the parts are one whole expression; if so, the beginnings. -/
def StartsD (w : World) (n : Nat) (e : List Pt) (r : Ending) (w' : World) : Prop :=
  ∃ (v : Value) (ok : Bool), r = .returned (.tuple #[v, .bool ok]) ∧ ok = decide (runD e 0 = some 1) ∧ Below w.heap.size w w' ∧
    (ok = true → v = .slice (some ⟨w.heap.size, 0, none⟩) n n ∧ OutB w' w.heap.size n (begs e 0 []))

set_option maxHeartbeats 2000000 in
theorem starts_any (w : World) (A : Option Addr) (n c : Nat) (e : List Pt) (h : PS w w.heap.size A n e) (hn : n ≤ 60) :
    Calls Try.prog 58 #[.slice A n c] w (StartsD w n e) := by
  obtain ⟨i0, hi0, hz0, hz1, hz2⟩ := info_parts int_info
  have hmk := fun W => run_make_rowN (P := Try.prog) 55 3 i0 (.int .i64 0) Try.underlying55 hi0 hz0 .i64 .i64 n n (Nat.le_refl _) (by rw [hz2]; omega) (by omega) W
  have hlen := h.1
  have HL := Lib.hid hlen
  clear hlen
  go_enter Try.func58, Try.ntmps58
  go_wp2
  have HN := hide h
  clear h hmk
  go_loopw [5, 13] (fun sv i wr => ∃ (k : Nat) (st : List Int), i = .int .i64 k ∧ k ≤ n ∧ wr.ownsRow (w.heap.size + 1) 3 1 sv st.length (st.map (Value.int .i64)) ∧ st.length ≤ k ∧ Hid (runD (e.take k) 0 = some (st.length : Int) ∧ stacks (e.take k) 0 [] = st) ∧ OutB wr w.heap.size n (begs (e.take k) 0 []) ∧ Below w.heap.size w wr) (fun _ i _ => n - (intOf i).toNat)
  case atStart =>
    refine ⟨0, [], rfl, Nat.zero_le _, ⟨rfl, .inl ⟨rfl, rfl⟩⟩, Nat.le_refl _, Lib.hid ⟨rfl, rfl⟩, ⟨_, heap_alloc_new w _, ?_, rfl⟩, (Below.refl _ _).alloc (Nat.le_refl _) _⟩
    simp [madeCells]
  case round =>
    obtain ⟨i, st, rfl, hi, hown, hst, hrun, hout, hb⟩ := hrel
    by_cases hlt : i < n
    · obtain ⟨b, off, k, l, rfl, hbB, he, hc0, hc1⟩ := ((unhide HN).below (Nat.le_refl _) hb).at hlt
      have hz := hb.size
      obtain ⟨s1, s2⟩ := runD_take_next he hrun.out.1
      have S1 := Lib.hid s1
      have S2 := Lib.hid s2
      have HE := Lib.hid he
      clear he s1 s2
      have hbw : b < wr.heap.size := by omega
      obtain ⟨SA, sc, hsv, hsc, hSA⟩ := own_shape hown
      subst hsv
      rcases hv : pvB k l
      · have hp : pnI k l = -1 := by simp [pnI, hv]
        go_wp2_with (first | (go_at_call 17; refine (implPartValid_any _ _ _).mono ?_; rintro e w' ⟨rfl, rfl⟩) | (go_at_call 54; refine (needs_any _ _ _).mono ?_; rintro e w' ⟨rfl, rfl⟩))
        go_ret2
        exact ⟨_, false, rfl, by rw [S1.out (.inl (by omega))]; rfl, (hb.alloc (by omega) _).alloc (by simp; omega) _, fun h => by cases h⟩
      · have hp : pnI k l = needN k := by simp [pnI, hv]
        obtain ⟨nb0, nb1⟩ := needN_bd k
        rw [hp] at S1 S2
        clear hp
        obtain ⟨m, hm⟩ := Int.eq_ofNat_of_zero_le nb0
        have HM := Lib.hid hm
        by_cases hlow : (st.length : Int) < needN k
        · clear hm
          go_wp2_with (first | (go_at_call 17; refine (implPartValid_any _ _ _).mono ?_; rintro e w' ⟨rfl, rfl⟩) | (go_at_call 54; refine (needs_any _ _ _).mono ?_; rintro e w' ⟨rfl, rfl⟩))
          go_ret2
          exact ⟨_, false, rfl, by rw [S1.out (.inr hlow)]; rfl, ((hb.alloc (by omega) _).alloc (by simp; omega) _).alloc (by simp; omega) _, fun h => by cases h⟩
        · clear hm
          obtain ⟨cur, ho1, ho2, ho3⟩ := hout
          obtain ⟨cv, hoc⟩ : ∃ cv, wr.cell? ⟨w.heap.size, i, none⟩ = some cv :=
            ⟨cur[i]'(by omega), by rw [cell_of_row wr w.heap.size i _ _ _ ho1]; exact Array.getElem?_eq_getElem (by omega)⟩
          have hof : wr.frozen? ⟨w.heap.size, i, none⟩ = false := by simp [World.frozen?, ho1]
          have hbne : ¬ b = w.heap.size := by omega
          have hwz : w.heap.size < wr.heap.size := (Array.getElem?_eq_some_iff.1 ho1).1
          have x3 : ∀ o1 o2 o3 : Obj, (((wr.alloc o1).alloc o2).alloc o3).cell? ⟨w.heap.size, i, none⟩ = some cv := fun o1 o2 o3 => by
            rw [World.cell?_alloc_lt _ _ _ (by show w.heap.size < _; simp; omega), World.cell?_alloc_lt _ _ _ (by show w.heap.size < _; simp; omega), World.cell?_alloc_lt _ _ _ hwz]; exact hoc
          have y3 : ∀ o1 o2 o3 : Obj, (((wr.alloc o1).alloc o2).alloc o3).frozen? ⟨w.heap.size, i, none⟩ = false := fun o1 o2 o3 => by
            rw [World.frozen?_alloc_old _ _ _ (by show w.heap.size ≠ _; simp; omega), World.frozen?_alloc_old _ _ _ (by show w.heap.size ≠ _; simp; omega), World.frozen?_alloc_old _ _ _ (by show w.heap.size ≠ _; omega)]; exact hof
          have q1 : ¬ w.heap.size = wr.heap.size := by omega
          have q2 : ¬ wr.heap.size = w.heap.size := by omega
          have HO1 := Lib.hid ho1
          have HO2 := Lib.hid ho2
          have HO3 := Lib.hid ho3
          clear ho1 ho2 ho3
          by_cases hn0 : 0 < needN k
          · go_upto_region 10 with (first | (go_at_call 17; refine (implPartValid_any _ _ _).mono ?_; rintro e w' ⟨rfl, rfl⟩) | (go_at_call 54; refine (needs_any _ _ _).mono ?_; rintro e w' ⟨rfl, rfl⟩))
            generalize hW : World.alloc _ _ = W
            have F1 : W.heap[w.heap.size]? = some (.cells (cur.setIfInBounds i (.int .i64 (i : Int))) 3 (0, 0)) := by
              rw [← hW, Below.heap_alloc _ _ _ (by simp; omega)]
              simp only [World.setCell]
              rw [Array.getElem?_modify, if_pos rfl, Below.heap_alloc _ _ _ (by simp; omega), Below.heap_alloc _ _ _ (by simp; omega), Below.heap_alloc _ _ _ (by omega), HO1.out]
              rfl
            have F2 : W.heap[wr.heap.size]? = some (pbox k l) := by
              rw [← hW, Below.heap_alloc _ _ _ (by show wr.heap.size < (World.setCell _ _ _).heap.size; simp; omega), Below.heap_setCell _ _ _ _ (by show wr.heap.size ≠ w.heap.size; omega), Below.heap_alloc _ _ _ (by simp; omega), Below.heap_alloc _ _ _ (by simp)]
              exact heap_alloc_new wr _
            have F3 : W.ownsRow (w.heap.size + 1) 3 1 (.slice SA st.length sc) st.length (st.map (Value.int .i64)) := by
              rw [← hW]
              exact (ownsRow_setCell_below (((hown.alloc _).alloc _).alloc _) (by show w.heap.size < _; omega) _).alloc _
            have F4 : Below w.heap.size w W := by
              rw [← hW]
              exact ((((hb.alloc hz _).alloc (by simp; omega) _).alloc (by simp; omega) _).setCell (Nat.le_refl _) _).alloc (by simp; omega) _
            have F5 : wr.heap.size + 3 ≤ W.heap.size := by rw [← hW]; simp
            clear hW x3 y3 hoc hof hc0 hc1
            obtain ⟨g, rfl⟩ := hSA (by omega)
            have hgl : g < W.heap.size ∧ w.heap.size + 1 ≤ g := by
              rcases F3.2 with ⟨h0, _⟩ | ⟨g', cap', cur', e1, e2, e3, -⟩
              · cases h0
              · injection e1 with e1 _ _
                injection e1 with e1
                injection e1 with e1
                subst e1
                exact ⟨(Array.getElem?_eq_some_iff.1 e3).1, e2⟩
            obtain ⟨hg1, hg2⟩ := hgl
            obtain ⟨j, hj⟩ : ∃ j : Nat, (st.length : Int) - needN k = (j : Int) := ⟨st.length - m, by have := HM.out; omega⟩
            have hjlt : j < st.length := by omega
            have hcx : W.cell? ⟨g, j, none⟩ = some (.int .i64 (st.getD j 0)) := by
              rw [F3.cellAt j (by omega)]
              rw [List.getElem?_map, List.getElem?_eq_getElem hjlt]
              simp [List.getD_eq_getElem?_getD, List.getElem?_eq_getElem hjlt]
            have b0 : W.cell? ⟨wr.heap.size, 0, none⟩ = some (.int .i64 k) := by rw [cell_of_row W _ 0 _ _ _ F2]; rfl
            have b1 : W.cell? ⟨wr.heap.size, 1, none⟩ = some (.int .i64 l) := by rw [cell_of_row W _ 1 _ _ _ F2]; rfl
            have o0 : W.cell? ⟨w.heap.size, i, none⟩ = some (.int .i64 (i : Int)) := by
              rw [cell_of_row W _ i _ _ _ F1]
              have := HO2.out
              rw [Array.getElem?_setIfInBounds_self_of_lt (by omega)]
            have o1 : W.frozen? ⟨w.heap.size, i, none⟩ = false := by simp [World.frozen?, F1]
            have later : ∀ (a b : Nat) (o : Obj), a < W.heap.size → (W.alloc o).cell? ⟨a, b, none⟩ = W.cell? ⟨a, b, none⟩ := fun a b o h => World.cell?_alloc_lt W o ⟨a, b, none⟩ h
            have later2 : ∀ (a b : Nat) (o o' : Obj), a < W.heap.size → ((W.alloc o).alloc o').cell? ⟨a, b, none⟩ = W.cell? ⟨a, b, none⟩ := fun a b o o' h =>
              (World.cell?_alloc_lt (W.alloc o) o' ⟨a, b, none⟩ (by simp; omega)).trans (later a b o h)
            have wl : w.heap.size < W.heap.size := by omega
            have wrl : wr.heap.size < W.heap.size := by omega
            have e1 : ∀ o, (W.alloc o).cell? ⟨wr.heap.size, 0, none⟩ = some (.int .i64 k) := fun o => (later _ _ o wrl).trans b0
            have e2 : ∀ o, (W.alloc o).cell? ⟨wr.heap.size, 1, none⟩ = some (.int .i64 l) := fun o => (later _ _ o wrl).trans b1
            have e3 : ∀ o, (W.alloc o).cell? ⟨g, j, none⟩ = some (.int .i64 (st.getD j 0)) := fun o => (later _ _ o hg1).trans hcx
            have e4 : ∀ o o', ((W.alloc o).alloc o').cell? ⟨g, j, none⟩ = some (.int .i64 (st.getD j 0)) := fun o o' => (later2 _ _ o o' hg1).trans hcx
            have e5 : ∀ o o', ((W.alloc o).alloc o').cell? ⟨w.heap.size, i, none⟩ = some (.int .i64 (i : Int)) := fun o o' => (later2 _ _ o o' wl).trans o0
            have e6 : ∀ o o', ((W.alloc o).alloc o').frozen? ⟨w.heap.size, i, none⟩ = false := fun o o' => by
              rw [World.frozen?_alloc_old _ _ _ (by show w.heap.size ≠ _; simp; omega), World.frozen?_alloc_old _ _ _ (by show w.heap.size ≠ _; omega)]; exact o1
            have jw : IntKind.i64.wrap (j : Int) = (j : Int) := IntWalk.i64_in _ (by omega)
            have e7 : ∀ o o', ((W.alloc o).alloc o').cell? ⟨wr.heap.size, 0, none⟩ = some (.int .i64 k) := fun o o' => (later2 _ _ o o' wrl).trans b0
            have e8 : ∀ o o', ((W.alloc o).alloc o').cell? ⟨wr.heap.size, 1, none⟩ = some (.int .i64 l) := fun o o' => (later2 _ _ o o' wrl).trans b1
            generalize hxv : st.getD j 0 = xv at *
            have HXV := Lib.hid hxv
            clear hxv
            clear later later2
            have hS0 : W.cell? ⟨wr.heap.size, 0, none⟩ = some (.int .i64 k) ∧ W.cell? ⟨wr.heap.size, 1, none⟩ = some (.int .i64 l) ∧ W.cell? ⟨g, j, none⟩ = some (.int .i64 xv) := ⟨b0, b1, hcx⟩
            have hS1 : ∀ o, (W.alloc o).cell? ⟨wr.heap.size, 0, none⟩ = some (.int .i64 k) ∧ (W.alloc o).cell? ⟨wr.heap.size, 1, none⟩ = some (.int .i64 l) ∧ (W.alloc o).cell? ⟨g, j, none⟩ = some (.int .i64 xv) := fun o => ⟨e1 o, e2 o, e3 o⟩
            have hS2 : ∀ o o', ((W.alloc o).alloc o').cell? ⟨wr.heap.size, 0, none⟩ = some (.int .i64 k) ∧ ((W.alloc o).alloc o').cell? ⟨wr.heap.size, 1, none⟩ = some (.int .i64 l) ∧ ((W.alloc o).alloc o').cell? ⟨g, j, none⟩ = some (.int .i64 xv) :=
              fun o o' => ⟨e7 o o', e8 o o', e4 o o'⟩
            have js0 : (0 : Int) ≤ (j : Int) := by omega
            have js1 : (j : Int) ≤ (sc : Int) := by omega
            have js2 : (j : Int) < (st.length : Int) := by omega
            have hS3 : ∀ o o', ((((W.setCell ⟨w.heap.size, i, none⟩ (.int .i64 xv)).alloc o).alloc o').drew).cell? ⟨wr.heap.size, 0, none⟩ = some (.int .i64 k) ∧ ((((W.setCell ⟨w.heap.size, i, none⟩ (.int .i64 xv)).alloc o).alloc o').drew).cell? ⟨wr.heap.size, 1, none⟩ = some (.int .i64 l) ∧ ((((W.setCell ⟨w.heap.size, i, none⟩ (.int .i64 xv)).alloc o).alloc o').drew).cell? ⟨g, j, none⟩ = some (.int .i64 xv) := by
              intro o o'
              have far : ∀ a b, a < W.heap.size → a ≠ w.heap.size → ((((W.setCell ⟨w.heap.size, i, none⟩ (.int .i64 xv)).alloc o).alloc o').drew).cell? ⟨a, b, none⟩ = W.cell? ⟨a, b, none⟩ := fun a b h1 h2 => by
                show (((W.setCell ⟨w.heap.size, i, none⟩ (.int .i64 xv)).alloc o).alloc o').cell? ⟨a, b, none⟩ = _
                rw [World.cell?_alloc_lt _ _ _ (by show a < ((World.setCell _ _ _).alloc _).heap.size; simp [World.setCell]; omega), World.cell?_alloc_lt _ _ _ (by show a < (World.setCell _ _ _).heap.size; simpa [World.setCell] using h1)]
                exact World.cell?_setCell_other W ⟨w.heap.size, i, none⟩ ⟨a, b, none⟩ _ (by intro e; injection e with e; exact h2 e.symm)
              exact ⟨(far _ _ wrl (by omega)).trans b0, (far _ _ wrl (by omega)).trans b1, (far _ _ hg1 (by omega)).trans hcx⟩
            go_region_held3 (fun w' => w'.cell? ⟨wr.heap.size, 0, none⟩ = some (.int .i64 k) ∧ w'.cell? ⟨wr.heap.size, 1, none⟩ = some (.int .i64 l) ∧ w'.cell? ⟨g, j, none⟩ = some (.int .i64 xv)) (first | exact hS0 | exact hS1 _ | exact hS2 _ _ | exact hS3 _ _)
              (first | (go_at_call 54; refine (needs_any _ _ _).mono ?_; rintro e w' ⟨rfl, rfl⟩))
            clear hS0 hS1 hS2 hS3 e1 e2 e3 e4 e5 e6 e7 e8 jw
            generalize hW2 : World.drew _ = W2
            have G1 : W2.heap[w.heap.size]? = some (.cells ((cur.setIfInBounds i (.int .i64 (i : Int))).setIfInBounds i (.int .i64 xv)) 3 (0, 0)) := by
              rw [← hW2]
              show (((W.setCell ⟨w.heap.size, i, none⟩ (.int .i64 xv)).alloc _).alloc _).heap[w.heap.size]? = _
              rw [Below.heap_alloc _ _ _ (by show w.heap.size < ((World.setCell _ _ _).alloc _).heap.size; simp [World.setCell]; omega), Below.heap_alloc _ _ _ (by show w.heap.size < (World.setCell _ _ _).heap.size; simpa [World.setCell] using wl)]
              simp only [World.setCell]
              rw [Array.getElem?_modify, if_pos rfl, F1]
              rfl
            have G3 : W2.ownsRow (w.heap.size + 1) 3 1 (.slice (some ⟨g, 0, none⟩) j sc) j ((st.map (Value.int .i64)).take (j * 1)) := by
              rw [← hW2]
              exact ((((ownsRow_setCell_below (own_cut F3 (by omega)) (by show w.heap.size < _; omega) _).alloc _).alloc _).drew)
            have G4 : Below w.heap.size w W2 := by
              rw [← hW2]
              have hz4 := F4.size
              exact (((F4.setCell (Nat.le_refl _) _).alloc (by simp [World.setCell]; omega) _).alloc (by simp [World.setCell]; omega) _).drew
            have G5 : wr.heap.size ≤ W2.heap.size := by rw [← hW2]; show _ ≤ (((W.setCell _ _).alloc _).alloc _).heap.size; simp [World.setCell]; omega
            have G6 : w.heap.size < W2.heap.size := by omega
            have G7 : W2.cell? ⟨w.heap.size, i, none⟩ = some (.int .i64 xv) := by
              rw [cell_of_row W2 _ i _ _ _ G1]
              have := HO2.out
              rw [Array.getElem?_setIfInBounds_self_of_lt (by simp; omega)]
            clear hW2 F1 F2 F3 F4 F5 b0 b1 o0 o1 wl wrl hcx
            go_wp2_with (at_builtin; go_must (refine wpList_append_own _ rfl (.tmp 53) (.tmp 58) 55 rfl (w.heap.size + 1) 3 i0 (.int .i64 0) 1 8 Try.underlying55 hi0 hz0 hz1 hz2 rfl (by decide) (.slice (some ⟨g, 0, none⟩) j sc) j ((st.map (Value.int .i64)).take (j * 1)) rfl (G3.alloc _) ⟨W2.heap.size, 0, none⟩ 1 1 [.int .i64 xv] rfl rfl (cell_one_new _ _ _) (by simp [Value.oneCell']) (by unfold maxLen; omega) (by omega) (by simp; omega) ?_); go_must (intro v' w' hown' hgrow _))
            go_roundw
            case rel =>
              obtain ⟨r1, r2⟩ := hrun.out
              have hm' := HM.out
              have hx' := HXV.out
              have hcn := HO2.out
              have hen := HL.out
              obtain ⟨st1, st2⟩ := stB_eq (st := st) (j := j) (i : Int) hv hm' (by omega) xv (by rw [if_neg (by omega)]; exact hx'.symm)
              obtain ⟨n1, n2⟩ := begs_next HE.out r2
              have hbl := begs_len (e := e) (i := i) (by omega)
              rw [st1] at n1
              rw [st2] at n2
              have hlen : (st.take j ++ [xv]).length = j + 1 := by simp; omega
              refine ⟨i + 1, st.take j ++ [xv], by go_num, by omega, ?_, by omega, Lib.hid ⟨?_, n1⟩, ⟨(cur.setIfInBounds i (.int .i64 (i : Int))).setIfInBounds i (.int .i64 xv), ?_, ?_, ?_⟩, ?_⟩
              · rw [hlen, List.map_append, List.map_take]
                simpa using hown'
              · rw [S2.out (by omega), hlen]; congr 1; omega
              · exact (hgrow.block _ (by simp; omega) (by simp [Value.ownBlock]; omega)).trans ((Below.heap_alloc W2 _ _ G6).trans G1)
              · simp; exact hcn
              · rw [n2]
                exact take_set (by exact hbl) (by simp; omega) (by rw [take_set_keep _ _ _ _ (by omega)]; exact HO3.out)
              · exact (G4.alloc (by omega) _).grown hgrow (by simp; omega) (fun k e => by simp [Value.ownBlock] at e; omega)
            case measure => simp [intOf]; omega
          · go_upto_if 34 with (first | (go_at_call 17; refine (implPartValid_any _ _ _).mono ?_; rintro e w' ⟨rfl, rfl⟩) | (go_at_call 54; refine (needs_any _ _ _).mono ?_; rintro e w' ⟨rfl, rfl⟩))
            generalize hW : World.alloc _ _ = W
            have F1 : W.heap[w.heap.size]? = some (.cells (cur.setIfInBounds i (.int .i64 (i : Int))) 3 (0, 0)) := by
              rw [← hW, Below.heap_alloc _ _ _ (by simp; omega)]
              simp only [World.setCell]
              rw [Array.getElem?_modify, if_pos rfl, Below.heap_alloc _ _ _ (by simp; omega), Below.heap_alloc _ _ _ (by simp; omega), Below.heap_alloc _ _ _ (by omega), HO1.out]
              rfl
            have F3 : W.ownsRow (w.heap.size + 1) 3 1 (.slice SA st.length sc) st.length (st.map (Value.int .i64)) := by
              rw [← hW]
              exact (ownsRow_setCell_below (((hown.alloc _).alloc _).alloc _) (by show w.heap.size < _; omega) _).alloc _
            have F4 : Below w.heap.size w W := by
              rw [← hW]
              exact ((((hb.alloc hz _).alloc (by simp; omega) _).alloc (by simp; omega) _).setCell (Nat.le_refl _) _).alloc (by simp; omega) _
            have F5 : wr.heap.size + 3 ≤ W.heap.size := by rw [← hW]; simp
            have F6 : w.heap.size < W.heap.size := by omega
            have F7 : W.cell? ⟨w.heap.size, i, none⟩ = some (.int .i64 (i : Int)) := by
              rw [cell_of_row W _ i _ _ _ F1]
              have := HO2.out
              rw [Array.getElem?_setIfInBounds_self_of_lt (by omega)]
            clear hW x3 y3 hoc hof hc0 hc1
            go_wp2_with (at_builtin; go_must (refine wpList_append_own _ rfl (.tmp 53) (.tmp 58) 55 rfl (w.heap.size + 1) 3 i0 (.int .i64 0) 1 8 Try.underlying55 hi0 hz0 hz1 hz2 rfl (by decide) (.slice SA st.length sc) st.length (st.map (Value.int .i64)) rfl (F3.alloc _) ⟨W.heap.size, 0, none⟩ 1 1 [.int .i64 (i : Int)] rfl rfl (cell_one_new _ _ _) (by simp [Value.oneCell']) (by unfold maxLen; omega) (by omega) (by simp; omega) ?_); go_must (intro v' w' hown' hgrow _))
            go_roundw
            case rel =>
              obtain ⟨r1, r2⟩ := hrun.out
              have hm' := HM.out
              have hcn := HO2.out
              have hen := HL.out
              obtain rfl : m = 0 := by omega
              obtain ⟨st1, st2⟩ := stB_eq (st := st) (j := st.length) (i : Int) hv hm' (by omega) (i : Int) (by rw [if_pos rfl])
              obtain ⟨n1, n2⟩ := begs_next HE.out r2
              have hbl := begs_len (e := e) (i := i) (by omega)
              rw [st1, List.take_length] at n1
              rw [st2] at n2
              have hlen : (st ++ [(i : Int)]).length = st.length + 1 := by simp
              have hnb : ∀ g, (Value.slice SA st.length sc).ownBlock = some g → w.heap.size + 1 ≤ g := by
                intro g hg
                rcases F3.2 with ⟨h0, _⟩ | ⟨g', cap', cur', e1, e2, -⟩
                · rw [h0] at hg; cases hg
                · rw [e1] at hg; injection hg with hg; subst hg; exact e2
              refine ⟨i + 1, st ++ [(i : Int)], by go_num, by omega, ?_, by omega, Lib.hid ⟨?_, n1⟩, ⟨cur.setIfInBounds i (.int .i64 (i : Int)), ?_, ?_, ?_⟩, ?_⟩
              · rw [hlen, List.map_append]
                exact hown'
              · rw [S2.out (by omega), hlen, hm']; congr 1
              · exact (hgrow.block _ (by simp; omega) (by intro h; have := hnb _ h.symm; omega)).trans ((Below.heap_alloc W _ _ F6).trans F1)
              · simp; exact hcn
              · rw [n2]
                exact take_set hbl (by omega) HO3.out
              · exact (F4.alloc (by omega) _).grown hgrow (by simp; omega) (fun k e => by have := hnb _ e; omega)
            case measure => simp [intOf]; omega
    · obtain rfl : i = n := by omega
      obtain ⟨r1, r2⟩ := hrun.out
      obtain ⟨SA, sc, hsv, hsc, hSA⟩ := own_shape hown
      subst hsv
      have hte : e.take e.length = e := List.take_length
      have hen := HL.out
      rw [← hen, hte] at r1
      have hout' : OutB wr w.heap.size i (begs e 0 []) := by rw [← hen, hte] at hout; rw [← hen]; exact hout
      have R1 := Lib.hid r1
      clear r1 r2 hen hrun hte HL
      rcases hs : ((st.length : Int) == 1)
      · go_wp2
        go_ret2
        have hs' : ¬ ((st.length : Int) = 1) := by simpa using hs
        exact ⟨_, false, rfl, by rw [R1.out]; simp; simpa using hs', hb, fun h => by cases h⟩
      · go_wp2
        go_ret2
        have hs' : ((st.length : Int) = 1) := by simpa using hs
        exact ⟨_, true, rfl, by rw [R1.out, hs']; rfl, hb, fun _ => ⟨rfl, hout'⟩⟩

theorem exprB_long {e : List Pt} (h : 60 < e.length) : exprB e = false := by
  rw [exprB, Bool.and_eq_false_iff]; left; simp; omega
theorem exprB_short {e : List Pt} (h : e.length ≤ 60) : exprB e = decide (runD e 0 = some 1) := by
  have : ((e.length : Int) ≤ 60) := by omega
  rw [exprB]; simp [this]
theorem implExprValid_any (w : World) (A : Option Addr) (n c : Nat) (e : List Pt) (h : PS w w.heap.size A n e) :
    Calls Try.prog 33 #[.slice A n c] w fun r w' => r = .returned (.bool (exprB e)) ∧ Below w.heap.size w w' := by
  have hl := h.1
  by_cases h60 : n ≤ 60
  · have HE := Lib.hid (exprB_short (e := e) (by omega))
    clear hl
    go_enter Try.func33, Try.ntmps33
    go_wp2_with (go_at_call 58; refine (starts_any w A n c e h h60).mono ?_; rintro r w1 ⟨v, ok, rfl, hok, hb, -⟩)
    go_ret
    exact ⟨ret_bool HE.out.symm, hb⟩
  · have HE := Lib.hid (exprB_long (e := e) (by omega))
    clear hl
    go_enter Try.func33, Try.ntmps33
    go_wp2
    go_ret
    exact ⟨ret_bool HE.out.symm, Below.refl _ _⟩
end Go.Proofs.Ytcphbncgkemdoaa
