/-
  Slices of moves: copies and comparisons.
-/
import Derived.Test.YtcphbncgkemdoaaMoves
import Derived.Deep.RegionHeld3
namespace Go.Proofs.Ytcphbncgkemdoaa
open Go.RowKit
set_option linter.unusedVariables false
set_option maxRecDepth 100000

theorem move_info : (Try.prog.info? 87).map (fun i => (i.zero, i.size, i.bytes)) = some (some (mvV 0 0 0), 3, 24) := by kernel_rfl
/-- What a copy of moves leaves. -/
def CopyM (w : World) (n : Nat) (e : List Mv) (r : Ending) (w' : World) : Prop :=
  r = .returned (.slice (some ⟨w.heap.size, 0, none⟩) n n) ∧ MS w' w'.heap.size (some ⟨w.heap.size, 0, none⟩) n e ∧ Below w.heap.size w w'
set_option maxHeartbeats 2000000 in
theorem toMoveS_any (w : World) (A : Option Addr) (n c : Nat) (e : List Mv) (h : MS w w.heap.size A n e) (hn : n ≤ 1048576) :
    Calls Try.prog 71 #[.slice A n c] w (CopyM w n e) := by
  obtain ⟨i0, hi0, hz0, hz1, hz2⟩ := info_parts move_info
  have hmk := fun W => run_make_rowN (P := Try.prog) 60 87 i0 (mvV 0 0 0) Try.underlying60 hi0 hz0 .i64 .i64 n n (Nat.le_refl _) (by rw [hz2]; omega) (by omega) W
  have HL := Lib.hid h.1
  have HN := hide h
  clear h
  go_enter Try.func71, Try.ntmps71
  go_wp2
  clear hmk
  go_loopw [4] (fun i wr => ∃ k : Nat, i = .int .i64 k ∧ k ≤ n ∧ Hid (FillM wr w.heap.size n (e.take k)) ∧ Below w.heap.size w wr) (fun i _ => n - (intOf i).toNat)
  case atStart =>
    exact ⟨0, rfl, Nat.zero_le _, Lib.hid ⟨_, heap_alloc_new w _, by simp [madeCells], rfl⟩, (Below.refl _ _).alloc (Nat.le_refl _) _⟩
  case round =>
    obtain ⟨i, rfl, hi, hF, hb⟩ := hrel
    by_cases hlt : i < n
    · obtain ⟨b, off, x, y, z, rfl, hbB, he, hc0, hc1, hc2⟩ := ((unhide HN).up hb).at hlt
      have hz := hb.size
      obtain ⟨cur, f1, f2, f3⟩ := hF.out
      have hwz : w.heap.size < wr.heap.size := (Array.getElem?_eq_some_iff.1 f1).1
      have HE := Lib.hid he
      have F1 := Lib.hid f1
      have F2 := Lib.hid f2
      have F3 := Lib.hid f3
      have frow : ∀ o1 o2 o3 : Obj, (((wr.alloc o1).alloc o2).alloc o3).heap[w.heap.size]? = some (.cells cur 87 (0, 0)) := fun o1 o2 o3 => by
        rw [Below.heap_alloc _ _ _ (by simp; omega), Below.heap_alloc _ _ _ (by simp; omega), Below.heap_alloc _ _ _ (by omega)]
        exact f1
      have FR := Lib.hid frow
      have x0 : ∀ o1 o2 o3 : Obj, (((wr.alloc o1).alloc o2).alloc o3).cell? ⟨w.heap.size, i * 3, none⟩ = some (cur[i * 3]'(by omega)) := fun o1 o2 o3 => by
        rw [cell_of_row _ _ _ _ _ _ (frow o1 o2 o3)]; exact Array.getElem?_eq_getElem (by omega)
      have x1 : ∀ o1 o2 o3 : Obj, (((wr.alloc o1).alloc o2).alloc o3).cell? ⟨w.heap.size, i * 3 + 1, none⟩ = some (cur[i * 3 + 1]'(by omega)) := fun o1 o2 o3 => by
        rw [cell_of_row _ _ _ _ _ _ (frow o1 o2 o3)]; exact Array.getElem?_eq_getElem (by omega)
      have x2 : ∀ o1 o2 o3 : Obj, (((wr.alloc o1).alloc o2).alloc o3).cell? ⟨w.heap.size, i * 3 + 2, none⟩ = some (cur[i * 3 + 2]'(by omega)) := fun o1 o2 o3 => by
        rw [cell_of_row _ _ _ _ _ _ (frow o1 o2 o3)]; exact Array.getElem?_eq_getElem (by omega)
      have y0 : ∀ (o1 o2 o3 : Obj) (j : Nat), (((wr.alloc o1).alloc o2).alloc o3).frozen? ⟨w.heap.size, j, none⟩ = false := fun o1 o2 o3 j => by simp [World.frozen?, frow o1 o2 o3]
      clear he f1 f3 frow
      generalize cur[i * 3]'_ = v0 at x0
      generalize cur[i * 3 + 1]'_ = v1 at x1
      generalize cur[i * 3 + 2]'_ = v2 at x2
      clear f2
      go_wp2_with (go_at_call 86; refine (toMove_any _ _ _ _).mono ?_; rintro e w' ⟨rfl, rfl⟩)
      go_roundw
      case rel =>
        have hcs := F2.out
        have hel := HL.out
        refine ⟨i + 1, by go_num, by omega, Lib.hid ⟨((cur.setIfInBounds (i * 3) (.int .i64 x)).setIfInBounds (i * 3 + 1) (.int .i64 y)).setIfInBounds (i * 3 + 2) (.int .i64 z), ?_, by simp; exact hcs, ?_⟩, ?_⟩
        · exact heap_set (heap_set (heap_set (FR.out _ _ _) _ _) _ _) _ _
        · rw [take_nextM HE.out]
          exact take_set3 (by rw [List.length_take]; omega) (by omega) F3.out
        · exact (((((hb.alloc hz _).alloc (by simp; omega) _).alloc (by simp; omega) _).setCell (Nat.le_refl _) _).setCell (Nat.le_refl _) _).setCell (Nat.le_refl _) _
      case measure => simp [intOf]; omega
    · obtain rfl : i = n := by omega
      have hel := HL.out
      have hF' : FillM wr w.heap.size i e := by have := hF.out; rw [List.take_of_length_le (by omega)] at this; exact this
      go_wp2
      go_ret
      exact ⟨rfl, hF'.ms hel, hb⟩
set_option maxHeartbeats 2000000 in
theorem eqMoveS_any (w : World) (A A2 : Option Addr) (n c c2 : Nat) (e : List Mv) (h : MS w w.heap.size A n e) (h2 : MS w w.heap.size A2 n e) (hn : n ≤ 1048576) :
    Calls Try.prog 76 #[.slice A n c, .slice A2 n c2] w fun r w' => r = .returned (.bool true) ∧ Below w.heap.size w w' := by
  have HN := hide h
  have HN2 := hide h2
  clear h h2
  go_enter Try.func76, Try.ntmps76
  go_wp2
  go_loopw [5] (fun i wr => ∃ k : Nat, i = .int .i64 k ∧ k ≤ n ∧ Below w.heap.size w wr) (fun i _ => n - (intOf i).toNat)
  case atStart => exact ⟨0, rfl, Nat.zero_le _, Below.refl _ _⟩
  case round =>
    obtain ⟨i, rfl, hi, hb⟩ := hrel
    by_cases hlt : i < n
    · obtain ⟨b, off, x, y, z, rfl, hbB, he, hc0, hc1, hc2⟩ := ((unhide HN).up hb).at hlt
      obtain ⟨b2, off2, x2, y2, z2, rfl, hbB2, he2, hd0, hd1, hd2⟩ := ((unhide HN2).up hb).at hlt
      have hxy : (x, y, z) = (x2, y2, z2) := by rw [he] at he2; injection he2
      injection hxy with q1 hxy
      injection hxy with q2 q3
      subst q1; subst q2; subst q3
      have hz := hb.size
      clear he he2
      have hS0 : wr.cell? ⟨b, off + i * 3, none⟩ = some (.int .i64 x) ∧ wr.cell? ⟨b, off + i * 3 + 1, none⟩ = some (.int .i64 y) ∧ wr.cell? ⟨b, off + i * 3 + 2, none⟩ = some (.int .i64 z) ∧ wr.cell? ⟨b2, off2 + i * 3, none⟩ = some (.int .i64 x) ∧ wr.cell? ⟨b2, off2 + i * 3 + 1, none⟩ = some (.int .i64 y) ∧ wr.cell? ⟨b2, off2 + i * 3 + 2, none⟩ = some (.int .i64 z) := ⟨hc0, hc1, hc2, hd0, hd1, hd2⟩
      have hS2 : ∀ o o' : Obj, ((wr.alloc o).alloc o').drew.cell? ⟨b, off + i * 3, none⟩ = some (.int .i64 x) ∧ ((wr.alloc o).alloc o').drew.cell? ⟨b, off + i * 3 + 1, none⟩ = some (.int .i64 y) ∧ ((wr.alloc o).alloc o').drew.cell? ⟨b, off + i * 3 + 2, none⟩ = some (.int .i64 z) ∧ ((wr.alloc o).alloc o').drew.cell? ⟨b2, off2 + i * 3, none⟩ = some (.int .i64 x) ∧ ((wr.alloc o).alloc o').drew.cell? ⟨b2, off2 + i * 3 + 1, none⟩ = some (.int .i64 y) ∧ ((wr.alloc o).alloc o').drew.cell? ⟨b2, off2 + i * 3 + 2, none⟩ = some (.int .i64 z) := fun o o' => by
        have far : ∀ a x, a < wr.heap.size → (((wr.alloc o).alloc o').drew).cell? ⟨a, x, none⟩ = wr.cell? ⟨a, x, none⟩ := fun a x h => by
          show ((wr.alloc o).alloc o').cell? ⟨a, x, none⟩ = _
          rw [World.cell?_alloc_lt _ _ _ (by show a < _; simp; omega), World.cell?_alloc_lt _ _ _ h]
        exact ⟨(far _ _ (by omega)).trans hc0, (far _ _ (by omega)).trans hc1, (far _ _ (by omega)).trans hc2, (far _ _ (by omega)).trans hd0, (far _ _ (by omega)).trans hd1, (far _ _ (by omega)).trans hd2⟩
      have heq : eqM x y z x y z = true := by simp [eqM]
      go_wp2
      go_region_held3 (fun w' => w'.cell? ⟨b, off + i * 3, none⟩ = some (.int .i64 x) ∧ w'.cell? ⟨b, off + i * 3 + 1, none⟩ = some (.int .i64 y) ∧ w'.cell? ⟨b, off + i * 3 + 2, none⟩ = some (.int .i64 z) ∧ w'.cell? ⟨b2, off2 + i * 3, none⟩ = some (.int .i64 x) ∧ w'.cell? ⟨b2, off2 + i * 3 + 1, none⟩ = some (.int .i64 y) ∧ w'.cell? ⟨b2, off2 + i * 3 + 2, none⟩ = some (.int .i64 z)) (first | exact hS0 | exact hS2 _ _)
        (first | (go_at_call 88; refine (eqMove_any _ _ _ _ _ _ _).mono ?_; rintro e w' ⟨rfl, rfl⟩; rw [heq]))
      go_wp2
      go_roundw
      case rel => exact ⟨i + 1, by go_num, by omega, (((hb.alloc hz _).alloc (by simp; omega) _).drew)⟩
      case measure => simp [intOf]; omega
    · obtain rfl : i = n := by omega
      go_wp2
      go_ret
      exact ⟨rfl, hb⟩
end Go.Proofs.Ytcphbncgkemdoaa
