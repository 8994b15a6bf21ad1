/-
  The drawn letters of derivatives.
-/
import Derived.Test.YtadibjjjdbglaaaDrawL
import Derived.Test.YtadibjjjdbglaaaDrawW
import Derived.Deep.RegionHeld3
import Derived.Deep.RegionWith
namespace Go.Proofs.Ytadibjjjdbglaaa
open Go.RowKit
set_option linter.unusedVariables false
set_option maxRecDepth 100000

/-- A slice of parts apart from the reader's block stays as the reader goes on. -/
theorem SL.readerD {w w' : World} {A : Option Addr} {n c R : Nat} {e : List Pt} (h : SL w w.heap.size A n c e) (hne : ∀ b o, A = some ⟨b, o, none⟩ → b ≠ R) (hg : w.grownBy w' (some R)) : SL w' w'.heap.size A n c e := by
  obtain ⟨⟨hl, hp⟩, h2⟩ := h
  refine ⟨⟨hl, fun hn => ?_⟩, h2⟩
  obtain ⟨b, off, e1, hb, hc⟩ := hp hn
  have hbR := hne b off e1
  have hk : ∀ o, w'.cell? ⟨b, o, none⟩ = w.cell? ⟨b, o, none⟩ := fun o => only_far hg o hb hbR
  exact ⟨b, off, e1, Nat.lt_of_lt_of_le hb hg.size, fun i k l hi => ⟨(hk _).trans (hc i k l hi).1, (hk _).trans (hc i k l hi).2⟩⟩
theorem pickv (j : Nat) (h : (j : Int) < 8) : ∃ v : Nat, (v : Int) < 3 ∧ (#[Value.int .i64 0, .int .i64 0, .int .i64 0, .int .i64 0, .int .i64 0, .int .i64 0, .int .i64 1, .int .i64 2] : Array Value)[j]? = some (.int .i64 (v : Int)) := by
  rcases (show j = 0 ∨ j = 1 ∨ j = 2 ∨ j = 3 ∨ j = 4 ∨ j = 5 ∨ j = 6 ∨ j = 7 by omega) with rfl | rfl | rfl | rfl | rfl | rfl | rfl | rfl
  · exact ⟨0, by decide, rfl⟩
  · exact ⟨0, by decide, rfl⟩
  · exact ⟨0, by decide, rfl⟩
  · exact ⟨0, by decide, rfl⟩
  · exact ⟨0, by decide, rfl⟩
  · exact ⟨0, by decide, rfl⟩
  · exact ⟨1, by decide, rfl⟩
  · exact ⟨2, by decide, rfl⟩
theorem pickx (a : Int) (v : Nat) (ha : 0 ≤ a ∧ a ≤ 2) (h : (v : Int) < 3) : ∃ x : Int, -1 ≤ x ∧ x ≤ 3 ∧ (#[Value.int .i64 a, .int .i64 (-1), .int .i64 3] : Array Value)[v]? = some (.int .i64 x) := by
  rcases (show v = 0 ∨ v = 1 ∨ v = 2 by omega) with rfl | rfl | rfl
  · exact ⟨a, by omega, by omega, rfl⟩
  · exact ⟨-1, by omega, by omega, rfl⟩
  · exact ⟨3, by omega, by omega, rfl⟩
abbrev box3 (a : Int) : Obj := .cells #[.int .i64 a, .int .i64 (-1), .int .i64 3] 3
abbrev box8 : Obj := .cells #[.int .i64 0, .int .i64 0, .int .i64 0, .int .i64 0, .int .i64 0, .int .i64 0, .int .i64 1, .int .i64 2] 3
/-- What a draw of an expression and a letter leaves. -/
def DrawEL (w : World) (r : Ending) (w' : World) : Prop :=
  ∃ (e : List Pt) (A : Option Addr) (n c : Nat) (k : Int), r = .returned (.tuple #[.slice A n c, .int .i64 k]) ∧ (n ≤ 16 ∨ n = 61) ∧ SL w' w'.heap.size A n c e ∧ -1 ≤ k ∧ k ≤ 3 ∧ Below w.heap.size w w'
set_option maxHeartbeats 2000000 in
theorem dDerive_any (w : World) (n c : Nat) (A : Option Addr) (B : Nat) (h : CodeB w B A n) (hB : B ≤ w.heap.size) (hnc : n ≤ c) (hn : n ≤ 1048576) :
    Calls Try.prog 31 #[.slice A n c] w (DrawEL w) := by
  go_enter Try.func31, Try.ntmps31
  go_wp2_with fail
  refine (l20Open_any _ B n c A h hB hnc hn).mono ?_
  rintro r w1 ⟨R, rfl, hR, hRd, hb⟩
  go_wp2_with fail
  refine (l20Expr_any _ B R 0 12 hRd (by omega) (by omega) (by omega)).mono ?_
  rintro r w2 ⟨e, A2, c2, q, rfl, hl, hSL, ⟨-, hne⟩, hq, hRd2, hg⟩
  have hlt2 := hRd2.lt
  go_wp2
  go_region_with
    (first
      | (go_at_call 70; (with_reducible refine (pick_any _ B R q 3 ?_ (by omega) (by omega)).mono ?_); (first | exact hRd2 | exact hRd2.alloc _); rintro r w4 ⟨a, rfl, a0, a1, hR4, hg4⟩; (have a2 : a ≤ 2 := Int.le_of_lt_add_one (a1 (by decide))); (have G4 : w2.grownBy w4 (some R) := only_trans (by first | exact only_drew (World.grownBy.refl w2 _) | exact only_drew (only_alloc (World.grownBy.refl w2 _) _) | exact only_alloc (only_drew (World.grownBy.refl w2 _)) _) hg4); (have hlt4 := hR4.lt); (first | (have e8 : ∀ o, w4.cell? ⟨w2.heap.size, o, none⟩ = (w2.alloc box8).cell? ⟨w2.heap.size, o, none⟩ := (fun o => only_far hg4 (b := w2.heap.size) o (by simp) (by omega))) | skip); (first | (have z24 : w2.heap.size < w4.heap.size := Nat.lt_of_lt_of_le (show w2.heap.size < (w2.alloc box8).heap.size by simp) hg4.size) | skip); clear a1)
      | (go_at_call 70; (with_reducible refine (pick_any _ B R (q + 1) 8 ?_ (by omega) (by omega)).mono ?_); (first | exact hR4 | exact hR4.alloc _ | exact (hR4.alloc _).alloc _); rintro r w6 ⟨jj, rfl, j0, j1, hR6, hg6⟩; (have j2 : jj < 8 := j1 (by decide)); (obtain ⟨j, rfl⟩ := Int.eq_ofNat_of_zero_le j0); (obtain ⟨v, hv3, hv⟩ := pickv j j2); (obtain ⟨x, hx0, hx3, hx⟩ := pickx a v ⟨a0, a2⟩ hv3); (have hv0 : (0 : Int) ≤ (v : Int) := Int.natCast_nonneg _); (have G6 : w2.grownBy w6 (some R) := only_trans (by first | exact G4 | exact only_alloc G4 _ | exact only_alloc (only_alloc G4 _) _) hg6); (have hf6 := fun b o h1 h2 => only_far hg6 (b := b) o h1 h2); (have z2 := hg4.size); (try simp at z2); (have z6 := hg6.size); (try simp at z6); (have z60 : w4.heap.size ≤ w6.heap.size := by omega); (first | (have z61 : w4.heap.size < w6.heap.size := by omega) | skip); (first | (have z62 : w4.heap.size + 1 < w6.heap.size := by omega) | skip); (first | (have z63 : w2.heap.size < w6.heap.size := by omega) | skip); (first | (have F1 : w6.cell? ⟨w4.heap.size, v, none⟩ = some (.int .i64 x) := (hf6 _ _ (by first | omega | (simp; done) | (simp; omega)) (by omega)).trans (by first | (rw [World.cell?_alloc_new]; exact hx) | (rw [World.cell?_alloc_lt _ _ _ (by show _ < _; first | omega | (simp; done) | (simp; omega))]; rw [World.cell?_alloc_new]; exact hx))) | skip); (first | (have F2 : w6.cell? ⟨w4.heap.size + 1, v, none⟩ = some (.int .i64 x) := (hf6 _ _ (by first | omega | (simp; done) | (simp; omega)) (by omega)).trans (by (first | (have hh := World.cell?_alloc_new (w := w4.alloc (box3 a)) #[.int .i64 0, .int .i64 0, .int .i64 0, .int .i64 0, .int .i64 0, .int .i64 0, .int .i64 1, .int .i64 2] 3 j; rw [World.size_alloc] at hh; exact hh.trans hv) | (have hh := World.cell?_alloc_new (w := w4.alloc box8) #[.int .i64 a, .int .i64 (-1), .int .i64 3] 3 v; rw [World.size_alloc] at hh; exact hh.trans hx)))) | skip); (first | (have F3 : w6.cell? ⟨w4.heap.size, j, none⟩ = some (.int .i64 (v : Int)) := (hf6 _ _ (by first | omega | (simp; done) | (simp; omega)) (by omega)).trans (by first | (rw [World.cell?_alloc_new]; exact hv) | (rw [World.cell?_alloc_lt _ _ _ (by show _ < _; first | omega | (simp; done) | (simp; omega))]; rw [World.cell?_alloc_new]; exact hv))) | skip); (first | (have F4 : w6.cell? ⟨w4.heap.size + 1, j, none⟩ = some (.int .i64 (v : Int)) := (hf6 _ _ (by first | omega | (simp; done) | (simp; omega)) (by omega)).trans (by (first | (have hh := World.cell?_alloc_new (w := w4.alloc (box3 a)) #[.int .i64 0, .int .i64 0, .int .i64 0, .int .i64 0, .int .i64 0, .int .i64 0, .int .i64 1, .int .i64 2] 3 j; rw [World.size_alloc] at hh; exact hh.trans hv) | (have hh := World.cell?_alloc_new (w := w4.alloc box8) #[.int .i64 a, .int .i64 (-1), .int .i64 3] 3 v; rw [World.size_alloc] at hh; exact hh.trans hx)))) | skip); (first | (have F5 : w6.cell? ⟨w2.heap.size, j, none⟩ = some (.int .i64 (v : Int)) := (hf6 _ _ (by first | omega | (simp; done) | (simp; omega)) (by omega)).trans (by first | exact (e8 j).trans (by rw [World.cell?_alloc_new]; exact hv) | (rw [World.cell?_alloc_lt _ _ _ (by show _ < _; omega)]; exact (e8 j).trans (by rw [World.cell?_alloc_new]; exact hv)))) | skip); clear j1 hf6 z2 z6))
  all_goals
    go_wp2
    go_ret2
    first
      | exact ⟨e, A2, _, c2, x, rfl, hl, hSL.readerD hne G6, hx0, hx3, below_only hb (only_trans hg G6) hR⟩
      | exact ⟨e, A2, _, c2, x, rfl, hl, hSL.readerD hne (only_alloc G6 _), hx0, hx3, below_only hb (only_trans hg (only_alloc G6 _)) hR⟩
      | exact ⟨e, A2, _, c2, x, rfl, hl, hSL.readerD hne (only_alloc (only_alloc G6 _) _), hx0, hx3, below_only hb (only_trans hg (only_alloc (only_alloc G6 _) _)) hR⟩
end Go.Proofs.Ytadibjjjdbglaaa
