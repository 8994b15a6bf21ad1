/-
  A code is opened; the drawn words, numbers and parts.
-/
import Derived.Test.YtgcggmlekmjpdaaDrawW
import Derived.Test.YtgcggmlekmjpdaaParts
import Derived.Test.YtgcggmlekmjpdaaWords2
import Derived.Test.YtgcggmlekmjpdaaOpen
import Derived.Deep.DeepCutAuto
namespace Go.Proofs.Ytgcggmlekmjpdaa
open Go.RowKit
set_option linter.unusedVariables false
set_option maxRecDepth 100000

theorem CodeB.keep {w w' : World} {B : Nat} {A : Option Addr} {n : Nat} (h : CodeB w B A n) (hk : ∀ b o, b < B → w'.cell? ⟨b, o, none⟩ = w.cell? ⟨b, o, none⟩) : CodeB w' B A n := by
  intro hn
  obtain ⟨b, off, e, hb, hc⟩ := h hn
  exact ⟨b, off, e, hb, fun i hi => by obtain ⟨z, z0, z1, hz⟩ := hc i hi; exact ⟨z, z0, z1, by rw [hk _ _ hb]; exact hz⟩⟩
theorem CodeB.below {w w' : World} {B : Nat} {A : Option Addr} {n : Nat} (h : CodeB w B A n) (hB : B ≤ w.heap.size) (hb : Below w.heap.size w w') : CodeB w' B A n :=
  h.keep fun b o hlt => hb.cell (p := ⟨b, o, none⟩) (by show b < _; omega)
theorem below_only {w w1 w2 : World} {R : Nat} (h : Below w.heap.size w w1) (g : w1.grownBy w2 (some R)) (hR : w.heap.size ≤ R) : Below w.heap.size w w2 :=
  h.grown g h.size (fun k e => by injection e; omega)

/-- What opening a code leaves: a new reader at place 0. -/
def OpenD (w : World) (B : Nat) (e : Ending) (w' : World) : Prop :=
  ∃ R : Nat, e = .returned (.pointer (some ⟨R, 0, none⟩)) ∧ w.heap.size ≤ R ∧ Rd w' B R 0 ∧ Below w.heap.size w w'
theorem open_reader {w : World} {B n c : Nat} {A : Option Addr} (h : CodeB w B A n) (hB : B ≤ w.heap.size) (hn : n ≤ 2000) : Rd (w.alloc (.cells #[.slice A n c, .int .i64 0] 79)) B w.heap.size 0 := by
  refine ⟨hB, Int.le_refl _, A, n, c, heap_alloc_new w _, hn, ?_⟩
  exact h.keep fun b o hlt => World.cell?_alloc_lt w _ ⟨b, o, none⟩ (by show b < _; omega)
theorem l20Open_any (w : World) (B n c : Nat) (A : Option Addr) (h : CodeB w B A n) (hB : B ≤ w.heap.size) (hnc : n ≤ c) (hn : n ≤ 1048576) :
    Calls Try.prog 50 #[.slice A n c] w (OpenD w B) := by
  by_cases h2 : n ≤ 2000
  · have HR := open_reader (c := c) h hB h2
    go_enter Try.func50, Try.ntmps50
    go_wp2
    go_ret
    exact ⟨_, rfl, Nat.le_refl _, HR, (Below.refl _ _).alloc (Nat.le_refl _) _⟩
  · obtain ⟨b, off, rfl, hbB, hc⟩ := h (by omega)
    have h' : CodeB w B (some ⟨b, off, none⟩) 2000 := fun _ => ⟨b, off, rfl, hbB, fun i hi => hc i (by omega)⟩
    have HR := open_reader (c := c) h' hB (Nat.le_refl _)
    clear h h' hc
    have hle : 2000 ≤ c := by omega
    go_enter Try.func50, Try.ntmps50
    go_wp2
    go_ret
    exact ⟨_, rfl, Nat.le_refl _, HR, (Below.refl _ _).alloc (Nat.le_refl _) _⟩

/-- What a drawn text leaves. -/
def TextD (w : World) (m : Nat) (e : Ending) (w' : World) : Prop := ∃ s : ByteArray, e = .returned (.string s) ∧ s.size ≤ m ∧ Below w.heap.size w w'

/-- What a drawn number leaves. -/
def NumD (w : World) (lo hi : Int) (e : Ending) (w' : World) : Prop := ∃ n : Int, e = .returned (.int .i64 n) ∧ lo ≤ n ∧ n ≤ hi ∧ Below w.heap.size w w'

theorem only_facts {a w : World} {R : Nat} (h : a.grownBy w (some R)) : (∀ b o, b < a.heap.size → ¬ b = R → w.cell? ⟨b, o, none⟩ = a.cell? ⟨b, o, none⟩) ∧ (∀ b o, b < a.heap.size → ¬ b = R → w.frozen? ⟨b, o, none⟩ = a.frozen? ⟨b, o, none⟩) ∧ a.heap.size ≤ w.heap.size :=
  ⟨fun b o hlt hne => World.cell?_of_block (w := a) (h.block b hlt (by intro e; injection e; omega)), fun b o hlt hne => World.frozen?_of_block (w := a) (h.block b hlt (by intro e; injection e; omega)), h.size⟩

/-- What a drawn part leaves. -/
def PartD (w : World) (B R : Nat) (p : Int) (e : Ending) (w' : World) : Prop :=
  ∃ k l q : Int, e = .returned (part k l) ∧ 0 ≤ k ∧ k ≤ 9 ∧ -1 ≤ l ∧ l ≤ 3 ∧ p ≤ q ∧ q ≤ p + 5 ∧ Rd w' B R q ∧ w.grownBy w' (some R)
/-- Two blocks of the call's own: some part; the part k, l. -/
def Two (w : World) (b4 b5 : Nat) (k l : Int) : Prop :=
  ∃ x y : Int, w.heap[b4]? = some (.cells #[.int .i64 x, .int .i64 y] 37 (0, 0)) ∧ w.heap[b5]? = some (.cells #[.int .i64 k, .int .i64 l] 37 (0, 0))
theorem Two.keep {w w' : World} {b4 b5 R : Nat} {k l : Int} (h : Two w b4 b5 k l) (g : w.grownBy w' (some R)) (h4 : b4 ≠ R) (h5 : b5 ≠ R) : Two w' b4 b5 k l := by
  obtain ⟨x, y, e4, e5⟩ := h
  have l4 := (Array.getElem?_eq_some_iff.1 e4).1
  have l5 := (Array.getElem?_eq_some_iff.1 e5).1
  exact ⟨x, y, (g.block b4 l4 (by intro e; injection e; omega)).trans e4, (g.block b5 l5 (by intro e; injection e; omega)).trans e5⟩
theorem Two.cells {w : World} {b4 b5 : Nat} {k l : Int} (h : Two w b4 b5 k l) :
    w.cell? ⟨b5, 0, none⟩ = some (.int .i64 k) ∧ w.cell? ⟨b5, 1, none⟩ = some (.int .i64 l) ∧ w.frozen? ⟨b5, 0, none⟩ = false ∧ w.frozen? ⟨b5, 1, none⟩ = false ∧
    (∃ x, w.cell? ⟨b4, 0, none⟩ = some (.int .i64 x)) ∧ (∃ x, w.cell? ⟨b4, 1, none⟩ = some (.int .i64 x)) ∧ w.frozen? ⟨b4, 0, none⟩ = false ∧ w.frozen? ⟨b4, 1, none⟩ = false := by
  obtain ⟨x, y, e4, e5⟩ := h
  refine ⟨by rw [cell_of_row w b5 0 _ _ _ e5]; rfl, by rw [cell_of_row w b5 1 _ _ _ e5]; rfl, by simp [World.frozen?, e5], by simp [World.frozen?, e5],
    ⟨x, by rw [cell_of_row w b4 0 _ _ _ e4]; rfl⟩, ⟨y, by rw [cell_of_row w b4 1 _ _ _ e4]; rfl⟩, by simp [World.frozen?, e4], by simp [World.frozen?, e4]⟩

theorem only_setCell {a w : World} {g : Nat} (h : a.grownBy w (some g)) {p : Addr} (hp : p.block = g ∨ a.heap.size ≤ p.block) (u : Value) : a.grownBy (w.setCell p u) (some g) :=
  ⟨h.os, h.tape, h.output, by simpa [World.setCell] using h.size, fun i hi hne => (Below.heap_setCell w p u i (by
    rintro rfl
    rcases hp with hp | hp
    · exact hne (by rw [hp])
    · omega)).trans (h.block i hi hne)⟩
theorem Rd.setCell {w : World} {B R : Nat} {p : Int} (h : Rd w B R p) {a : Addr} (ha : R < a.block) (u : Value) : Rd (w.setCell a u) B R p :=
  h.keep fun i hi => Below.heap_setCell w a u i (by omega)
theorem Two.set1 {w : World} {b4 b5 : Nat} {k l : Int} (h : Two w b4 b5 k l) (hne : b4 ≠ b5) (j : Int) : Two (w.setCell ⟨b5, 1, none⟩ (.int .i64 j)) b4 b5 k j := by
  obtain ⟨x, y, e4, e5⟩ := h
  exact ⟨x, y, (Below.heap_setCell w _ _ _ hne).trans e4, by simp [World.setCell, Array.getElem?_modify, e5]⟩
theorem Two.set0 {w : World} {b4 b5 : Nat} {k l : Int} (h : Two w b4 b5 k l) (hne : b4 ≠ b5) (j : Int) : Two (w.setCell ⟨b5, 0, none⟩ (.int .i64 j)) b4 b5 j l := by
  obtain ⟨x, y, e4, e5⟩ := h
  exact ⟨x, y, (Below.heap_setCell w _ _ _ hne).trans e4, by simp [World.setCell, Array.getElem?_modify, e5]⟩

set_option maxHeartbeats 2000000 in
theorem l20Part_any (w : World) (B R : Nat) (p n : Int) (h : Rd w B R p) (hp : p ≤ 100000000000) (hn : n ≤ 1000000000000) (hn0 : 0 ≤ n) :
    Calls Try.prog 67 #[.pointer (some ⟨R, 0, none⟩), .int .i64 n] w (PartD w B R p) := by
  have hlt := h.lt
  go_enter Try.func67, Try.ntmps67
  go_wp2_with fail
  refine (pick_any _ B R p 8 (h.alloc _) (by omega) (by omega)).mono ?_
  rintro e w1 ⟨k, rfl, k0, k1, hR1, hg1⟩
  have k2 := k1 (by omega)
  clear k1
  have hs1 := hg1.size
  simp only [World.size_alloc] at hs1
  have hT : Two (w1.alloc (.cells #[.int .i64 (1 + k), .int .i64 0] 37)) w.heap.size w1.heap.size (1 + k) 0 :=
    ⟨0, 0, (Below.heap_alloc w1 _ _ (by omega)).trans ((hg1.block w.heap.size (by simp) (by intro e; injection e; omega)).trans (heap_alloc_new w _)), heap_alloc_new w1 _⟩
  have hG : w.grownBy (w1.alloc (.cells #[.int .i64 (1 + k), .int .i64 0] 37)) (some R) := only_alloc (only_trans (only_alloc (World.grownBy.refl w _) _) hg1) _
  have hR1' := hR1.alloc (.cells #[.int .i64 (1 + k), .int .i64 0] 37)
  go_upto_if 12 with (fail)
  go_cut [] (fun wc => ∃ l q : Int, 0 ≤ l ∧ l ≤ 2 ∧ p + 1 ≤ q ∧ q ≤ p + 2 ∧ Rd wc B R q ∧ w.grownBy wc (some R) ∧ Two wc w.heap.size w1.heap.size (1 + k) l)
  case first =>
    go_wp2_with fail
    · refine (pick_any _ B R (p + 1) 3 hR1' (by omega) (by omega)).mono ?_
      rintro e w2 ⟨j, rfl, j0, j1, hR2, hg2⟩
      have j2 := j1 (by omega)
      clear j1
      have hT2 := hT.keep hg2 (by omega) (by omega)
      obtain ⟨c0, c1, f0, f1, -⟩ := hT2.cells
      go_wp2
      go_meet
      exact ⟨j, p + 2, by omega, by omega, by omega, by omega, (show Rd w2 B R (p + 2) from by rw [show p + 2 = p + 1 + 1 from by omega]; exact hR2).setCell (by show R < w1.heap.size; omega) _, only_setCell (only_trans hG hg2) (.inr (by show _ ≤ w1.heap.size; omega)) _, hT2.set1 (by omega) j⟩
    · go_meet
      exact ⟨0, p + 1, by omega, by omega, by omega, by omega, hR1', hG, hT⟩
  case rest =>
    obtain ⟨l, q, l0, l2, hq1, hq2, hRq, hGq, hTq⟩ := hcut
    clear hR1 hR1' hT hG hg1 h
    go_wp2_with fail
    refine (odd_any _ B R q n hRq (by omega) hn hn0).mono ?_
    rintro e w2 ⟨o, q2, rfl, hq3, hq4, hR2, hg2⟩
    have hT2 := hTq.keep hg2 (by omega) (by omega)
    have hG2 := only_trans hGq hg2
    have hz2 := hG2.size
    rcases o
    · obtain ⟨c0, c1, f0, f1, ⟨x, d0⟩, ⟨y, d1⟩, g0, g1⟩ := hT2.cells
      go_wp2
      refine bodyPost_ret (v := part (1 + k) l) (by simp [results, Try.results67, go_sem, d0, d1]) rfl ⟨1 + k, l, q2, rfl, by omega, by omega, by omega, by omega, by omega, by omega, ?_, ?_⟩
      · exact (hR2.setCell (by show R < w.heap.size; omega) _).setCell (by show R < w.heap.size; omega) _
      · exact only_setCell (only_setCell hG2 (.inr (Nat.le_refl _)) _) (.inr (Nat.le_refl _)) _
    · go_wp2_with fail
      refine (pick_any _ B R q2 2 hR2 (by omega) (by omega)).mono ?_
      rintro e w3 ⟨j, rfl, j0, j1, hR3, hg3⟩
      have j2 := j1 (by omega)
      clear j1
      have hT3 := hT2.keep hg3 (by omega) (by omega)
      have hG3 := only_trans hG2 hg3
      have hz3 := hG3.size
      clear hT2 hTq hG2 hGq
      rcases (show j = 0 ∨ j = 1 by omega) with rfl | rfl
      · go_wp2_with fail
        refine (pick_any _ B R (q2 + 1) 2 (hR3.alloc _) (by omega) (by omega)).mono ?_
        rintro e w4 ⟨i, rfl, i0, i1, hR4, hg4⟩
        have i2 := i1 (by omega)
        clear i1
        have hT4 := Two.keep (R := R) hT3 (only_trans (only_alloc (World.grownBy.refl w3 _) _) hg4) (by omega) (by omega)
        have hG4 := only_trans (only_alloc hG3 _) hg4
        have hfar := fun o => only_far hg4 (b := w3.heap.size) o (by simp) (by omega)
        obtain ⟨c0, c1, f0, f1, ⟨x, d0⟩, ⟨y, d1⟩, g0, g1⟩ := hT4.cells
        have n1 : ¬ w.heap.size = w1.heap.size := by omega
        have n2 : ¬ w1.heap.size = w.heap.size := by omega
        rcases (show i = 0 ∨ i = 1 by omega) with rfl | rfl
        · go_wp2
          refine bodyPost_ret (v := part 0 l) (by simp [results, Try.results67, go_sem, d0, d1]) rfl ⟨0, l, q2 + 1 + 1, rfl, by omega, by omega, by omega, by omega, by omega, by omega, ?_, ?_⟩
          · exact ((hR4.setCell (by show R < w1.heap.size; omega) _).setCell (by show R < w.heap.size; omega) _).setCell (by show R < w.heap.size; omega) _
          · exact only_setCell (only_setCell (only_setCell hG4 (.inr (by show _ ≤ w1.heap.size; omega)) _) (.inr (Nat.le_refl _)) _) (.inr (Nat.le_refl _)) _
        · go_wp2
          refine bodyPost_ret (v := part 9 l) (by simp [results, Try.results67, go_sem, d0, d1]) rfl ⟨9, l, q2 + 1 + 1, rfl, by omega, by omega, by omega, by omega, by omega, by omega, ?_, ?_⟩
          · exact ((hR4.setCell (by show R < w1.heap.size; omega) _).setCell (by show R < w.heap.size; omega) _).setCell (by show R < w.heap.size; omega) _
          · exact only_setCell (only_setCell (only_setCell hG4 (.inr (by show _ ≤ w1.heap.size; omega)) _) (.inr (Nat.le_refl _)) _) (.inr (Nat.le_refl _)) _
      · go_wp2_with fail
        refine (pick_any _ B R (q2 + 1) 3 (hR3.alloc _) (by omega) (by omega)).mono ?_
        rintro e w4 ⟨i, rfl, i0, i1, hR4, hg4⟩
        have i2 := i1 (by omega)
        clear i1
        have hT4 := Two.keep (R := R) hT3 (only_trans (only_alloc (World.grownBy.refl w3 _) _) hg4) (by omega) (by omega)
        have hG4 := only_trans (only_alloc hG3 _) hg4
        have hfar := fun o => only_far hg4 (b := w3.heap.size) o (by simp) (by omega)
        obtain ⟨c0, c1, f0, f1, ⟨x, d0⟩, ⟨y, d1⟩, g0, g1⟩ := hT4.cells
        have n1 : ¬ w.heap.size = w1.heap.size := by omega
        have n2 : ¬ w1.heap.size = w.heap.size := by omega
        rcases (show i = 0 ∨ i = 1 ∨ i = 2 by omega) with rfl | rfl | rfl
        · go_wp2
          refine bodyPost_ret (v := part (1 + k) (-1)) (by simp [results, Try.results67, go_sem, d0, d1]) rfl ⟨(1 + k), (-1), q2 + 1 + 1, rfl, by omega, by omega, by omega, by omega, by omega, by omega, ?_, ?_⟩
          · exact ((hR4.setCell (by show R < w1.heap.size; omega) _).setCell (by show R < w.heap.size; omega) _).setCell (by show R < w.heap.size; omega) _
          · exact only_setCell (only_setCell (only_setCell hG4 (.inr (by show _ ≤ w1.heap.size; omega)) _) (.inr (Nat.le_refl _)) _) (.inr (Nat.le_refl _)) _
        · go_wp2
          refine bodyPost_ret (v := part (1 + k) 3) (by simp [results, Try.results67, go_sem, d0, d1]) rfl ⟨(1 + k), 3, q2 + 1 + 1, rfl, by omega, by omega, by omega, by omega, by omega, by omega, ?_, ?_⟩
          · exact ((hR4.setCell (by show R < w1.heap.size; omega) _).setCell (by show R < w.heap.size; omega) _).setCell (by show R < w.heap.size; omega) _
          · exact only_setCell (only_setCell (only_setCell hG4 (.inr (by show _ ≤ w1.heap.size; omega)) _) (.inr (Nat.le_refl _)) _) (.inr (Nat.le_refl _)) _
        · go_wp2
          refine bodyPost_ret (v := part (1 + k) 1) (by simp [results, Try.results67, go_sem, d0, d1]) rfl ⟨(1 + k), 1, q2 + 1 + 1, rfl, by omega, by omega, by omega, by omega, by omega, by omega, ?_, ?_⟩
          · exact ((hR4.setCell (by show R < w1.heap.size; omega) _).setCell (by show R < w.heap.size; omega) _).setCell (by show R < w.heap.size; omega) _
          · exact only_setCell (only_setCell (only_setCell hG4 (.inr (by show _ ≤ w1.heap.size; omega)) _) (.inr (Nat.le_refl _)) _) (.inr (Nat.le_refl _)) _

/-- What a drawn part leaves, of a law's own draw. -/
def PartDD (w : World) (e : Ending) (w' : World) : Prop :=
  ∃ k l : Int, e = .returned (part k l) ∧ 0 ≤ k ∧ k ≤ 9 ∧ -1 ≤ l ∧ l ≤ 3 ∧ Below w.heap.size w w'

end Go.Proofs.Ytgcggmlekmjpdaa
