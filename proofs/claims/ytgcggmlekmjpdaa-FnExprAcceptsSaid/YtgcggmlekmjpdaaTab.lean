/-
  Membership: the reference's table: memory.
-/
import Derived.Test.YtgcggmlekmjpdaaStarts
import Derived.Test.YtgcggmlekmjpdaaSimp
import Derived.Test.YtgcggmlekmjpdaaOpnd
import Derived.Test.YtgcggmlekmjpdaaSplit
import Derived.Test.YtgcggmlekmjpdaaOper2
import Derived.Maps.AppendAt
namespace Go.Proofs.Ytgcggmlekmjpdaa
open Go.RowKit
set_option linter.unusedVariables false
set_option maxRecDepth 100000

/-- A square of bools, by rows, in memory that X tells. -/
def RowM (w : World) (X : Nat → Prop) (v : Value) (n : Nat) (P : Nat → Nat → Bool) : Prop :=
  ∃ g c, v = .slice (some ⟨g, 0, none⟩) (n + 1) c ∧ X g ∧ ∀ i, i ≤ n → ∃ q d, w.cell? ⟨g, i, none⟩ = some (.slice (some ⟨q, 0, none⟩) (n + 1) d) ∧ X q ∧ ∀ j, j ≤ n → w.cell? ⟨q, j, none⟩ = some (.bool (P i j))
theorem RowM.keep {w w' : World} {X X' : Nat → Prop} {v : Value} {n : Nat} {P : Nat → Nat → Bool} (h : RowM w X v n P) (hx : ∀ b, X b → X' b) (hk : ∀ b o, X b → w'.cell? ⟨b, o, none⟩ = w.cell? ⟨b, o, none⟩) : RowM w' X' v n P := by
  obtain ⟨g, c, e, xg, hr⟩ := h
  refine ⟨g, c, e, hx _ xg, fun i hi => ?_⟩
  obtain ⟨q, d, h1, xq, h2⟩ := hr i hi
  exact ⟨q, d, (hk _ _ xg).trans h1, hx _ xq, fun j hj => (hk _ _ xq).trans (h2 j hj)⟩
/-- The blocks in which the table's squares lie. -/
def XT (w : World) (tv : Value) (b : Nat) : Prop := b < w.heap.size ∧ some b ≠ tv.ownBlock
/-- The table behind k parts. -/
def TabI (w wr : World) (e : List Pt) (s : List UInt8) (tv : Value) (k : Nat) : Prop :=
  ∃ vs : List Value, vs.length = k ∧ wr.ownsRow w.heap.size 52 1 tv k vs ∧ Below w.heap.size w wr ∧ (∀ u ∈ vs, u.oneCell' = true) ∧
    ∀ m v, vs[m]? = some v → ∃ P, RowM wr (XT wr tv) v s.length P ∧ ∀ (x : List Pt) (t : Ex), t.good → x ++ t.flat = e.take (m + 1) → ∀ i j, i ≤ j → j ≤ s.length → P i j = t.sp s i j
theorem TabI.start {w W : World} {e : List Pt} {s : List UInt8} {tv : Value} (hb : Below w.heap.size w W) (hown : W.ownsRow w.heap.size 52 1 tv 0 []) : TabI w W e s tv 0 :=
  ⟨[], rfl, hown, hb, by simp, fun m v h => by simp at h⟩
/-- The squares at hand while the table stands: one of them. -/
theorem TabI.at {w wr : World} {e : List Pt} {s : List UInt8} {tv : Value} {k m : Nat} (h : TabI w wr e s tv k) (hm : m < k) {x : List Pt} {t : Ex} (ht : t.good) (hx : x ++ t.flat = e.take (m + 1)) :
    ∃ gt ct v P, tv = .slice (some ⟨gt, 0, none⟩) k ct ∧ k ≤ ct ∧ gt < wr.heap.size ∧ wr.cell? ⟨gt, m, none⟩ = some v ∧ RowM wr (fun b => b < wr.heap.size) v s.length P ∧ ∀ i j, i ≤ j → j ≤ s.length → P i j = t.sp s i j := by
  obtain ⟨vs, hl, hown, hb, -, hr⟩ := h
  subst hl
  obtain ⟨SA, sc, hsv, hsc, hSA⟩ := own_shape hown
  obtain ⟨g, rfl⟩ := hSA (by omega)
  subst hsv
  obtain ⟨P, h1, h2⟩ := hr m vs[m] (List.getElem?_eq_getElem hm)
  refine ⟨g, sc, vs[m], P, rfl, hsc, (hown.lt g rfl).2, ?_, h1.keep (fun b hb => hb.1) (fun _ _ _ => rfl), h2 x t ht hx⟩
  rw [hown.cellAt m (by omega)]
  exact List.getElem?_eq_getElem hm
/-- The square that is being filled in: n + 1 rows of its own. -/
structure RowsO (w : World) (lo g n : Nat) (q : Nat → Nat) (P : Nat → Nat → Bool) : Prop where
  g1 : lo ≤ g
  g2 : g < w.heap.size
  q1 : ∀ i, i ≤ n → lo ≤ q i ∧ q i < w.heap.size ∧ q i ≠ g
  qi : ∀ i i', i ≤ n → i' ≤ n → q i = q i' → i = i'
  c1 : ∀ i, i ≤ n → w.cell? ⟨g, i, none⟩ = some (.slice (some ⟨q i, 0, none⟩) (n + 1) (n + 1))
  c2 : ∀ i j, i ≤ n → j ≤ n → w.cell? ⟨q i, j, none⟩ = some (.bool (P i j)) ∧ w.frozen? ⟨q i, j, none⟩ = false
theorem RowsO.drewN {w : World} {lo g n : Nat} {q : Nat → Nat} {P : Nat → Nat → Bool} (h : RowsO w lo g n q P) (k : Nat) : RowsO (w.drewN k) lo g n q P := ⟨h.g1, h.g2, h.q1, h.qi, h.c1, h.c2⟩
theorem RowsO.drew {w : World} {lo g n : Nat} {q : Nat → Nat} {P : Nat → Nat → Bool} (h : RowsO w lo g n q P) : RowsO w.drew lo g n q P := ⟨h.g1, h.g2, h.q1, h.qi, h.c1, h.c2⟩
theorem RowsO.congr {w : World} {lo g n : Nat} {q : Nat → Nat} {P P' : Nat → Nat → Bool} (h : RowsO w lo g n q P) (e : ∀ i j, i ≤ n → j ≤ n → P i j = P' i j) : RowsO w lo g n q P' :=
  ⟨h.g1, h.g2, h.q1, h.qi, h.c1, fun i j hi hj => by rw [← e i j hi hj]; exact h.c2 i j hi hj⟩
theorem RowsO.set {w : World} {lo g n : Nat} {q : Nat → Nat} {P : Nat → Nat → Bool} (h : RowsO w lo g n q P) {i j : Nat} (hi : i ≤ n) (hj : j ≤ n) (b : Bool) :
    RowsO (w.setCell ⟨q i, j, none⟩ (.bool b)) lo g n q (fun x y => if x = i ∧ y = j then b else P x y) := by
  refine ⟨h.g1, by simpa using h.g2, fun x hx => by simpa using h.q1 x hx, h.qi, fun x hx => ?_, fun x y hx hy => ⟨?_, ?_⟩⟩
  · rw [World.cell?_setCell_other _ _ _ _ (by intro e; injection e with e; exact (h.q1 i hi).2.2 e)]
    exact h.c1 x hx
  · by_cases e : x = i ∧ y = j
    · obtain ⟨rfl, rfl⟩ := e
      rw [World.cell?_setCell_same _ _ _ (h.c2 x y hx hy).1]; simp
    · rw [World.cell?_setCell_other _ _ _ _ (by
        intro e'; injection e' with e1 e2 _
        exact e ⟨(h.qi i x hi hx e1).symm, e2.symm⟩), if_neg e]
      exact (h.c2 x y hx hy).1
  · rw [World.frozen?_setCell]; exact (h.c2 x y hx hy).2
theorem RowsO.toM {w : World} {lo g c n : Nat} {q : Nat → Nat} {P : Nat → Nat → Bool} {X : Nat → Prop} (h : RowsO w lo g n q P) (hX : ∀ b, lo ≤ b → b < w.heap.size → X b) : RowM w X (.slice (some ⟨g, 0, none⟩) (n + 1) c) n P :=
  ⟨g, c, rfl, hX _ h.g1 h.g2, fun i hi => ⟨q i, n + 1, h.c1 i hi, hX _ (h.q1 i hi).1 (h.q1 i hi).2.1, fun j hj => (h.c2 i j hi hj).1⟩⟩
/-- The rows while they are made. -/
structure RowsB (w : World) (lo n : Nat) (rv : Value) (i : Nat) (vals : List Value) (q : Nat → Nat) : Prop where
  own : w.ownsRow lo 51 1 rv i vals
  vl : ∀ x, x < i → vals[x]? = some (.slice (some ⟨q x, 0, none⟩) (n + 1) (n + 1))
  q1 : ∀ x, x < i → lo ≤ q x ∧ q x < w.heap.size ∧ rv.ownBlock ≠ some (q x)
  qi : ∀ x y, x < i → y < i → q x = q y → x = y
  c2 : ∀ x j, x < i → j ≤ n → w.cell? ⟨q x, j, none⟩ = some (.bool false) ∧ w.frozen? ⟨q x, j, none⟩ = false
theorem cell_grown {w w' : World} {row : Option Nat} {b o : Nat} (hg : w.grownBy w' row) (hb : b < w.heap.size) (hne : row ≠ some b) : w'.cell? ⟨b, o, none⟩ = w.cell? ⟨b, o, none⟩ ∧ w'.frozen? ⟨b, o, none⟩ = w.frozen? ⟨b, o, none⟩ :=
  ⟨World.cell?_of_block (a := ⟨b, o, none⟩) (hg.block b hb (Ne.symm hne)), World.frozen?_of_block (a := ⟨b, o, none⟩) (hg.block b hb (Ne.symm hne))⟩
/-- One row more: a new block of bools, a block for the literal, then the append. -/
theorem RowsB.next {w w' : World} {lo n : Nat} {rv rv' : Value} {i : Nat} {vals : List Value} {q : Nat → Nat} {C : Array Value} {o : Obj} (h : RowsB w lo n rv i vals q) (hC : ∀ j, j ≤ n → C[j]? = some (.bool false)) (hlo : lo ≤ w.heap.size)
    (hown : w'.ownsRow lo 51 1 rv' (i + 1) (vals ++ [.slice (some ⟨w.heap.size, 0, none⟩) (n + 1) (n + 1)])) (hg : ((w.alloc (.cells C 4)).alloc o).grownBy w' rv.ownBlock) (hat : rv'.ownBlock = rv.ownBlock ∨ rv'.ownBlock = some ((w.alloc (.cells C 4)).alloc o).heap.size) :
    RowsB w' lo n rv' (i + 1) (vals ++ [.slice (some ⟨w.heap.size, 0, none⟩) (n + 1) (n + 1)]) (fun x => if x < i then q x else w.heap.size) := by
  have hz : ((w.alloc (.cells C 4)).alloc o).heap.size = w.heap.size + 2 := by simp
  have hs := hg.size
  rw [hz] at hs hat
  have hl : vals.length = i := by have := h.own.1; omega
  have hnew : rv.ownBlock ≠ some w.heap.size := by intro e; have := (h.own.lt _ e).2; omega
  have old : ∀ b o', b < w.heap.size → rv.ownBlock ≠ some b → w'.cell? ⟨b, o', none⟩ = w.cell? ⟨b, o', none⟩ ∧ w'.frozen? ⟨b, o', none⟩ = w.frozen? ⟨b, o', none⟩ := fun b o' hb hne => by
    obtain ⟨e1, e2⟩ := cell_grown (o := o') hg (show b < _ by omega) hne
    refine ⟨e1.trans ?_, e2.trans ?_⟩
    · rw [World.cell?_alloc_lt _ _ _ (by show b < _; simp; omega), World.cell?_alloc_lt _ _ _ hb]
    · rw [World.frozen?_alloc_old _ _ _ (by show b ≠ _; simp; omega), World.frozen?_alloc_old _ _ _ (by show b ≠ _; omega)]
  refine ⟨hown, fun x hx => ?_, fun x hx => ?_, fun x y hx hy e => ?_, fun x j hx hj => ?_⟩
  · by_cases hxi : x < i
    · rw [List.getElem?_append_left (by omega), if_pos hxi]; exact h.vl x hxi
    · obtain rfl : x = i := by omega
      rw [List.getElem?_append_right (by omega), hl, if_neg hxi]; simp
  · by_cases hxi : x < i
    · obtain ⟨a1, a2, a3⟩ := h.q1 x hxi
      simp only [if_pos hxi]
      refine ⟨a1, by omega, ?_⟩
      rcases hat with e | e
      · rw [e]; exact a3
      · rw [e]; intro e'; injection e' with e'; omega
    · simp only [if_neg hxi]
      refine ⟨hlo, by omega, ?_⟩
      rcases hat with e | e
      · rw [e]; exact hnew
      · rw [e]; intro e'; injection e' with e'; omega
  · by_cases hxi : x < i
    · by_cases hyi : y < i
      · simp only [if_pos hxi, if_pos hyi] at e; exact h.qi x y hxi hyi e
      · simp only [if_pos hxi, if_neg hyi] at e; have := (h.q1 x hxi).2.1; omega
    · by_cases hyi : y < i
      · simp only [if_neg hxi, if_pos hyi] at e; have := (h.q1 y hyi).2.1; omega
      · omega
  · by_cases hxi : x < i
    · simp only [if_pos hxi]
      obtain ⟨a1, a2, a3⟩ := h.q1 x hxi
      obtain ⟨e1, e2⟩ := old (q x) j a2 a3
      rw [e1, e2]; exact h.c2 x j hxi hj
    · simp only [if_neg hxi]
      obtain ⟨e1, e2⟩ := cell_grown (o := j) hg (show w.heap.size < _ by omega) hnew
      rw [e1, e2]
      constructor
      · rw [World.cell?_alloc_lt _ _ _ (by show w.heap.size < _; simp)]
        rw [World.cell?_alloc_new]; exact hC j hj
      · rw [World.frozen?_alloc_old _ _ _ (by show w.heap.size ≠ _; simp)]
        exact frozen_of_row _ _ _ _ _ (heap_alloc_new w _)
theorem RowsB.full {w : World} {lo n : Nat} {rv : Value} {vals : List Value} {q : Nat → Nat} (h : RowsB w lo n rv (n + 1) vals q) : ∃ g c, rv = .slice (some ⟨g, 0, none⟩) (n + 1) c ∧ n + 1 ≤ c ∧ RowsO w lo g n q (fun _ _ => false) := by
  obtain ⟨SA, sc, hsv, hsc, hSA⟩ := own_shape h.own
  obtain ⟨g, rfl⟩ := hSA (by omega)
  subst hsv
  have hl := h.own.lt g rfl
  refine ⟨g, sc, rfl, hsc, hl.1, hl.2, fun i hi => ?_, fun i i' hi hi' => h.qi i i' (by omega) (by omega), fun i hi => ?_, fun i j hi hj => h.c2 i j (by omega) hj⟩
  · obtain ⟨a1, a2, a3⟩ := h.q1 i (by omega)
    exact ⟨a1, a2, fun e => a3 (by rw [e]; rfl)⟩
  · rw [h.own.cellAt i (by omega)]; exact h.vl i (by omega)
/-- One square more in the table. -/
theorem TabI.next {w wr W w' : World} {e : List Pt} {s : List UInt8} {tv tv' : Value} {k g c : Nat} {q : Nat → Nat} {P : Nat → Nat → Bool} {x : List Pt} {t : Ex} {o : Obj} (h : TabI w wr e s tv k) (hb : Below wr.heap.size wr W) (hR : RowsO W wr.heap.size g s.length q P)
    (hg : (W.alloc o).grownBy w' tv.ownBlock) (hat : tv'.ownBlock = tv.ownBlock ∨ tv'.ownBlock = some (W.alloc o).heap.size)
    (hown : ∀ vs : List Value, vs.length = k → wr.ownsRow w.heap.size 52 1 tv k vs → w'.ownsRow w.heap.size 52 1 tv' (k + 1) (vs ++ [.slice (some ⟨g, 0, none⟩) (s.length + 1) c]))
    (ht : t.good) (hx : x ++ t.flat = e.take (k + 1)) (hP : ∀ i j, i ≤ j → j ≤ s.length → P i j = t.sp s i j) : TabI w w' e s tv' (k + 1) := by
  obtain ⟨vs, hl, hown0, hb0, h1, hr⟩ := h
  have hz := hb.size
  have hz0 := hb0.size
  have hzo : (W.alloc o).heap.size = W.heap.size + 1 := by simp
  have hs := hg.size
  rw [hzo] at hs hat
  have hbig : ∀ b, tv.ownBlock = some b → w.heap.size ≤ b ∧ b < wr.heap.size := fun b e => hown0.lt b e
  have keep : ∀ b o', b < W.heap.size → some b ≠ tv.ownBlock → w'.cell? ⟨b, o', none⟩ = W.cell? ⟨b, o', none⟩ := fun b o' hb' hne => by
    refine (cell_grown (o := o') hg (show b < _ by omega) (Ne.symm hne)).1.trans ?_
    rw [World.cell?_alloc_lt _ _ _ (by show b < _; omega)]
  have nx : ∀ b, b < W.heap.size → some b ≠ tv.ownBlock → XT w' tv' b := fun b hb' hne => by
    refine ⟨by omega, ?_⟩
    rcases hat with e | e
    · rw [e]; exact hne
    · rw [e]; intro e'; injection e' with e'; omega
  refine ⟨_, by rw [List.length_append, hl]; rfl, hown vs hl hown0, ?_, ?_, fun m v hm => ?_⟩
  · exact (((hb0.trans (hb.mono hz0)).alloc (by omega) o)).grown hg (by omega) (fun b e => (hbig b e).1)
  · intro u hu
    rcases List.mem_append.1 hu with hu | hu
    · exact h1 u hu
    · simp at hu; subst hu; rfl
  · by_cases hmk : m < k
    · rw [List.getElem?_append_left (by omega)] at hm
      obtain ⟨P', h2, h3⟩ := hr m v hm
      refine ⟨P', h2.keep (fun b hb' => nx b (by have := hb'.1; omega) hb'.2) (fun b o' hb' => ?_), h3⟩
      exact (keep b o' (by have := hb'.1; omega) hb'.2).trans (hb.cell (p := ⟨b, o', none⟩) hb'.1)
    · have hmk' : m = k := by
        have := (List.getElem?_eq_some_iff.1 hm).1
        rw [List.length_append] at this; simp at this; omega
      subst hmk'
      rw [List.getElem?_append_right (by omega), hl] at hm
      simp at hm
      subst hm
      refine ⟨P, ?_, fun y u hu hy i j hi hj => ?_⟩
      · refine (hR.toM (X := fun b => wr.heap.size ≤ b ∧ b < W.heap.size) (fun b a1 a2 => ⟨a1, a2⟩)).keep (fun b hb' => nx b hb'.2 ?_) (fun b o' hb' => keep b o' hb'.2 ?_)
        · intro e'; have := (hbig b e'.symm).2; omega
        · intro e'; have := (hbig b e'.symm).2; omega
      · obtain ⟨-, e2⟩ := Ex.tail_inj hu ht (hy.trans hx.symm)
        rw [Ex.flat_inj hu ht e2]
        exact hP i j hi hj
end Go.Proofs.Ytgcggmlekmjpdaa
