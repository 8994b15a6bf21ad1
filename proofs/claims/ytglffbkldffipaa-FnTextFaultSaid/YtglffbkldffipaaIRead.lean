/-
  Reading texts of expressions: the program's walk, its reader and its smallest steps.
-/
import Derived.Test.YtglffbkldffipaaRead
import Derived.Test.YtglffbkldffipaaSimpW2
import Derived.Test.YtglffbkldffipaaOper2
namespace Go.Proofs.Ytglffbkldffipaa
open Go.RowKit
set_option linter.unusedVariables false
set_option maxRecDepth 100000

/-- Block R is the program's reader: what is left to read, and whether it has failed. -/
def Er (w : World) (R : Nat) (s : ByteArray) (b : Bool) : Prop := w.heap[R]? = some (.cells #[.string s, .bool b] 57 (0, 0))
theorem Er.lt {w : World} {R : Nat} {s : ByteArray} {b : Bool} (h : Er w R s b) : R < w.heap.size := (Array.getElem?_eq_some_iff.1 h).1
theorem Er.c0 {w : World} {R : Nat} {s : ByteArray} {b : Bool} (h : Er w R s b) : w.cell? ⟨R, 0, none⟩ = some (.string s) := by rw [cell_of_row w R 0 _ _ _ h]; rfl
theorem Er.c1 {w : World} {R : Nat} {s : ByteArray} {b : Bool} (h : Er w R s b) : w.cell? ⟨R, 1, none⟩ = some (.bool b) := by rw [cell_of_row w R 1 _ _ _ h]; rfl
theorem Er.f0 {w : World} {R : Nat} {s : ByteArray} {b : Bool} (h : Er w R s b) : w.frozen? ⟨R, 0, none⟩ = false := by
  have h' : w.heap[R]? = some (.cells #[.string s, .bool b] 57 (0, 0)) := h
  simp [World.frozen?, h']
theorem Er.f1 {w : World} {R : Nat} {s : ByteArray} {b : Bool} (h : Er w R s b) : w.frozen? ⟨R, 1, none⟩ = false := by
  have h' : w.heap[R]? = some (.cells #[.string s, .bool b] 57 (0, 0)) := h
  simp [World.frozen?, h']
theorem Er.keep {w w' : World} {R : Nat} {s : ByteArray} {b : Bool} (h : Er w R s b) (hb : Below w.heap.size w w') : Er w' R s b := (hb.block R h.lt).trans h
theorem Er.al {w : World} {R : Nat} {s : ByteArray} {b : Bool} (h : Er w R s b) (o : Obj) : Er (w.alloc o) R s b := (Below.heap_alloc w o R h.lt).trans h
theorem only_cell (w : World) (R i : Nat) (v : Value) : w.grownBy (w.setCell ⟨R, i, none⟩ v) (some R) :=
  ⟨rfl, rfl, rfl, by simp [World.setCell], fun i hi hne => Below.heap_setCell w _ _ _ (by rintro rfl; exact hne rfl)⟩
theorem Er.set0 {w : World} {R : Nat} {s : ByteArray} {b : Bool} (h : Er w R s b) (s' : ByteArray) : Er (w.setCell ⟨R, 0, none⟩ (.string s')) R s' b := by
  have h' : w.heap[R]? = some (.cells #[.string s, .bool b] 57 (0, 0)) := h
  show (w.setCell ⟨R, 0, none⟩ (.string s')).heap[R]? = _
  simp [World.setCell, Array.getElem?_modify, h']
theorem Er.set1 {w : World} {R : Nat} {s : ByteArray} {b : Bool} (h : Er w R s b) (b' : Bool) : Er (w.setCell ⟨R, 1, none⟩ (.bool b')) R s b' := by
  have h' : w.heap[R]? = some (.cells #[.string s, .bool b] 57 (0, 0)) := h
  show (w.setCell ⟨R, 1, none⟩ (.bool b')).heap[R]? = _
  simp [World.setCell, Array.getElem?_modify, h']
theorem size_cell (w : World) (a : Addr) (v : Value) : (w.setCell a v).heap.size = w.heap.size := by simp [World.setCell]
/-- The next byte; 0 where there is none. -/
def nxI (s : ByteArray) (b : Bool) : Int := if h : b = false ∧ 0 < s.size then (s[0]'(h.2)).toNat else 0
theorem nxI_bd (s : ByteArray) (b : Bool) : 0 ≤ nxI s b ∧ nxI s b < 256 := by
  unfold nxI
  split
  · exact ⟨Int.natCast_nonneg _, byte_lt _⟩
  · omega
theorem nxI_at {s : ByteArray} (h : 0 < s.size) : nxI s false = (s[0].toNat : Int) := by unfold nxI; rw [dif_pos ⟨rfl, h⟩]
theorem nxI_end {s : ByteArray} {b : Bool} (h : ¬ (b = false ∧ 0 < s.size)) : nxI s b = 0 := by unfold nxI; rw [dif_neg h]
theorem nxI_pos {s : ByteArray} {b : Bool} (h : nxI s b ≠ 0) : b = false ∧ 0 < s.size := by
  unfold nxI at h
  split at h
  · rename_i h'; exact h'
  · exact absurd rfl h
theorem next_any (w : World) (R : Nat) (s : ByteArray) (b : Bool) (h : Er w R s b) (hs : s.size ≤ 120) :
    Calls Try.prog 57 #[.pointer (some ⟨R, 0, none⟩)] w fun e w' => e = .returned (.int .u8 (nxI s b)) ∧ w = w' := by
  have hc0 := h.c0
  have hc1 := h.c1
  rcases b with _ | _
  · by_cases h0 : 0 < s.size
    · have HN := Lib.hid (nxI_at h0)
      have hne : ¬ s.toList = [] := by
        rw [Lib.toList_data]
        intro e
        have : s.data.toList.length = 0 := by rw [e]; rfl
        have h2 : s.data.toList.length = s.size := rfl
        omega
      have hne2 : s.toList.isEmpty = false := by
        cases hl : s.toList with
        | nil => exact absurd hl hne
        | cons a l => rfl
      go_enter Try.func57, Try.ntmps57
      go_wp2
      go_ret
      exact ⟨by rw [HN.out]; rfl, rfl⟩
    · have HN := Lib.hid (nxI_end (s := s) (b := false) (by rintro ⟨-, h⟩; exact h0 h))
      have hne : s.toList = [] := by
        rw [Lib.toList_data]
        exact List.eq_nil_of_length_eq_zero (show s.size = 0 by omega)
      have hne2 : s.toList.isEmpty = true := by rw [hne]; rfl
      go_enter Try.func57, Try.ntmps57
      go_wp2
      go_ret
      exact ⟨by rw [HN.out]; rfl, rfl⟩
  · have HN := Lib.hid (nxI_end (s := s) (b := true) (by rintro ⟨h, -⟩; cases h))
    go_enter Try.func57, Try.ntmps57
    go_wp2
    go_ret
    exact ⟨by rw [HN.out]; rfl, rfl⟩
/-- What is left behind the first byte. -/
theorem cut_dr (s : ByteArray) : (s.extract 1 s.size).data.toList = dr s 1 := by
  rw [ByteArray.data_extract, Array.toList_extract, List.extract_eq_take_drop, dr]
  exact List.take_of_length_le (by simp)
theorem cut_size (s : ByteArray) : (s.extract 1 s.size).size = s.size - 1 := by simp [ByteArray.size_extract]
/-- What a reading of the text s leaves: e is read, and s' is left; or it fails. -/
def IRdP (f l : Nat) (s : ByteArray) (e : List Pt) (s' : ByteArray) (b : Bool) : Prop :=
  (b = true ∧ e.length ≤ 2 * s.size ∧ rdT begC f l (dr s 0) = none) ∨
  (b = false ∧ s'.size < s.size ∧ e.length + 1 ≤ 2 * (s.size - s'.size) ∧ rdT begC f l (dr s 0) = some (e, dr s' 0))
theorem IRdP.bd {f l : Nat} {s s' : ByteArray} {e : List Pt} {b : Bool} (h : IRdP f l s e s' b) : e.length ≤ 2 * s.size := by
  rcases h with ⟨-, h, -⟩ | ⟨-, h1, h2, -⟩ <;> omega
def IReadD (w : World) (R f l : Nat) (s : ByteArray) (r : Ending) (w' : World) : Prop :=
  ∃ (e : List Pt) (v : Value) (s' : ByteArray) (b : Bool), r = .returned v ∧ w'.ownsRow w.heap.size 36 2 v e.length (flatV e) ∧ Er w' R s' b ∧ w.grownBy w' (some R) ∧ s'.size ≤ s.size ∧ IRdP f l s e s' b
def LevelC (g : Nat) : Prop := ∀ (w : World) (R l : Nat) (li : Int) (s : ByteArray), li = (l : Int) + 1 → l ≤ 3 → Er w R s false → s.size ≤ 120 → needR s.size l ≤ g →
  Calls Try.prog 39 #[.pointer (some ⟨R, 0, none⟩), .int .i64 li] w (IReadD w R g l s)
def AtomC (g : Nat) : Prop := ∀ (w : World) (R : Nat) (s : ByteArray), Er w R s false → s.size ≤ 120 → needR s.size 5 ≤ g →
  Calls Try.prog 67 #[.pointer (some ⟨R, 0, none⟩)] w (IReadD w R g 5 s)
def StarC (g : Nat) : Prop := ∀ (w : World) (R : Nat) (s : ByteArray), Er w R s false → s.size ≤ 120 → needR s.size 4 ≤ g →
  Calls Try.prog 58 #[.pointer (some ⟨R, 0, none⟩)] w (IReadD w R g 4 s)
theorem only_below' {a w w' : World} {row : Option Nat} (h : a.grownBy w row) (hb : Below w.heap.size w w') : a.grownBy w' row := only_trans h ⟨hb.os, hb.tape, hb.output, hb.size, fun i hi _ => hb.block i hi⟩
theorem SL_own' {w : World} {base n c : Nat} {A : Option Addr} {t : TypeId} {e : List Pt} (h : w.ownsRow base t 2 (.slice A n c) n (flatV e)) (hn : n ≤ maxLen) : SL w w.heap.size A n c e := by
  obtain ⟨A', c', hv, hs⟩ := SL_own h hn
  injection hv with h1 h2 h3
  subst h1; subst h3
  exact hs
theorem fail_end {w w1 : World} {R f l : Nat} {s s1 : ByteArray} {b : Bool} (h : Er w1 R s1 b) (hg : w.grownBy w1 (some R)) (hs : s1.size ≤ s.size) (hr : rdT begC f l (dr s 0) = none) :
    IReadD w R f l s (.returned (.slice none 0 0)) (w1.setCell ⟨R, 1, none⟩ (.bool true)) :=
  ⟨[], _, s1, true, rfl, own_nil _ _ _, h.set1 true, only_trans hg (only_cell _ _ _ _), hs, .inl ⟨rfl, Nat.zero_le _, hr⟩⟩
theorem leaf_end {w w1 w2 : World} {R f l : Nat} {s : ByteArray} {k i : Int} {r : Ending} (h : Er w1 R (s.extract 1 s.size) false) (hg : w.grownBy w1 (some R)) (h0 : 0 < s.size) (hd : OwnD w1 [(k, i)] r w2)
    (hr : rdT begC f l (dr s 0) = some ([(k, i)], dr s 1)) : IReadD w R f l s r w2 := by
  obtain ⟨v, rfl, hown, hb⟩ := hd
  have hz := cut_size s
  exact ⟨_, v, _, false, rfl, own_base hown hg.size, h.keep hb, only_below' hg hb, by omega, .inr ⟨rfl, by omega, by simp; omega, by rw [hr, show dr (s.extract 1 s.size) 0 = dr s 1 from cut_dr s]⟩⟩
end Go.Proofs.Ytglffbkldffipaa
