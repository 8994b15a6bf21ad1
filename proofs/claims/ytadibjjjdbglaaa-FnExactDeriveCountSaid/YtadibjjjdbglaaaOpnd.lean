/-
  The operands of the last part: the walks of impl.operands and of spec.l2Start, spec.l2Split.
-/
import Derived.Test.YtadibjjjdbglaaaLParts
namespace Go.Proofs.Ytadibjjjdbglaaa
open Go.RowKit
set_option linter.unusedVariables false
set_option maxRecDepth 100000

theorem PS.front {w : World} {B : Nat} {A : Option Addr} {n : Nat} {x y : List Pt} (h : PS w B A n (x ++ y)) : PS w B A x.length x := by
  refine ⟨rfl, fun hn => ?_⟩
  have hl := h.1
  rw [List.length_append] at hl
  obtain ⟨b, off, e1, hb, hc⟩ := h.2 (by omega)
  refine ⟨b, off, e1, hb, fun i k l hi => hc i k l ?_⟩
  rw [List.getElem?_append_left (List.getElem?_eq_some_iff.1 hi).1]; exact hi
theorem PS.back {w : World} {B b off : Nat} {n : Nat} {x y : List Pt} (h : PS w B (some ⟨b, off, none⟩) n (x ++ y)) (hy : 0 < y.length) : PS w B (some ⟨b, off + x.length * 2, none⟩) y.length y := by
  have hl := h.1
  rw [List.length_append] at hl
  obtain ⟨b', off', e1, hb, hc⟩ := h.2 (by omega)
  injection e1 with e1
  injection e1 with e1 e2
  subst e1; subst e2
  refine ⟨rfl, fun hn => ⟨b, off + x.length * 2, rfl, hb, fun i k l hi => ?_⟩⟩
  have := hc (x.length + i) k l (by rw [List.getElem?_append_right (by omega)]; rw [show x.length + i - x.length = i from by omega]; exact hi)
  rw [Nat.add_mul, ← Nat.add_assoc] at this
  exact this
theorem PS.addr {w : World} {B : Nat} {A : Option Addr} {n : Nat} {e : List Pt} (h : PS w B A n e) (hn : 0 < n) : ∃ b off, A = some ⟨b, off, none⟩ ∧ b < B := by
  obtain ⟨b, off, e1, hb, -⟩ := h.2 hn
  exact ⟨b, off, e1, hb⟩
theorem PS.len {w : World} {B : Nat} {A : Option Addr} {n : Nat} {t : Ex} (h : PS w B A n t.flat) : n = t.sz := by rw [← h.1, Ex.flat_length]
/-- The parts of an operation. -/
theorem PS.un {w : World} {B : Nat} {A : Option Addr} {n : Nat} {k : Int} {a : Ex} (h : PS w B A n (Ex.flat (.un k a))) : PS w B A a.sz a.flat := by
  rw [← Ex.flat_length]; exact PS.front h
theorem PS.bin {w : World} {B b off : Nat} {n : Nat} {k : Int} {x y : Ex} (h : PS w B (some ⟨b, off, none⟩) n (Ex.flat (.bin k x y))) : PS w B (some ⟨b, off, none⟩) x.sz x.flat ∧ PS w B (some ⟨b, off + x.sz * 2, none⟩) y.sz y.flat := by
  have h1 := PS.front h
  refine ⟨?_, ?_⟩
  · rw [← Ex.flat_length]; exact PS.front h1
  · have := PS.back h1 (by rw [Ex.flat_length]; exact Ex.sz_pos y)
    rwa [Ex.flat_length, Ex.flat_length] at this
/-- The last part. -/
theorem PS.last {w : World} {B : Nat} {A : Option Addr} {n : Nat} {t : Ex} (h : PS w B A n t.flat) : ∃ b off m, A = some ⟨b, off, none⟩ ∧ b < B ∧ n = m + 1 ∧ (n : Int) - 1 = (m : Int) ∧ w.cell? ⟨b, off + m * 2, none⟩ = some (.int .i64 t.kind) ∧ w.cell? ⟨b, off + m * 2 + 1, none⟩ = some (.int .i64 t.lett) := by
  have hp := Ex.sz_pos t
  have hn := h.len
  obtain ⟨b, off, e1, hb, hc⟩ := h.2 (by omega)
  have hl := Ex.last_flat t
  rw [List.getLast?_eq_getElem?, Ex.flat_length, ← hn] at hl
  exact ⟨b, off, n - 1, e1, hb, by omega, by omega, hc _ _ _ hl⟩

/-- How many operands the last part needs. -/
def Ex.ar : Ex → Nat
  | .leaf _ _ => 0
  | .un _ _ => 1
  | .bin _ _ _ => 2
theorem Ex.pn_ar {t : Ex} (h : t.good) : pnI t.kind t.lett = t.ar := by
  cases t with
  | leaf k l => exact Ex.pn_leaf h
  | un k a => exact Ex.pn_un h.1
  | bin k a b => exact Ex.pn_bin h.1
theorem Ex.pv {t : Ex} (h : t.good) : pvB t.kind t.lett = true := by
  have := Ex.pn_ar h
  cases hv : pvB t.kind t.lett with
  | true => rfl
  | false => simp [pnI, hv] at this
theorem Ex.need_ar {t : Ex} (h : t.good) : needN t.kind = t.ar := by
  have := Ex.pn_ar h
  rw [pnI, if_pos (Ex.pv h)] at this; exact this

/-- The operands of an operation with two. -/
def Ex.left : Ex → Ex
  | .bin _ a _ => a
  | t => t
def Ex.right : Ex → Ex
  | .bin _ _ b => b
  | t => t
theorem slicep_info : (Try.prog.info? 23).map (fun i => (i.zero, i.size, i.bytes)) = some (some (.slice none 0 0), 1, 24) := by kernel_rfl
/-- What 'operands' leaves: the operands' own slices, in a new row. -/
def OpsD (w : World) (A : Option Addr) (c : Nat) : Ex → Ending → World → Prop
  | .leaf _ _, r, w' => r = .returned (.slice none 0 0) ∧ Below w.heap.size w w'
  | .un _ a, r, w' => ∃ g, r = .returned (.slice (some ⟨g, 0, none⟩) 1 1) ∧ w.heap.size ≤ g ∧ w'.heap[g]? = some (.cells #[.slice A a.sz c] 23 (0, 0)) ∧ Below w.heap.size w w'
  | .bin _ a b, r, w' => ∃ g ba off, A = some ⟨ba, off, none⟩ ∧ r = .returned (.slice (some ⟨g, 0, none⟩) 2 2) ∧ w.heap.size ≤ g ∧ w'.heap[g]? = some (.cells #[.slice (some ⟨ba, off, none⟩) a.sz c, .slice (some ⟨ba, off + a.sz * 2, none⟩) b.sz (c - a.sz)] 23 (0, 0)) ∧ Below w.heap.size w w'

set_option maxHeartbeats 2000000 in
theorem operands_any (w : World) (A : Option Addr) (n c : Nat) (t : Ex) (hg : t.good) (h : PS w w.heap.size A n t.flat) (hn : n ≤ 60) (hc : n ≤ c) (hcm : c ≤ maxLen) :
    Calls Try.prog 81 #[.slice A n c] w (OpsD w A c t) := by
  unfold maxLen at hcm
  have hlen := h.len
  have hp := Ex.sz_pos t
  have hrun : runD t.flat 0 = some 1 := Ex.runD_flat t hg 0 (Int.le_refl _)
  have hst := starts_any w A n c t.flat h hn
  have HH := hide h
  clear h
  obtain ⟨b, off, m, rfl, hbB, hnm, hm, hk, hl⟩ := (unhide HH).last
  have hnd : needN t.kind = t.ar := Ex.need_ar hg
  have HR := hide hrun
  clear hrun
  obtain ⟨K, hK⟩ : ∃ K, t.kind = K := ⟨_, rfl⟩
  obtain ⟨L, hL⟩ : ∃ L, t.lett = L := ⟨_, rfl⟩
  rw [hK] at hk hnd
  rw [hL] at hl
  clear hK hL
  have HNM := Lib.hid hnm
  have HLEN := Lib.hid hlen
  have n1 : 1 ≤ n := by omega
  clear hnm hlen hp
  rcases har : t.ar with _ | _ | a
  · have hn0 : needN K = 0 := by rw [hnd, har]; rfl
    have HAR := Lib.hid har
    clear hnd har
    go_enter Try.func81, Try.ntmps81
    go_wp2_with fail
    refine hst.mono ?_
    rintro r w1 ⟨v, ok, rfl, hok, hb, hout⟩
    obtain ⟨hv, ho⟩ := hout (by rw [hok, unhide HR]; rfl)
    subst hv
    have hc0 := (hb.cell (p := ⟨b, off + m * 2, none⟩) (by show b < _; omega)).trans hk
    have hc1 := (hb.cell (p := ⟨b, off + m * 2 + 1, none⟩) (by show b < _; omega)).trans hl
    clear hok HR hst hk hl hout ho
    go_wp2_with (go_at_call 88; refine (needs_any _ _ _).mono ?_; rintro e w' ⟨rfl, rfl⟩)
    have hd := HAR.out
    cases t with
    | leaf k l => exact bodyPost_ret (v := .slice none 0 0) (by simp [results, Try.results81, go_sem]) rfl ⟨rfl, hb.alloc hb.size _⟩
    | un k a => cases hd
    | bin k a b => cases hd
  · have hn0 : needN K = 1 := by rw [hnd, har]; rfl
    have HAR := Lib.hid har
    clear hnd har
    go_enter Try.func81, Try.ntmps81
    go_wp2_with fail
    refine hst.mono ?_
    rintro r w1 ⟨v, ok, rfl, hok, hb, hout⟩
    obtain ⟨hv, ho⟩ := hout (by rw [hok, unhide HR]; rfl)
    subst hv
    have hc0 := (hb.cell (p := ⟨b, off + m * 2, none⟩) (by show b < _; omega)).trans hk
    have hc1 := (hb.cell (p := ⟨b, off + m * 2 + 1, none⟩) (by show b < _; omega)).trans hl
    clear hok HR hst hk hl hout ho
    go_wp2_with (go_at_call 88; refine (needs_any _ _ _).mono ?_; rintro e w' ⟨rfl, rfl⟩)
    have hd := HAR.out
    cases t with
    | leaf k l => cases hd
    | bin k a b => cases hd
    | un k a =>
      have h1 := HNM.out
      have h2 := HLEN.out
      simp only [Ex.sz] at h2
      obtain rfl : m = a.sz := by omega
      have hz := hb.size
      exact bodyPost_ret (v := .slice (some ⟨w1.heap.size + 1, 0, none⟩) 1 1) (by simp [results, Try.results81, go_sem]) rfl
        ⟨_, rfl, by omega, by have := heap_alloc_new (w1.alloc (pbox K L)) (Obj.cells #[Value.slice (some { block := b, off := off }) a.sz c] 23); simpa using this, (hb.alloc hz _).alloc (by simp; omega) _⟩
  · have hn0 : needN K = 2 := by
      have h3 : t.ar = 2 := by
        cases t with
        | leaf k l => cases har
        | un k a => cases har
        | bin k a b => rfl
      rw [hnd, h3]; rfl
    have HAR := Lib.hid har
    clear hnd har
    go_enter Try.func81, Try.ntmps81
    go_wp2_with fail
    refine hst.mono ?_
    rintro r w1 ⟨v, ok, rfl, hok, hb, hout⟩
    obtain ⟨hv, ho⟩ := hout (by rw [hok, unhide HR]; rfl)
    subst hv
    have hc0 := (hb.cell (p := ⟨b, off + m * 2, none⟩) (by show b < _; omega)).trans hk
    have hc1 := (hb.cell (p := ⟨b, off + m * 2 + 1, none⟩) (by show b < _; omega)).trans hl
    obtain ⟨x, m1, hm1, hx, hxm, hxc⟩ : ∃ x m1 : Nat, (m : Int) - 1 = (m1 : Int) ∧ x ≤ m ∧ Hid (x = (t.left).sz ∧ m = (t.left).sz + (t.right).sz) ∧ w1.cell? ⟨w.heap.size, m1, none⟩ = some (.int .i64 (x : Int)) := by
      have hd := HAR.out
      obtain ⟨cur, o1, o2, o3⟩ := ho
      cases t with
      | leaf k l => cases hd
      | un k a => cases hd
      | bin k a bb =>
        have h1 := HNM.out
        have h2 := HLEN.out
        have h3 := Ex.sz_pos bb
        have h4 := Ex.sz_pos a
        simp only [Ex.sz] at h2
        have hm := begs_middle hg
        have hbl : (begs (Ex.flat (.bin k a bb)) 0 []).length = n := by rw [begs_length, Ex.flat_length]; simp only [Ex.sz]; omega
        refine ⟨a.sz, a.sz + bb.sz - 1, by omega, by omega, Lib.hid ⟨rfl, by simp only [Ex.left, Ex.right]; omega⟩, ?_⟩
        rw [cell_of_row w1 _ _ _ _ _ o1]
        have h5 : cur[a.sz + bb.sz - 1]? = (cur.toList.take (begs (Ex.flat (.bin k a bb)) 0 []).length)[a.sz + bb.sz - 1]? := by
          rw [List.getElem?_take, if_pos (by omega), Array.getElem?_toList]
        rw [h5, o3, List.getElem?_map]
        rw [List.getD_eq_getElem?_getD] at hm
        rw [List.getElem?_eq_getElem (by omega)] at hm ⊢
        simp only [Option.getD_some] at hm
        rw [Option.map_some, hm]
    have hlt1 : w.heap.size < w1.heap.size := by
      obtain ⟨cur, o1, -⟩ := ho
      exact (Array.getElem?_eq_some_iff.1 o1).1
    clear hok HR hst hk hl hout ho
    go_wp2_with (go_at_call 88; refine (needs_any _ _ _).mono ?_; rintro e w' ⟨rfl, rfl⟩)
    have h1 := HNM.out
    have b1 : (0 : Int) ≤ (x : Int) := by omega
    have b2 : (x : Int) ≤ (c : Int) := by omega
    have b3 : (x : Int) ≤ (m : Int) := by omega
    have b4 : (m : Int) ≤ (c : Int) := by omega
    clear h1
    go_region_held3 (fun w' => True) (trivial) (fail)
    go_wp2
    have h1 := HNM.out
    have h2 := HLEN.out
    have hd := HAR.out
    have hxm' := hxm.out
    cases t with
    | leaf k l => cases hd
    | un k a => cases hd
    | bin k a bb =>
      simp only [Ex.left, Ex.right] at hxm'
      obtain ⟨rfl, rfl⟩ := hxm'
      have hz := hb.size
      refine bodyPost_ret (v := .slice (some ⟨w1.heap.size + 1, 0, none⟩) 2 2) (by simp [results, Try.results81, go_sem]) rfl
        ⟨_, b, off, rfl, rfl, by omega, ?_, ((hb.alloc hz _).alloc (by simp; omega) _).drew⟩
      have := heap_alloc_new (w1.alloc (pbox K L)) (Obj.cells #[Value.slice (some { block := b, off := off }) a.sz c, Value.slice (some { block := b, off := off + a.sz * 2 }) (a.sz + bb.sz - a.sz) (c - a.sz)] 23)
      rw [Nat.add_sub_cancel_left] at this
      simpa [World.drew] using this
end Go.Proofs.Ytadibjjjdbglaaa
