/-
  The reference's way to the operands: spec.l2Start, spec.l2Split.
-/
import Derived.Test.YtgcggmlekmjpdaaOpnd
import Derived.Test.YtgcggmlekmjpdaaNd
namespace Go.Proofs.Ytgcggmlekmjpdaa
open Go.RowKit
set_option linter.unusedVariables false
set_option maxRecDepth 100000

/-- The part at a place, counted from a tree's end. -/
theorem rev_at {x y : List Pt} {t : Ex} {j : Nat} (hj : j < t.sz) : (x ++ t.flat ++ y)[x.length + (t.sz - 1 - j)]? = t.flat.reverse[j]? := by
  have hl := Ex.flat_length t
  rw [List.append_assoc, List.getElem?_append_right (by omega), List.getElem?_append_left (by omega), List.getElem?_reverse (by omega)]
  congr 1; omega
theorem nd_next {t : Ex} {j : Nat} {k l : Int} (h : t.flat.reverse[j]? = some (k, l)) : nd (t.flat.reverse.take (j + 1)) = nd (t.flat.reverse.take j) + (pnI k l - 1) := by
  rw [take_next h, nd_append]; simp [nd]
theorem nd_bd (e : List Pt) : -2 * (e.length : Int) ≤ nd e ∧ nd e ≤ e.length := by
  induction e with
  | nil => simp [nd]
  | cons p e ih =>
    have := pnI_bd p.1 p.2
    simp only [nd, List.length_cons]; omega
set_option maxHeartbeats 2000000 in
theorem l2Start_any (w : World) (A : Option Addr) (n c : Nat) (x y : List Pt) (t : Ex) (en : Nat) (hg : t.good) (h : PS w w.heap.size A n (x ++ t.flat ++ y)) (hn : n ≤ 1000000000) (hen : en = x.length + (t.sz - 1)) :
    Calls Try.prog 60 #[.slice A n c, .int .i64 (en : Int)] w fun r w' => r = .returned (.int .i64 (x.length : Int)) ∧ Below w.heap.size w w' := by
  have hp := Ex.sz_pos t
  have hl := h.1
  simp only [List.length_append, Ex.flat_length] at hl
  have HP := hide h
  have hen1 : en < n := by omega
  have hen2 : x.length ≤ en := by omega
  have HX := Lib.hid hen
  have HL := Lib.hid hl
  clear h hen hl
  obtain ⟨nd1, nd2⟩ := nd_flat t hg
  have ND1 := Lib.hid nd1
  have ND2 := hide nd2
  clear nd1 nd2 hp
  go_enter Try.func60, Try.ntmps60
  go_wp2
  go_loopw [5, 6] (fun d i wr => ∃ (k j : Nat) (dv : Int), i = .int .i64 k ∧ d = .int .i64 dv ∧ k ≤ en ∧ x.length ≤ k ∧ Hid (k + j = en) ∧ Hid (dv = 1 + nd (t.flat.reverse.take j)) ∧ 1 ≤ dv ∧ dv ≤ n + 1 ∧ Below w.heap.size w wr) (fun _ i _ => (intOf i).toNat)
  case atStart => exact ⟨en, 0, 1, rfl, rfl, Nat.le_refl _, hen2, Lib.hid (by omega), Lib.hid (by simp [nd]), by omega, by omega, Below.refl _ _⟩
  case round =>
    obtain ⟨k, j, dv, rfl, rfl, hk1, hk2, hkj, hdv, hd1, hd2, hb⟩ := hrel
    have hkn : k < n := by omega
    obtain ⟨b, off, kk, l, rfl, hbB, he, hc0, hc1⟩ := ((unhide HP).below (Nat.le_refl _) hb).at hkn
    have hjs : j < t.sz := by have := hkj.out; have := HX.out; have := Ex.sz_pos t; omega
    have hrev := rev_at (x := x) (y := y) hjs
    rw [show x.length + (t.sz - 1 - j) = k from by have := hkj.out; have := HX.out; omega, he] at hrev
    have hnx := nd_next hrev.symm
    have HNX := Lib.hid hnx
    clear hnx hrev he
    have pb := pnI_bd kk l
    obtain ⟨pb0, pb1⟩ := pb
    have HBD := Lib.hid (nd_bd (t.flat.reverse.take (j + 1)))
    by_cases hz : dv - 1 + pnI kk l = 0
    · have hxk : x.length = k := by
        have h1 := hdv.out
        have h2 := HNX.out
        have h3 := hkj.out
        have h4 := HX.out
        by_cases h5 : j + 1 < t.sz
        · have := (unhide ND2) (j + 1) h5; omega
        · omega
      clear hjs
      have HXK := Lib.hid hxk
      clear hxk
      go_wp2_with (go_at_call 53; refine (specPartNeeds_any _ _ _).mono ?_; rintro r w1 ⟨rfl, hb1⟩)
      go_ret
      exact ⟨ret_int (by have := HXK.out; omega), hb.trans (hb1.mono hb.size)⟩
    · have hj1 : j + 1 < t.sz := by
        have h1 := hdv.out
        have h2 := HNX.out
        have h3 := ND1.out
        by_cases h5 : j + 1 < t.sz
        · exact h5
        · rw [List.take_of_length_le (by rw [List.length_reverse, Ex.flat_length]; omega)] at h2
          omega
      have hd3 : 1 ≤ dv - 1 + pnI kk l := by
        have h1 := hdv.out
        have h2 := HNX.out
        have := (unhide ND2) (j + 1) hj1; omega
      have hd4 : dv - 1 + pnI kk l ≤ n + 1 := by
        have h1 := hdv.out
        have h2 := HNX.out
        have h3 := HBD.out
        have h4 := HL.out
        have h5 : (t.flat.reverse.take (j + 1)).length ≤ t.sz := by rw [List.length_take, List.length_reverse, Ex.flat_length]; omega
        omega
      obtain ⟨k', hk'⟩ : ∃ k' : Nat, (k : Int) - 1 = (k' : Int) := ⟨k - 1, by have := hkj.out; have := HX.out; omega⟩
      clear hj1 hjs
      go_wp2_with (go_at_call 53; refine (specPartNeeds_any _ _ _).mono ?_; rintro r w1 ⟨rfl, hb1⟩)
      go_roundw
      case rel =>
        refine ⟨k', j + 1, dv - 1 + pnI kk l, rfl, rfl, by omega, ?_, Lib.hid (by have := hkj.out; omega), Lib.hid (by have := hdv.out; have := HNX.out; omega), hd3, hd4, hb.trans (hb1.mono hb.size)⟩
        have h1 := hdv.out
        have h2 := HNX.out
        have h3 := ND1.out
        have h4 := HX.out
        have h6 := hkj.out
        by_cases h5 : j + 1 < t.sz
        · omega
        · rw [List.take_of_length_le (by rw [List.length_reverse, Ex.flat_length]; omega)] at h2
          omega
      case measure => simp [intOf]; omega
/-- What 'l2Split' leaves: the operands' own slices; empty ones where there is none. -/
def SplitD (w : World) (A : Option Addr) (c : Nat) : Ex → Ending → World → Prop
  | .leaf _ _, r, w' => ∃ g1 g2, r = .returned (.tuple #[.slice (some ⟨g1, 0, none⟩) 0 0, .slice (some ⟨g2, 0, none⟩) 0 0]) ∧ Below w.heap.size w w'
  | .un _ a, r, w' => ∃ g2, r = .returned (.tuple #[.slice A a.sz c, .slice (some ⟨g2, 0, none⟩) 0 0]) ∧ Below w.heap.size w w'
  | .bin _ a b, r, w' => ∃ ba off, A = some ⟨ba, off, none⟩ ∧ r = .returned (.tuple #[.slice (some ⟨ba, off, none⟩) a.sz c, .slice (some ⟨ba, off + a.sz * 2, none⟩) b.sz (c - a.sz)]) ∧ Below w.heap.size w w'

set_option maxHeartbeats 2000000 in
theorem l2Split_any (w : World) (A : Option Addr) (n c : Nat) (t : Ex) (hg : t.good) (h : PS w w.heap.size A n t.flat) (hn : n ≤ 100000000) (hc : n ≤ c) (hcm : c ≤ maxLen) :
    Calls Try.prog 68 #[.slice A n c] w (SplitD w A c t) := by
  unfold maxLen at hcm
  have hlen := h.len
  have hp := Ex.sz_pos t
  have HH := hide h
  obtain ⟨b, off, m, rfl, hbB, hnm, hm, hk, hl⟩ := h.last
  have hpn : pnI t.kind t.lett = t.ar := Ex.pn_ar hg
  clear h
  obtain ⟨K, hK⟩ : ∃ K, t.kind = K := ⟨_, rfl⟩
  obtain ⟨L, hL⟩ : ∃ L, t.lett = L := ⟨_, rfl⟩
  rw [hK] at hk hpn
  rw [hL] at hl hpn
  clear hK hL
  have HNM := Lib.hid hnm
  have HLEN := Lib.hid hlen
  have n1 : 1 ≤ n := by omega
  clear hnm hlen hp
  cases t with
  | leaf k l =>
    have hp0 : pnI K L = 0 := hpn
    clear hpn HH
    go_enter Try.func68, Try.ntmps68
    go_wp2_with fail
    refine (specPartNeeds_any _ _ _).mono ?_
    rintro r w1 ⟨rfl, hb⟩
    rw [hp0]
    clear hk hl
    go_wp2
    exact bodyPost_ret (v := .tuple #[.slice (some ⟨w1.heap.size, 0, none⟩) 0 0, .slice (some ⟨w1.heap.size + 1, 0, none⟩) 0 0]) (by simp [results, Try.results68, go_sem]) rfl ⟨_, _, rfl, (hb.alloc hb.size _).alloc (by have := hb.size; simp; omega) _⟩
  | un k a =>
    have hp1 : pnI K L = 1 := hpn
    clear hpn HH
    have hma : m = a.sz := by have h1 := HNM.out; have h2 := HLEN.out; simp only [Ex.sz] at h2; omega
    have HMA := Lib.hid hma
    clear hma
    go_enter Try.func68, Try.ntmps68
    go_wp2_with fail
    refine (specPartNeeds_any _ _ _).mono ?_
    rintro r w1 ⟨rfl, hb⟩
    rw [hp1]
    clear hk hl
    go_wp2
    obtain rfl := HMA.out
    exact bodyPost_ret (v := .tuple #[.slice (some ⟨b, off, none⟩) a.sz c, .slice (some ⟨w1.heap.size, 0, none⟩) 0 0]) (by simp [results, Try.results68, go_sem]) rfl ⟨_, rfl, hb.alloc hb.size _⟩
  | bin k x y =>
    have hp2 : pnI K L = 2 := hpn
    clear hpn
    have hma : m = x.sz + y.sz := by have h1 := HNM.out; have h2 := HLEN.out; simp only [Ex.sz] at h2; omega
    have hy := Ex.sz_pos y
    obtain ⟨m1, hm1, hm1'⟩ : ∃ m1 : Nat, (m : Int) - 1 = (m1 : Int) ∧ m1 = x.flat.length + (y.sz - 1) := ⟨x.sz + y.sz - 1, by omega, by rw [Ex.flat_length]; omega⟩
    have HMA := Lib.hid hma
    have HM1 := Lib.hid hm1'
    clear hma hm1'
    go_enter Try.func68, Try.ntmps68
    go_wp2_with fail
    refine (specPartNeeds_any _ _ _).mono ?_
    rintro r w1 ⟨rfl, hb⟩
    rw [hp2]
    clear hk hl
    go_wp2_with fail
    refine (l2Start_any _ _ n c x.flat [(k, 0)] y m1 hg.2.2 ((unhide HH).keep hb.size fun b o hlt => hb.cell (p := ⟨b, o, none⟩) hlt) (by omega) HM1.out).mono ?_
    rintro r w2 ⟨rfl, hb2⟩
    have hz := hb.size
    have hxl : x.flat.length = x.sz := Ex.flat_length x
    rw [hxl]
    obtain ⟨X, hX⟩ : ∃ X, x.sz = X := ⟨_, rfl⟩
    have HX := Lib.hid hX
    have b1 : (0 : Int) ≤ (X : Int) := by omega
    have b2 : (X : Int) ≤ (c : Int) := by have := HMA.out; omega
    have b3 : (X : Int) ≤ (m : Int) := by have := HMA.out; omega
    have b4 : (m : Int) ≤ (c : Int) := by omega
    rw [hX]
    clear hxl hX
    go_wp2
    go_region_held3 (fun w' => True) (trivial) (fail)
    go_wp2
    have h2 := HX.out
    have h3 := HMA.out
    subst h2
    refine bodyPost_ret (v := .tuple #[.slice (some ⟨b, off, none⟩) x.sz c, .slice (some ⟨b, off + x.sz * 2, none⟩) y.sz (c - x.sz)]) ?_ rfl ⟨b, off, rfl, rfl, (hb.trans (hb2.mono hz)).drew⟩
    have e : m - x.sz = y.sz := by omega
    simp [results, Try.results68, go_sem, e]
end Go.Proofs.Ytgcggmlekmjpdaa
