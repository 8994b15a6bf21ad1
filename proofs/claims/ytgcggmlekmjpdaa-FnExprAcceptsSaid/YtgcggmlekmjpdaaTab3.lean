/-
  Membership: the reference's ExprAccepts.
-/
import Derived.Test.YtgcggmlekmjpdaaTab2
import Derived.Test.YtgcggmlekmjpdaaAcc
namespace Go.Proofs.Ytgcggmlekmjpdaa
open Go.RowKit
set_option linter.unusedVariables false
set_option maxRecDepth 100000

/-- The one cell of the table that tells it. -/
theorem TabI.last {w wr : World} {e : List Pt} {s : List UInt8} {tv : Value} {n : Nat} (h : TabI w wr e s tv n) (hn : e.length = n) (hv : exprB e = true) :
    ∃ (m gt ct g1 c1 q1 d1 : Nat) (b : Bool), n = m + 1 ∧ tv = .slice (some ⟨gt, 0, none⟩) n ct ∧ wr.cell? ⟨gt, m, none⟩ = some (.slice (some ⟨g1, 0, none⟩) (s.length + 1) c1) ∧ wr.cell? ⟨g1, 0, none⟩ = some (.slice (some ⟨q1, 0, none⟩) (s.length + 1) d1) ∧
      wr.cell? ⟨q1, s.length, none⟩ = some (.bool b) ∧ AccR e s b := by
  obtain ⟨t, hg, hf, hs⟩ := exprB_iff.1 hv
  have hp := Ex.sz_pos t
  have hl := Ex.flat_length t
  rw [hf] at hl
  obtain ⟨m, rfl⟩ : ∃ m, n = m + 1 := ⟨n - 1, by omega⟩
  obtain ⟨gt, ct, v, P, e1, -, hgt, hc, ⟨g1, c1, e2, xg, hr⟩, hP⟩ := h.at (m := m) (by omega) hg (x := []) (by rw [List.nil_append, hf, ← hn, List.take_length])
  subst e2
  obtain ⟨q1, d1, h1, -, h2⟩ := hr 0 (Nat.zero_le _)
  refine ⟨m, gt, ct, g1, c1, q1, d1, t.acc s, rfl, e1, hc, h1, ?_, ⟨t, hg, hf, rfl⟩⟩
  rw [h2 s.length (Nat.le_refl _), hP 0 s.length (Nat.zero_le _) (Nat.le_refl _)]; rfl
theorem TabI.bl {w wr : World} {e : List Pt} {s : List UInt8} {tv : Value} {k : Nat} (h : TabI w wr e s tv k) : Below w.heap.size w wr := by
  obtain ⟨vs, -, -, h2, -⟩ := h; exact h2
set_option maxHeartbeats 1000000 in
theorem specExprAccepts_any (w : World) (A : Option Addr) (n c : Nat) (e : List Pt) (s : ByteArray) (h : PS w w.heap.size A n e) (hn : n ≤ 1000000000) (hs : s.size ≤ maxLen) :
    Calls Try.prog 16 #[.slice A n c, .string s] w (EAccD w e s.data.toList) := by
  have hl := h.1
  rcases hv : exprB e
  · go_enter Try.func16, Try.ntmps16
    go_wp2_with (go_at_call 25; refine (specExprValid_any _ _ _ _ e h hn).mono ?_; rintro r w1 ⟨rfl, hb⟩; rw [hv])
    go_ret
    exact ⟨_, rfl, .inr ⟨by simp [hv], rfl⟩, hb⟩
  · rcases hw : wordB s.data.toList
    · go_enter Try.func16, Try.ntmps16
      go_wp2_with (first | (go_at_call 25; refine (specExprValid_any _ _ _ _ e h hn).mono ?_; rintro r w1 ⟨rfl, hb⟩; rw [hv]) | (go_at_call 30; refine (specWordValid_any s _ hs).mono ?_; rintro r w2 ⟨rfl, rfl⟩; rw [hw]))
      go_ret
      exact ⟨_, rfl, .inr ⟨by simp [hw], rfl⟩, hb⟩
    · have h60 := len_of_exprB hv
      obtain ⟨hs1, hs2⟩ := wordB_iff.1 hw
      have hsz : s.data.toList.length = s.size := by simp
      have HSZ := Lib.hid hsz
      have HL := Lib.hid hl
      have h8 : s.size ≤ 8 := by omega
      have HVV := Lib.hid (And.intro hv hw)
      clear hsz hl
      go_enter Try.func16, Try.ntmps16
      go_wp2_with (first | (go_at_call 25; refine (specExprValid_any _ _ _ _ e h hn).mono ?_; rintro r w1 ⟨rfl, hb⟩; rw [hv]) | (go_at_call 30; refine (specWordValid_any s _ hs).mono ?_; rintro r w2 ⟨rfl, rfl⟩; rw [hw]))
      refine (l3Table_any _ _ _ _ e s (h.up hb) (by have := HL.out; omega) hv hs1 h8).mono ?_
      rintro r w3 ⟨tv, rfl, hT⟩
      have hb3 := hT.bl
      obtain ⟨m, gt, ct, g1, c1, q1, d1, bb, hm, rfl, k1, k2, k3, hacc⟩ := hT.last HL.out hv
      rw [HSZ.out] at k1 k2 k3
      have hwm : IntKind.i64.wrap ((n : Int) - 1) = (m : Int) := by rw [show (n : Int) - 1 = (m : Int) by omega]; exact IntWalk.i64_in _ (by have := HL.out; omega)
      have hmw : IntKind.i64.wrap (m : Int) = (m : Int) := IntWalk.i64_in _ (by have := HL.out; omega)
      have hm0 : (0 : Int) ≤ (m : Int) := by omega
      have hm1 : (m : Int) < (n : Int) := by omega
      have HT := hide hT
      have HAC := hide hacc
      clear hT hacc hm hv hw hs1 hs2 h
      go_wp2
      go_ret
      exact ⟨_, rfl, .inl ⟨HVV.out.1, HVV.out.2, unhide HAC⟩, hb.trans (hb3.mono hb.size)⟩
end Go.Proofs.Ytgcggmlekmjpdaa
