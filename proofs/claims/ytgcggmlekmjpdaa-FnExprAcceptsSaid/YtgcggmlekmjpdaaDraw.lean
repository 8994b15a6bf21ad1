/-
  The reader of codes, from which the laws draw their arguments: what it answers is a number in its range; nothing else is said of it.
-/
import Derived.Test.YtgcggmlekmjpdaaBase
import Derived.Deep.QuietTactic
import Derived.BigQuiet
import Derived.Laws.BitsAllLaws
import Derived.Laws.BitsLemmas
import Derived.Laws.OwnMore
import Derived.OneCell
import Derived.IntWalk
namespace Go.Proofs.Ytgcggmlekmjpdaa
open Go.RowKit
set_option linter.unusedVariables false
set_option maxRecDepth 100000

theorem ofInt_i64 (a : Nat) (ha : a < 9223372036854775808) : (BitVec.ofInt 64 (a : Int)).toNat = a := by
  rw [BitVec.ofInt_natCast, BitVec.toNat_ofNat]; exact Nat.mod_eq_of_lt (by omega)
theorem i64_xor_nat (a b : Nat) (ha : a < 9223372036854775808) (hb : b < 9223372036854775808) : bits .xor .i64 (a : Int) (b : Int) = ((a ^^^ b : Nat) : Int) := by
  have hx : a ^^^ b < 2 ^ 63 := Nat.xor_lt_two_pow (by omega) (by omega)
  show IntKind.i64.wrap ((BitVec.ofInt 64 (a : Int) ^^^ BitVec.ofInt 64 (b : Int)).toNat : Int) = _
  rw [BitVec.toNat_xor, ofInt_i64 a ha, ofInt_i64 b hb, IntKind.wrap_i64]
  omega
theorem xor_bd (a b : Int) (h0 : 0 ≤ a) (h1 : a ≤ 9223372036854775807) (h2 : 0 ≤ b) (h3 : b ≤ 9223372036854775807) : 0 ≤ bits .xor .i64 a b ∧ bits .xor .i64 a b ≤ 9223372036854775807 := by
  obtain ⟨a, rfl⟩ := Int.eq_ofNat_of_zero_le h0
  obtain ⟨b, rfl⟩ := Int.eq_ofNat_of_zero_le h2
  rw [i64_xor_nat a b (by omega) (by omega)]
  have hx : a ^^^ b < 2 ^ 63 := Nat.xor_lt_two_pow (by omega) (by omega)
  omega

/-- The bytes of a code: a slice below block B. -/
def Code (w : World) (B : Nat) (A : Option Addr) (n : Nat) : Prop :=
  n ≤ 2000 ∧ (0 < n → ∃ b off, A = some ⟨b, off, none⟩ ∧ b < B ∧ ∀ i, i < n → ∃ z : Int, 0 ≤ z ∧ z ≤ 255 ∧ w.cell? ⟨b, off + i, none⟩ = some (.int .u8 z))
/-- Block R is a reader at place p. -/
def Rd (w : World) (B R : Nat) (p : Int) : Prop :=
  B ≤ R ∧ 0 ≤ p ∧ ∃ A n c, w.heap[R]? = some (.cells #[.slice A n c, .int .i64 p] 79 (0, 0)) ∧ Code w B A n

theorem Code.keep {w w' : World} {B : Nat} {A : Option Addr} {n : Nat} (h : Code w B A n) (hk : ∀ b o, b < B → w'.cell? ⟨b, o, none⟩ = w.cell? ⟨b, o, none⟩) : Code w' B A n := by
  refine ⟨h.1, fun hn => ?_⟩
  obtain ⟨b, off, e, hb, hc⟩ := h.2 hn
  exact ⟨b, off, e, hb, fun i hi => by obtain ⟨z, z0, z1, hz⟩ := hc i hi; exact ⟨z, z0, z1, by rw [hk _ _ hb]; exact hz⟩⟩

theorem only_drewN {a w : World} {row : Option Nat} (h : a.grownBy w row) (n : Nat) : a.grownBy (w.drewN n) row := ⟨h.os, h.tape, h.output, h.size, h.block⟩
theorem Rd.drewN {w : World} {B R : Nat} {p : Int} (h : Rd w B R p) (k : Nat) : Rd (w.drewN k) B R p := h
theorem Rd.step {w : World} {B R : Nat} {p : Int} (h : Rd w B R p) (k : Nat) : Rd ((w.setCell ⟨R, 1, none⟩ (.int .i64 (p + 1))).drewN k) B R (p + 1) ∧ w.grownBy ((w.setCell ⟨R, 1, none⟩ (.int .i64 (p + 1))).drewN k) (some R) := by
  obtain ⟨hBR, hp0, A, m, c, hb, hc⟩ := h
  refine ⟨⟨hBR, by omega, A, m, c, ?_, ?_⟩, ?_⟩
  · show (w.setCell ⟨R, 1, none⟩ (.int .i64 (p + 1))).heap[R]? = _
    simp [World.setCell, Array.getElem?_modify, hb]
  · refine Code.keep (w := w) hc fun b o hlt => ?_
    show (w.setCell ⟨R, 1, none⟩ (.int .i64 (p + 1))).cell? ⟨b, o, none⟩ = _
    exact World.cell?_setCell_other w ⟨R, 1, none⟩ ⟨b, o, none⟩ _ (by intro e; injection e; omega)
  · exact ⟨rfl, rfl, rfl, by simp [World.setCell], fun i hi hne => by
      show (w.setCell ⟨R, 1, none⟩ (.int .i64 (p + 1))).heap[i]? = _
      exact Below.heap_setCell w _ _ _ (by rintro rfl; exact hne rfl)⟩
theorem Rd.step0 {w : World} {B R : Nat} {p : Int} (h : Rd w B R p) : Rd (w.setCell ⟨R, 1, none⟩ (.int .i64 (p + 1))) B R (p + 1) ∧ w.grownBy (w.setCell ⟨R, 1, none⟩ (.int .i64 (p + 1))) (some R) := h.step 0

/-- What a pick leaves: some number from 0 on, below n where n is at least 1; the reader one place further; nothing else of old memory turned. -/
def Pick (w : World) (B R : Nat) (p n : Int) (e : Ending) (w' : World) : Prop :=
  ∃ k : Int, e = .returned (.int .i64 k) ∧ 0 ≤ k ∧ (1 ≤ n → k < n) ∧ Rd w' B R (p + 1) ∧ w.grownBy w' (some R)

set_option maxHeartbeats 1000000 in
theorem pick_any (w : World) (B R : Nat) (p n : Int) (h : Rd w B R p) (hp : p ≤ 1000000000000) (hn : n ≤ 1000000000000) :
    Calls Try.prog 65 #[.pointer (some ⟨R, 0, none⟩), .int .i64 n] w (Pick w B R p n) := by
  have HR := h
  obtain ⟨hBR, hp0, A, m, c, hb, hm, hcode⟩ := h
  have hc0 : w.cell? ⟨R, 0, none⟩ = some (.slice A m c) := by rw [cell_of_row w R 0 _ _ _ hb]; rfl
  have hc1 : w.cell? ⟨R, 1, none⟩ = some (.int .i64 p) := by rw [cell_of_row w R 1 _ _ _ hb]; rfl
  have hf1 : w.frozen? ⟨R, 1, none⟩ = false := by simp [World.frozen?, hb]
  clear hb
  by_cases h1 : n < 1
  · clear hcode
    go_enter Try.func65, Try.ntmps65
    go_wp2
    go_ret
    exact ⟨0, rfl, by omega, by omega, HR.step0.1, HR.step0.2⟩
  · rcases Nat.eq_zero_or_pos m with h0 | h0
    · subst h0
      clear hcode
      go_enter Try.func65, Try.ntmps65
      go_wp2
      go_ret
      exact ⟨0, rfl, by omega, by omega, HR.step0.1, HR.step0.2⟩
    · obtain ⟨b, off, rfl, hbB, hcd⟩ := hcode h0
      have hne : ((m : Int) == 0) = false := by simp; omega
      have hbR : b ≠ R := by omega
      obtain ⟨p, rfl⟩ := Int.eq_ofNat_of_zero_le hp0
      by_cases hk : p < m
      · obtain ⟨z, z0, z1, hz⟩ := hcd p hk
        clear hcode hcd
        go_enter Try.func65, Try.ntmps65
        go_wp2
        go_ret
        refine ⟨z % n, rfl, Int.emod_nonneg _ (by omega), fun _ => Int.emod_lt_of_pos _ (by omega), HR.step0.1, HR.step0.2⟩
      · obtain ⟨z, z0, z1, hz⟩ := hcd (p % m) (Nat.mod_lt _ h0)
        obtain ⟨y, y0, y1, hy⟩ := hcd ((p * 7 + 3) % m) (Nat.mod_lt _ h0)
        clear hcode hcd
        have t1 : (p : Int).tmod (m : Int) = (p : Int) % (m : Int) := Int.tmod_eq_emod_of_nonneg (by omega)
        have t2 : 0 ≤ (p : Int) % (m : Int) := Int.emod_nonneg _ (by omega)
        have t3 : (p : Int) % (m : Int) < (m : Int) := Int.emod_lt_of_pos _ (by omega)
        have t4 : ((p : Int) % (m : Int)).toNat = p % m := by rw [← Int.natCast_emod]; rfl
        have s1 : IntKind.i64.wrap ((p : Int) * 7) = (p : Int) * 7 := IntWalk.i64_in _ (by omega)
        have s2 : IntKind.i64.wrap ((p : Int) * 7 + 3) = (p : Int) * 7 + 3 := IntWalk.i64_in _ (by omega)
        have u1 : ((p : Int) * 7 + 3).tmod (m : Int) = ((p : Int) * 7 + 3) % (m : Int) := Int.tmod_eq_emod_of_nonneg (by omega)
        have u2 : 0 ≤ ((p : Int) * 7 + 3) % (m : Int) := Int.emod_nonneg _ (by omega)
        have u3 : ((p : Int) * 7 + 3) % (m : Int) < (m : Int) := Int.emod_lt_of_pos _ (by omega)
        have u4 : (((p : Int) * 7 + 3) % (m : Int)).toNat = (p * 7 + 3) % m := by
          rw [show ((p : Int) * 7 + 3) = ((p * 7 + 3 : Nat) : Int) from by omega, ← Int.natCast_emod]; rfl
        have v1 : IntKind.i64.wrap (z * 131) = z * 131 := IntWalk.i64_in _ (by omega)
        have v2 : IntKind.i64.wrap (y * 1117) = y * 1117 := IntWalk.i64_in _ (by omega)
        have v3 : IntKind.i64.wrap (z * 131 + y * 1117) = z * 131 + y * 1117 := IntWalk.i64_in _ (by omega)
        have v4 : IntKind.i64.wrap ((p : Int) * 29) = (p : Int) * 29 := IntWalk.i64_in _ (by omega)
        have v5 : IntKind.i64.wrap (z * 131 + y * 1117 + (p : Int) * 29) = z * 131 + y * 1117 + (p : Int) * 29 := IntWalk.i64_in _ (by omega)
        have q0 : (p : Int).tdiv (m : Int) = (p : Int) / (m : Int) := Int.tdiv_eq_ediv_of_nonneg (by omega)
        have q1 : 0 ≤ (p : Int) / (m : Int) := Int.ediv_nonneg (by omega) (by omega)
        have q2 : (p : Int) / (m : Int) ≤ (p : Int) := Int.ediv_le_self _ (by omega)
        have q3 : IntKind.i64.wrap ((p : Int) / (m : Int)) = (p : Int) / (m : Int) := IntWalk.i64_in _ (by omega)
        have q4 : IntKind.i64.wrap ((p : Int) / (m : Int) * 53) = (p : Int) / (m : Int) * 53 := IntWalk.i64_in _ (by omega)
        have q5 : IntKind.i64.wrap (z * 131 + y * 1117 + (p : Int) * 29 + (p : Int) / (m : Int) * 53) = z * 131 + y * 1117 + (p : Int) * 29 + (p : Int) / (m : Int) * 53 := IntWalk.i64_in _ (by omega)
        go_enter Try.func65, Try.ntmps65
        go_wp2
        refine wp_region_quiet_lit (by kernel_rfl) (by kernel_rfl) ?_
        repeat (any_goals (first | go_big_quiet_step (fail) | quiet_step (fail)))
        refine wpQuiet_nil ?_
        intro _ hw'
        obtain ⟨nq, hw''⟩ := hw'
        subst hw''
        have x0 : 0 ≤ z * 131 + y * 1117 + (p : Int) * 29 + (p : Int) / (m : Int) * 53 := by omega
        have x1 : z * 131 + y * 1117 + (p : Int) * 29 + (p : Int) / (m : Int) * 53 ≤ 1000000000000000 := by omega
        clear q5 q4 q3 v5 v4 v3 v2 v1 t1 t4 u1 u4 s1 s2 q0 t2 t3 u2 u3 q1 q2
        generalize z * 131 + y * 1117 + (p : Int) * 29 + (p : Int) / (m : Int) * 53 = x at *
        obtain ⟨y0', y1'⟩ := xor_bd x (x / 64) x0 (by omega) (by omega) (by omega)
        go_wp2
        go_ret
        exact ⟨_, rfl, Int.emod_nonneg _ (by omega), fun _ => Int.emod_lt_of_pos _ (by omega), (HR.step nq).1, (HR.step nq).2⟩

/-- What 'odd' leaves: some answer. -/
def Odd (w : World) (B R : Nat) (p : Int) (e : Ending) (w' : World) : Prop :=
  ∃ (b : Bool) (q : Int), e = .returned (.bool b) ∧ p ≤ q ∧ q ≤ p + 1 ∧ Rd w' B R q ∧ w.grownBy w' (some R)
theorem odd_any (w : World) (B R : Nat) (p n : Int) (h : Rd w B R p) (hp : p ≤ 1000000000000) (hn : n ≤ 1000000000000) (hn0 : 0 ≤ n) :
    Calls Try.prog 66 #[.pointer (some ⟨R, 0, none⟩), .int .i64 n] w (Odd w B R p) := by
  by_cases h0 : n < 1
  · go_enter Try.func66, Try.ntmps66
    go_wp2
    go_ret
    exact ⟨false, p, rfl, by omega, by omega, h, World.grownBy.refl w _⟩
  · go_enter Try.func66, Try.ntmps66
    go_wp2_with (go_at_call 65; refine (pick_any w B R p n h hp hn).mono ?_; rintro e w' ⟨k, rfl, k0, k1, hR, hg⟩)
    go_ret
    exact ⟨_, p + 1, rfl, by omega, by omega, hR, hg⟩
end Go.Proofs.Ytgcggmlekmjpdaa
