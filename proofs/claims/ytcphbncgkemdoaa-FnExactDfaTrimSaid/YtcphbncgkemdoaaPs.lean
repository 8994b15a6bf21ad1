/-
  A slice of parts in memory; the test of whole expressions.
-/
import Derived.Test.YtcphbncgkemdoaaEx
import Derived.Laws.OwnMore
namespace Go.Proofs.Ytcphbncgkemdoaa
open Go.RowKit
set_option linter.unusedVariables false
set_option maxRecDepth 100000

/-- A slice that reads as a list of parts, in cells below block B. -/
def PS (w : World) (B : Nat) (A : Option Addr) (n : Nat) (e : List Pt) : Prop :=
  e.length = n ∧ (0 < n → ∃ b off, A = some ⟨b, off, none⟩ ∧ b < B ∧ ∀ i k l, e[i]? = some (k, l) → w.cell? ⟨b, off + i * 2, none⟩ = some (.int .i64 k) ∧ w.cell? ⟨b, off + i * 2 + 1, none⟩ = some (.int .i64 l))
theorem PS.nil {w : World} {B : Nat} {A : Option Addr} : PS w B A 0 [] := ⟨rfl, fun h => absurd h (by omega)⟩
theorem PS.keep {w w' : World} {B B' : Nat} {A : Option Addr} {n : Nat} {e : List Pt} (h : PS w B A n e) (hB : B ≤ B') (hk : ∀ b o, b < B → w'.cell? ⟨b, o, none⟩ = w.cell? ⟨b, o, none⟩) : PS w' B' A n e := by
  refine ⟨h.1, fun hn => ?_⟩
  obtain ⟨b, off, e1, hb, hc⟩ := h.2 hn
  exact ⟨b, off, e1, by omega, fun i k l hi => by rw [hk _ _ hb, hk _ _ hb]; exact hc i k l hi⟩
theorem PS.below {w w' : World} {B : Nat} {A : Option Addr} {n : Nat} {e : List Pt} (h : PS w B A n e) (hB : B ≤ w.heap.size) (hb : Below w.heap.size w w') : PS w' B A n e :=
  h.keep (Nat.le_refl _) fun b o hlt => hb.cell (p := ⟨b, o, none⟩) (by show b < _; omega)
theorem PS.alloc {w : World} {B : Nat} {A : Option Addr} {n : Nat} {e : List Pt} (h : PS w B A n e) (hB : B ≤ w.heap.size) (o : Obj) : PS (w.alloc o) B A n e :=
  h.keep (Nat.le_refl _) fun b o' hlt => World.cell?_alloc_lt w o ⟨b, o', none⟩ (by show b < _; omega)
theorem PS.at {w : World} {B : Nat} {A : Option Addr} {n : Nat} {e : List Pt} (h : PS w B A n e) {i : Nat} (hi : i < n) :
    ∃ b off k l, A = some ⟨b, off, none⟩ ∧ b < B ∧ e[i]? = some (k, l) ∧ w.cell? ⟨b, off + i * 2, none⟩ = some (.int .i64 k) ∧ w.cell? ⟨b, off + i * 2 + 1, none⟩ = some (.int .i64 l) := by
  obtain ⟨b, off, e1, hb, hc⟩ := h.2 (by omega)
  have hl : i < e.length := by rw [h.1]; exact hi
  exact ⟨b, off, e[i].1, e[i].2, e1, hb, List.getElem?_eq_getElem hl, hc i _ _ (List.getElem?_eq_getElem hl)⟩

theorem runD_take_next {e : List Pt} {i : Nat} {k l d : Int} (hi : e[i]? = some (k, l)) (h : runD (e.take i) 0 = some d) :
    (pnI k l < 0 ∨ d < pnI k l → runD e 0 = none) ∧ (¬ (pnI k l < 0 ∨ d < pnI k l) → runD (e.take (i + 1)) 0 = some (d - pnI k l + 1)) := by
  obtain ⟨hlt, he⟩ := List.getElem?_eq_some_iff.1 hi
  have ht : e.take (i + 1) = e.take i ++ [(k, l)] := by rw [List.take_succ_eq_append_getElem hlt, he]
  have hs : e = e.take (i + 1) ++ e.drop (i + 1) := (List.take_append_drop _ _).symm
  constructor
  · intro hc
    rw [hs, runD_append, ht, runD_append, h]
    simp [runD, hc]
  · intro hc
    rw [ht, runD_append, h]
    simp [runD, hc]

set_option maxHeartbeats 1000000 in
theorem specExprValid_any (w : World) (A : Option Addr) (n c : Nat) (e : List Pt) (h : PS w w.heap.size A n e) (hn : n ≤ 1000000000) :
    Calls Try.prog 31 #[.slice A n c] w fun r w' => r = .returned (.bool (exprB e)) ∧ Below w.heap.size w w' := by
  have hlen := h.1
  have HL := Lib.hid hlen
  clear hlen
  go_enter Try.func31, Try.ntmps31
  go_wp2
  go_loopw [3, 4] (fun d i wr => ∃ (k : Nat) (dv : Int), i = .int .i64 k ∧ d = .int .i64 dv ∧ k ≤ n ∧ 0 ≤ dv ∧ dv ≤ k ∧ Hid (runD (e.take k) 0 = some dv) ∧ Below w.heap.size w wr) (fun _ i _ => n - (intOf i).toNat)
  case atStart => exact ⟨0, 0, rfl, rfl, Nat.zero_le _, by omega, by omega, Lib.hid rfl, Below.refl _ _⟩
  case round =>
    obtain ⟨i, dv, rfl, rfl, hi, hd0, hd1, hr, hb⟩ := hrel
    by_cases hlt : i < n
    · obtain ⟨b, off, k, l, rfl, hbB, he, hc0, hc1⟩ := (h.below (Nat.le_refl _) hb).at hlt
      have pb := pnI_bd k l
      obtain ⟨pb0, pb1⟩ := pb
      obtain ⟨s1, s2⟩ := runD_take_next he hr.out
      have S1 := Lib.hid s1
      have S2 := Lib.hid s2
      clear he s1 s2
      by_cases hn0 : pnI k l < 0
      · go_wp2_with (go_at_call 24; refine (specPartNeeds_any _ _ _).mono ?_; rintro r w1 ⟨rfl, hb1⟩)
        go_ret
        exact ⟨ret_bool (by simp [exprB, S1.out (.inl hn0)]), hb.trans (hb1.mono hb.size)⟩
      · by_cases hn1 : dv < pnI k l
        · go_wp2_with (go_at_call 24; refine (specPartNeeds_any _ _ _).mono ?_; rintro r w1 ⟨rfl, hb1⟩)
          go_ret
          exact ⟨ret_bool (by simp [exprB, S1.out (.inr hn1)]), hb.trans (hb1.mono hb.size)⟩
        · go_wp2_with (go_at_call 24; refine (specPartNeeds_any _ _ _).mono ?_; rintro r w1 ⟨rfl, hb1⟩)
          go_roundw
          case rel => exact ⟨i + 1, dv - pnI k l + 1, by go_num, rfl, by omega, by omega, by omega, Lib.hid (S2.out (by omega)), hb.trans (hb1.mono hb.size)⟩
          case measure => simp [intOf]; omega
    · obtain rfl : i = n := by omega
      have hr' := hr.out
      rw [List.take_of_length_le (by rw [h.1]; omega)] at hr'
      have HR := Lib.hid hr'
      clear hr hr'
      rcases hd : (dv == 1)
      · go_wp2
        go_ret
        have hd' : ¬ dv = 1 := by simpa using hd
        exact ⟨ret_bool (by simp [exprB, HR.out, hd']), hb⟩
      · go_wp2
        go_ret
        have hd' : dv = 1 := by simpa using hd
        refine ⟨ret_bool ?_, hb⟩
        rw [exprB, HR.out, hd', h.1]; simp
end Go.Proofs.Ytcphbncgkemdoaa
