/-
  Valid automata with moves: the program's walk.
-/
import Derived.Test.YtcphbncgkemdoaaNfaV
namespace Go.Proofs.Ytcphbncgkemdoaa
open Go.RowKit
set_option linter.unusedVariables false
set_option maxRecDepth 100000

theorem enter_nv (args : Array Value) (W : World) : (callFunc 75 args).run Try.prog W = .ok (.enter 75 args) W := rfl
theorem nv1_any (w : World) (g : Nat) (S N1 x y z : Int) (hgl : g < w.heap.size) (hg : w.cell? ⟨g, 0, none⟩ = some (.int .i64 S)) (hN : IntKind.i64.wrap (S - 1) = N1) :
    Calls Try.prog 75 #[mvV x y z, .pointer (some ⟨g, 0, none⟩)] w fun r w' => r = .returned (.bool (!(mvB N1 (x, y, z)))) ∧ Below w.heap.size w w' := by
  have hbA : Below w.heap.size w (w.alloc (mbox x y z)) := (Below.refl _ _).alloc (Nat.le_refl _) _
  have q0 : (w.alloc (mbox x y z)).cell? ⟨g, 0, none⟩ = some (.int .i64 S) := (World.cell?_alloc_lt _ _ _ hgl).trans hg
  have hd : ∀ bx bz byy : Bool, inB x 0 N1 = bx → inB z 0 N1 = bz → inB y (-1) 2 = byy → mvB N1 (x, y, z) = (bx && (bz && byy)) := fun _ _ _ h1 h2 h3 => by rw [mvB, h1, h2, h3]
  have HBA := hide hbA
  clear hbA
  rcases hx : inB x 0 N1
  · rw [hd _ _ _ hx rfl rfl]
    clear hd
    go_enter Try.func75, Try.ntmps75
    go_wp2_with (first | (go_at_call 51; refine (within_any _ _ _ _).mono ?_; rintro r w1 ⟨rfl, rfl⟩; first | rw [hx]))
    go_ret
    exact ⟨rfl, unhide HBA⟩
  · rcases hz : inB z 0 N1
    · rw [hd _ _ _ hx hz rfl]
      clear hd
      go_enter Try.func75, Try.ntmps75
      go_wp2_with (first | (go_at_call 51; refine (within_any _ _ _ _).mono ?_; rintro r w1 ⟨rfl, rfl⟩; first | rw [hx] | rw [hz]))
      go_ret
      exact ⟨rfl, unhide HBA⟩
    · rcases hy : inB y (-1) 2
      all_goals
        rw [hd _ _ _ hx hz hy]
        clear hd
        go_enter Try.func75, Try.ntmps75
        go_wp2_with (first | (go_at_call 51; refine (within_any _ _ _ _).mono ?_; rintro r w1 ⟨rfl, rfl⟩; first | rw [hx] | rw [hz] | rw [hy]))
        go_ret
        exact ⟨rfl, unhide HBA⟩
theorem any_takeM {e : List Mv} {P : Mv → Bool} {q : Nat} (hl : e.length ≤ q) (h : ∀ j v, j < q → e[j]? = some v → P v = false) : e.any P = false := by
  rw [Bool.eq_false_iff]
  intro hany
  obtain ⟨v, hv, hp⟩ := List.any_eq_true.1 hany
  obtain ⟨j, hj, he⟩ := List.mem_iff_getElem.1 hv
  rw [h j v (by omega) (by rw [List.getElem?_eq_getElem hj, he])] at hp
  cases hp
set_option maxHeartbeats 2000000 in
theorem indexM_any (w : World) (A : Option Addr) (n c : Nat) (e : List Mv) (K : FuncId) (cap : Array Value) (P : Mv → Bool) (h : MS w w.heap.size A n e) (hn : n ≤ 1048576)
    (hK : ∀ (args : Array Value) (W : World), (callFunc K args).run Try.prog W = .ok (.enter K args) W)
    (hf : ∀ (x y z : Int) (W : World), Below w.heap.size w W → Calls Try.prog K (#[mvV x y z] ++ cap) W fun r W' => r = .returned (.bool (P (x, y, z))) ∧ Below W.heap.size W W') :
    Calls Try.prog 87 #[.slice A n c, .func (.func K) #[] cap] w fun r w' => Below w.heap.size w w' ∧ ∃ i : Int, r = .returned (.int .i64 i) ∧ decide (0 ≤ i) = e.any P := by
  have HF := hide hf
  have HH := hide h
  have HL := Lib.hid h.1
  clear hf h
  go_enter Try.func87, Try.ntmps87
  go_wp2
  go_loopw [8] (fun i wr => ∃ k : Nat, i = .int .i64 k ∧ k ≤ n ∧ Hid (∀ j v, j < k → e[j]? = some v → P v = false) ∧ Below w.heap.size w wr) (fun i _ => n - (intOf i).toNat)
  case atStart => exact ⟨0, rfl, Nat.zero_le _, Lib.hid (fun j v hj => absurd hj (by omega)), Below.refl _ _⟩
  case round =>
    obtain ⟨k, rfl, hk, hbef, hb⟩ := hrel
    by_cases hlt : k < n
    · obtain ⟨b, off, x, y, z, rfl, hbB, hz, hc0, hc1, hc2⟩ := ((unhide HH).up hb).at hlt
      have HZ := Lib.hid hz
      have k0 : (0 : Int) ≤ (k : Int) := Int.natCast_nonneg _
      have k1 : (k : Int) < (n : Int) := by omega
      have HC := (unhide HF) x y z wr hb
      clear hz
      rcases hp : P (x, y, z)
      · rw [hp] at HC
        go_wp2_with fail
        refine HC.mono ?_
        rintro r w1 ⟨rfl, hb1⟩
        have hbb := hb.trans (hb1.mono hb.size)
        go_wp2
        go_roundw
        case rel =>
          refine ⟨k + 1, by go_num, by omega, Lib.hid fun j v hj hv => ?_, hbb⟩
          by_cases hjk : j = k
          · subst hjk
            rw [HZ.out] at hv
            injection hv with hv
            subst hv
            exact hp
          · exact hbef.out j v (by omega) hv
        case measure => simp [intOf]; omega
      · rw [hp] at HC
        have HAN := Lib.hid (show e.any P = true from List.any_eq_true.2 ⟨_, List.mem_of_getElem? HZ.out, hp⟩)
        go_wp2_with fail
        refine HC.mono ?_
        rintro r w1 ⟨rfl, hb1⟩
        have hbb := hb.trans (hb1.mono hb.size)
        go_wp2
        go_ret
        exact ⟨hbb, k, rfl, by rw [HAN.out]; simp⟩
    · obtain rfl : k = n := by omega
      have HAN := Lib.hid (any_takeM (by have := HL.out; omega) hbef.out)
      go_wp2
      go_ret
      exact ⟨hb, -1, rfl, by rw [HAN.out]; rfl⟩
theorem containsM_any (w : World) (A : Option Addr) (n c : Nat) (e : List Mv) (K : FuncId) (cap : Array Value) (P : Mv → Bool) (h : MS w w.heap.size A n e) (hn : n ≤ 1048576)
    (hK : ∀ (args : Array Value) (W : World), (callFunc K args).run Try.prog W = .ok (.enter K args) W)
    (hf : ∀ (x y z : Int) (W : World), Below w.heap.size w W → Calls Try.prog K (#[mvV x y z] ++ cap) W fun r W' => r = .returned (.bool (P (x, y, z))) ∧ Below W.heap.size W W') :
    Calls Try.prog 74 #[.slice A n c, .func (.func K) #[] cap] w fun r w' => r = .returned (.bool (e.any P)) ∧ Below w.heap.size w w' := by
  have HI := indexM_any w A n c e K cap P h hn hK hf
  clear h hf
  go_enter Try.func74, Try.ntmps74
  go_wp2_with fail
  refine HI.mono ?_
  rintro r w1 ⟨hb, i, rfl, hi⟩
  rcases hz : e.any P
  · have hi0 : i < 0 := by rw [hz] at hi; simpa using hi
    have HZ := Lib.hid hz
    go_wp2
    go_ret
    exact ⟨ret_bool HZ.out.symm, hb⟩
  · have hi0 : 0 ≤ i := by rw [hz] at hi; simpa using hi
    have HZ := Lib.hid hz
    go_wp2
    go_ret
    exact ⟨ret_bool HZ.out.symm, hb⟩
theorem any_all {e : List Mv} {P : Mv → Bool} : (e.any fun p => !(P p)) = !(e.all P) := by
  induction e with
  | nil => rfl
  | cons p e ih => simp only [List.any_cons, List.all_cons, ih, Bool.not_and]
set_option maxHeartbeats 4000000 in
theorem implNfaValid_any (w : World) (S N1 : Int) (A : Option Addr) (n c : Nat) (A2 : Option Addr) (m c2 : Nat) (A3 : Option Addr) (k c3 : Nat) (e : List Mv) (fs es : List Int) (h : NfaS w A n A2 m A3 k e fs es) (hn : n ≤ 1048576) (hm : m ≤ 1048576) (hk : k ≤ 1048576) (hN : IntKind.i64.wrap (S - 1) = N1) :
    Calls Try.prog 43 #[nfaV S A n c A2 m c2 A3 k c3] w fun r w' => r = .returned (.bool (nfaB S N1 e fs es)) ∧ Below w.heap.size w w' := by
  have hb0 : Below w.heap.size w (w.alloc (nbox S A n c A2 m c2 A3 k c3)) := (Below.refl _ _).alloc (Nat.le_refl _) _
  obtain ⟨W, hW⟩ : ∃ W, w.alloc (nbox S A n c A2 m c2 A3 k c3) = W := ⟨_, rfl⟩
  have b0 : W.heap[w.heap.size]? = some (nbox S A n c A2 m c2 A3 k c3) := by rw [← hW]; exact heap_alloc_new _ _
  rw [hW] at hb0
  have l0 : w.heap.size < W.heap.size := (Array.getElem?_eq_some_iff.1 b0).1
  have HH := hide (h.up hb0)
  have HL := Lib.hid h.1.1
  have HB0 := hide hb0
  have HW := Lib.hid hW
  have cells : ∀ W', Below W.heap.size W W' → W'.cell? ⟨w.heap.size, 0, none⟩ = some (.int .i64 S) ∧ W'.cell? ⟨w.heap.size, 1, none⟩ = some (.slice A n c) ∧ W'.cell? ⟨w.heap.size, 2, none⟩ = some (.slice A2 m c2) ∧ W'.cell? ⟨w.heap.size, 3, none⟩ = some (.slice A3 k c3) := fun W' hb => by
    have d := (hb.block _ l0).trans b0
    exact ⟨by rw [cell_of_row W' _ 0 _ _ _ d]; rfl, by rw [cell_of_row W' _ 1 _ _ _ d]; rfl, by rw [cell_of_row W' _ 2 _ _ _ d]; rfl, by rw [cell_of_row W' _ 3 _ _ _ d]; rfl⟩
  obtain ⟨p0, p1, p2, p3⟩ := cells W (Below.refl _ _)
  have hF := areStates_any W A2 m c2 fs S N1 (unhide HH).2.1 hm hN
  have hE := areStates_any W A3 k c3 es S N1 (unhide HH).2.2 hk hN
  have hC := containsM_any W A n c e 75 #[.pointer (some ⟨w.heap.size, 0, none⟩)] (fun p => !(mvB N1 p)) (unhide HH).1 hn enter_nv (fun x y z W' hb => (app11 _ _).symm ▸ nv1_any W' w.heap.size S N1 x y z (by have := hb.size; omega) (cells W' hb).1 hN)
  rw [any_all] at hC
  have HNB := Lib.hid (show nfaB S N1 e fs es = (e.all (mvB N1) && (inB S 0 40 && (decide ((n : Int) ≤ 400) && (setB N1 fs && setB N1 es)))) by rw [nfaB, h.1.1])
  clear h b0 hb0 hW cells
  rcases hin : inB S 0 40
  · have HR : Hid (nfaB S N1 e fs es = false) := HNB.out.trans (by rw [hin]; simp)
    clear hC hF hE
    go_enter Try.func43, Try.ntmps43
    go_wp2_with fail
    rw [HW.out]
    go_wp2_with (first | (go_at_call 51; refine (within_any _ _ _ _).mono ?_; rintro r w1 ⟨rfl, rfl⟩; rw [hin]) | (go_at_call 73; (with_reducible refine hF.mono ?_); rintro r w2 ⟨rfl, rfl⟩) | (go_at_call 73; (with_reducible refine hE.mono ?_); rintro r w2 ⟨rfl, rfl⟩) | (go_at_call 74; (with_reducible refine hC.mono ?_); rintro r w2 ⟨rfl, hb2⟩))
    go_ret
    exact ⟨ret_bool (unhide HR).symm, unhide HB0⟩
  · by_cases h400 : (n : Int) ≤ 400
    · rcases hsf : setB N1 fs
      · have HR : Hid (nfaB S N1 e fs es = false) := HNB.out.trans (by rw [hsf]; simp)
        rw [hsf] at hF
        clear hC hE
        go_enter Try.func43, Try.ntmps43
        go_wp2_with fail
        rw [HW.out]
        go_wp2_with (first | (go_at_call 51; refine (within_any _ _ _ _).mono ?_; rintro r w1 ⟨rfl, rfl⟩; rw [hin]) | (go_at_call 73; (with_reducible refine hF.mono ?_); rintro r w2 ⟨rfl, rfl⟩) | (go_at_call 73; (with_reducible refine hE.mono ?_); rintro r w2 ⟨rfl, rfl⟩) | (go_at_call 74; (with_reducible refine hC.mono ?_); rintro r w2 ⟨rfl, hb2⟩))
        go_ret
        exact ⟨ret_bool (unhide HR).symm, unhide HB0⟩
      · rcases hse : setB N1 es
        · have HR : Hid (nfaB S N1 e fs es = false) := HNB.out.trans (by rw [hse]; simp)
          rw [hsf] at hF
          rw [hse] at hE
          clear hC
          go_enter Try.func43, Try.ntmps43
          go_wp2_with fail
          rw [HW.out]
          go_wp2_with (first | (go_at_call 51; refine (within_any _ _ _ _).mono ?_; rintro r w1 ⟨rfl, rfl⟩; rw [hin]) | (go_at_call 73; (with_reducible refine hF.mono ?_); rintro r w2 ⟨rfl, rfl⟩) | (go_at_call 73; (with_reducible refine hE.mono ?_); rintro r w2 ⟨rfl, rfl⟩) | (go_at_call 74; (with_reducible refine hC.mono ?_); rintro r w2 ⟨rfl, hb2⟩))
          go_ret
          exact ⟨ret_bool (unhide HR).symm, unhide HB0⟩
        · have HR : Hid (nfaB S N1 e fs es = e.all (mvB N1)) := HNB.out.trans (by rw [hsf, hse, hin, decide_eq_true h400]; simp)
          rw [hsf] at hF
          rw [hse] at hE
          obtain ⟨bv, hbv⟩ : ∃ bv, e.all (mvB N1) = bv := ⟨_, rfl⟩
          rw [hbv] at HR hC
          clear hbv
          go_enter Try.func43, Try.ntmps43
          go_wp2_with fail
          rw [HW.out]
          go_wp2_with (first | (go_at_call 51; refine (within_any _ _ _ _).mono ?_; rintro r w1 ⟨rfl, rfl⟩; rw [hin]) | (go_at_call 73; (with_reducible refine hF.mono ?_); rintro r w2 ⟨rfl, rfl⟩) | (go_at_call 73; (with_reducible refine hE.mono ?_); rintro r w2 ⟨rfl, rfl⟩) | (go_at_call 74; (with_reducible refine hC.mono ?_); rintro r w2 ⟨rfl, hb2⟩))
          go_ret
          exact ⟨ret_bool (unhide HR).symm, (unhide HB0).trans (hb2.mono (unhide HB0).size)⟩
    · have HR : Hid (nfaB S N1 e fs es = false) := HNB.out.trans (by rw [decide_eq_false h400]; simp)
      clear hC hF hE
      go_enter Try.func43, Try.ntmps43
      go_wp2_with fail
      rw [HW.out]
      go_wp2_with (first | (go_at_call 51; refine (within_any _ _ _ _).mono ?_; rintro r w1 ⟨rfl, rfl⟩; rw [hin]) | (go_at_call 73; (with_reducible refine hF.mono ?_); rintro r w2 ⟨rfl, rfl⟩) | (go_at_call 73; (with_reducible refine hE.mono ?_); rintro r w2 ⟨rfl, rfl⟩) | (go_at_call 74; (with_reducible refine hC.mono ?_); rintro r w2 ⟨rfl, hb2⟩))
      go_ret
      exact ⟨ret_bool (unhide HR).symm, unhide HB0⟩
end Go.Proofs.Ytcphbncgkemdoaa
