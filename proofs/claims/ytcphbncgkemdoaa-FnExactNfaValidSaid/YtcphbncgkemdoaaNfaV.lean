/-
  Valid automata with moves: the walks of both tests.
-/
import Derived.Test.YtcphbncgkemdoaaNfa
namespace Go.Proofs.Ytcphbncgkemdoaa
open Go.RowKit
set_option linter.unusedVariables false
set_option maxRecDepth 100000

/-- Is the number at a place a state, and greater than the one before? -/
def stOk (N1 : Int) (zs : List Int) (i : Nat) : Bool := inB (zs.getD i 0) 0 N1 && (decide (i = 0) || decide (zs.getD (i - 1) 0 < zs.getD i 0))
def setB (N1 : Int) (zs : List Int) : Bool := (List.range zs.length).all (stOk N1 zs)
theorem set_bad {N1 : Int} {zs : List Int} {i : Nat} (h : i < zs.length) (hb : stOk N1 zs i = false) : setB N1 zs = false := by
  rw [Bool.eq_false_iff]
  intro hall
  rw [setB, List.all_eq_true] at hall
  rw [hall i (List.mem_range.2 h)] at hb; cases hb
theorem set_all {N1 : Int} {zs : List Int} (h : ∀ i, i < zs.length → stOk N1 zs i = true) : setB N1 zs = true :=
  List.all_eq_true.2 fun i hi => h i (List.mem_range.1 hi)
theorem getD_at {zs : List Int} {i : Nat} {z : Int} (h : zs[i]? = some z) : zs.getD i 0 = z := by rw [List.getD_eq_getElem?_getD, h]; rfl
theorem st_out {N1 : Int} {zs : List Int} {i : Nat} {z : Int} (h : zs[i]? = some z) (hz : inB z 0 N1 = false) : stOk N1 zs i = false := by rw [stOk, getD_at h, hz]; rfl
theorem st_first {N1 : Int} {zs : List Int} {z : Int} (h : zs[0]? = some z) (hz : inB z 0 N1 = true) : stOk N1 zs 0 = true := by rw [stOk, getD_at h, hz]; rfl
theorem st_next {N1 : Int} {zs : List Int} {i m : Nat} {y z : Int} (h : zs[i]? = some z) (hm : zs[m]? = some y) (hi : i = m + 1) (hz : inB z 0 N1 = true) : stOk N1 zs i = decide (y < z) := by
  subst hi
  rw [stOk, getD_at h, hz, Nat.add_sub_cancel, getD_at hm]; simp
theorem ints_at {w : World} {B : Nat} {A : Option Addr} {n : Nat} {zs : List Int} (h : VS w B A n (zs.map (Value.int .i64))) {i : Nat} (hi : i < n) :
    ∃ b off z, A = some ⟨b, off, none⟩ ∧ b < B ∧ zs[i]? = some z ∧ w.cell? ⟨b, off + i, none⟩ = some (.int .i64 z) := by
  obtain ⟨b, off, v, e, hb, hzq, hc⟩ := h.at hi
  rw [List.getElem?_map] at hzq
  cases hzz : zs[i]? with
  | none => rw [hzz] at hzq; cases hzq
  | some z => rw [hzz] at hzq; injection hzq with hzq; exact ⟨b, off, z, e, hb, rfl, by rw [hc, ← hzq]⟩
theorem ints_len {w : World} {B : Nat} {A : Option Addr} {n : Nat} {zs : List Int} (h : VS w B A n (zs.map (Value.int .i64))) : zs.length = n := by have := h.1; rwa [List.length_map] at this
set_option maxHeartbeats 4000000 in
theorem l8Set_any (w : World) (A : Option Addr) (n c : Nat) (zs : List Int) (N N1 : Int) (h : VS w w.heap.size A n (zs.map (Value.int .i64))) (hn : n ≤ 1048576) (hN : IntKind.i64.wrap (N - 1) = N1) :
    Calls Try.prog 70 #[.slice A n c, .int .i64 N] w fun r w' => r = .returned (.bool (setB N1 zs)) ∧ Below w.heap.size w w' := by
  have HL := Lib.hid (ints_len h)
  have HH := hide h
  clear h
  go_enter Try.func70, Try.ntmps70
  go_wp2
  go_loopw [5] (fun kv wr => ∃ k : Nat, kv = .int .i64 k ∧ k ≤ n ∧ Hid (∀ j, j < k → stOk N1 zs j = true) ∧ Below w.heap.size w wr) (fun kv _ => n - (intOf kv).toNat)
  case atStart => exact ⟨0, rfl, Nat.zero_le _, Lib.hid (fun j hj => absurd hj (by omega)), Below.refl _ _⟩
  case round =>
    obtain ⟨k, rfl, hk, hall, hb⟩ := hrel
    by_cases hlt : k < n
    · obtain ⟨b, off, z, rfl, hbB, hz, hc0⟩ := ints_at ((unhide HH).up hb) hlt
      have HZ := Lib.hid hz
      have k0 : (0 : Int) ≤ (k : Int) := Int.natCast_nonneg _
      have k1 : (k : Int) < (n : Int) := by omega
      clear hz
      rcases hin : inB z 0 N1
      · have HBD := Lib.hid (set_bad (by have := HL.out; omega) (st_out HZ.out hin))
        go_wp2
        go_quiet ((go_at_call 49; exact quiet_leftA (l1In_any _ _ _ _)))
        go_wp2
        go_ret
        exact ⟨ret_bool HBD.out.symm, ⟨hb.os, hb.tape, hb.output, hb.size, hb.block⟩⟩
      · by_cases hk0 : k = 0
        · subst hk0
          have HG := Lib.hid (st_first HZ.out hin)
          have hc0' : wr.cell? ⟨b, off, none⟩ = some (.int .i64 z) := hc0
          go_wp2
          go_quiet ((go_at_call 49; exact quiet_leftA (l1In_any _ _ _ _)))
          go_wp2
          go_roundw
          case rel => exact ⟨1, by go_num, by omega, Lib.hid (fun j hj => by rw [show j = 0 by omega]; exact HG.out), ⟨hb.os, hb.tape, hb.output, hb.size, hb.block⟩⟩
          case measure => simp [intOf]; omega
        · obtain ⟨m, hkm⟩ : ∃ m, k = m + 1 := ⟨k - 1, by omega⟩
          obtain ⟨b', off', y, e1, hbB', hy, hc1⟩ := ints_at ((unhide HH).up hb) (show m < n by omega)
          injection e1 with e1
          injection e1 with e1 e2
          subst e1; subst e2
          have HY := Lib.hid hy
          have kd : decide (0 < k) = true := decide_eq_true (by omega)
          have m0 : (0 : Int) ≤ (m : Int) := Int.natCast_nonneg _
          have m1 : (m : Int) < (n : Int) := by omega
          have hwm : IntKind.i64.wrap ((k : Int) - 1) = (m : Int) := by rw [show (k : Int) - 1 = (m : Int) by omega]; exact IntWalk.i64_in _ (by omega)
          have HG := Lib.hid (st_next HZ.out HY.out hkm hin)
          have HKM := Lib.hid hkm
          clear hkm hy hk0
          by_cases hyz : y < z
          · have hyz' : ¬ z ≤ y := by omega
            go_wp2
            go_quiet ((go_at_call 49; exact quiet_leftA (l1In_any _ _ _ _)))
            go_wp2
            go_roundw
            case rel =>
              refine ⟨k + 1, by go_num, by omega, Lib.hid fun j hj => ?_, ⟨hb.os, hb.tape, hb.output, hb.size, hb.block⟩⟩
              by_cases hjk : j = k
              · subst hjk; rw [HG.out]; exact decide_eq_true hyz
              · exact hall.out j (by omega)
            case measure => simp [intOf]; omega
          · have hyz' : z ≤ y := by omega
            have HBD := Lib.hid (set_bad (by have := HL.out; omega) (HG.out.trans (decide_eq_false hyz)))
            go_wp2
            go_quiet ((go_at_call 49; exact quiet_leftA (l1In_any _ _ _ _)))
            go_wp2
            go_ret
            exact ⟨ret_bool HBD.out.symm, ⟨hb.os, hb.tape, hb.output, hb.size, hb.block⟩⟩
    · obtain rfl : k = n := by omega
      have HBD := Lib.hid (set_all (fun i hi => hall.out i (by have := HL.out; omega)))
      go_wp2
      go_ret
      exact ⟨ret_bool HBD.out.symm, hb⟩
set_option maxHeartbeats 4000000 in
theorem areStates_any (w : World) (A : Option Addr) (n c : Nat) (zs : List Int) (N N1 : Int) (h : VS w w.heap.size A n (zs.map (Value.int .i64))) (hn : n ≤ 1048576) (hN : IntKind.i64.wrap (N - 1) = N1) :
    Calls Try.prog 73 #[.slice A n c, .int .i64 N] w fun r w' => r = .returned (.bool (setB N1 zs)) ∧ w = w' := by
  have HL := Lib.hid (ints_len h)
  have HH := hide h
  clear h
  go_enter Try.func73, Try.ntmps73
  go_wp2
  go_loop [9] (fun kv => ∃ k : Nat, kv = .int .i64 k ∧ k ≤ n ∧ Hid (∀ j, j < k → stOk N1 zs j = true)) (fun kv => n - (intOf kv).toNat)
  case atStart => exact ⟨0, rfl, Nat.zero_le _, Lib.hid (fun j hj => absurd hj (by omega))⟩
  case round =>
    obtain ⟨k, rfl, hk, hall⟩ := hrel
    by_cases hlt : k < n
    · obtain ⟨b, off, z, rfl, hbB, hz, hc0⟩ := ints_at (unhide HH) hlt
      have HZ := Lib.hid hz
      have k0 : (0 : Int) ≤ (k : Int) := Int.natCast_nonneg _
      have k1 : (k : Int) < (n : Int) := by omega
      clear hz
      rcases hin : inB z 0 N1
      · have HBD := Lib.hid (set_bad (by have := HL.out; omega) (st_out HZ.out hin))
        go_wp2_with (first | (go_at_call 51; refine (within_any _ _ _ _).mono ?_; rintro r w1 ⟨rfl, rfl⟩; rw [hin]))
        go_ret
        exact ⟨ret_bool HBD.out.symm, rfl⟩
      · by_cases hk0 : k = 0
        · subst hk0
          have HG := Lib.hid (st_first HZ.out hin)
          have hc0' : w.cell? ⟨b, off, none⟩ = some (.int .i64 z) := hc0
          go_wp2_with (first | (go_at_call 51; refine (within_any _ _ _ _).mono ?_; rintro r w1 ⟨rfl, rfl⟩; rw [hin]))
          go_round
          case rel => exact ⟨1, by go_num, by omega, Lib.hid (fun j hj => by rw [show j = 0 by omega]; exact HG.out)⟩
          case measure => simp [intOf]; omega
        · obtain ⟨m, hkm⟩ : ∃ m, k = m + 1 := ⟨k - 1, by omega⟩
          obtain ⟨b', off', y, e1, hbB', hy, hc1⟩ := ints_at (unhide HH) (show m < n by omega)
          injection e1 with e1
          injection e1 with e1 e2
          subst e1; subst e2
          have HY := Lib.hid hy
          have kd : decide (0 < k) = true := decide_eq_true (by omega)
          have m0 : (0 : Int) ≤ (m : Int) := Int.natCast_nonneg _
          have m1 : (m : Int) < (n : Int) := by omega
          have hwm : IntKind.i64.wrap ((k : Int) - 1) = (m : Int) := by rw [show (k : Int) - 1 = (m : Int) by omega]; exact IntWalk.i64_in _ (by omega)
          have HG := Lib.hid (st_next HZ.out HY.out hkm hin)
          have HKM := Lib.hid hkm
          clear hkm hy hk0
          by_cases hyz : y < z
          · have hyz' : ¬ z ≤ y := by omega
            go_wp2_with (first | (go_at_call 51; refine (within_any _ _ _ _).mono ?_; rintro r w1 ⟨rfl, rfl⟩; rw [hin]))
            go_round
            case rel =>
              refine ⟨k + 1, by go_num, by omega, Lib.hid fun j hj => ?_⟩
              by_cases hjk : j = k
              · subst hjk; rw [HG.out]; exact decide_eq_true hyz
              · exact hall.out j (by omega)
            case measure => simp [intOf]; omega
          · have hyz' : z ≤ y := by omega
            have HBD := Lib.hid (set_bad (by have := HL.out; omega) (HG.out.trans (decide_eq_false hyz)))
            go_wp2_with (first | (go_at_call 51; refine (within_any _ _ _ _).mono ?_; rintro r w1 ⟨rfl, rfl⟩; rw [hin]))
            go_ret
            exact ⟨ret_bool HBD.out.symm, rfl⟩
    · obtain rfl : k = n := by omega
      have HBD := Lib.hid (set_all (fun i hi => hall.out i (by have := HL.out; omega)))
      go_wp2
      go_ret
      exact ⟨ret_bool HBD.out.symm, rfl⟩
/-- Is a move one between states, by a letter or none? -/
def mvB (N1 : Int) (p : Mv) : Bool := inB p.1 0 N1 && (inB p.2.2 0 N1 && inB p.2.1 (-1) 2)
def nfaB (S N1 : Int) (e : List Mv) (fs es : List Int) : Bool := e.all (mvB N1) && (inB S 0 40 && (decide ((e.length : Int) ≤ 400) && (setB N1 fs && setB N1 es)))
theorem nfa_bad {S N1 : Int} {e : List Mv} {fs es : List Int} {p : Mv} (h : p ∈ e) (hp : mvB N1 p = false) : nfaB S N1 e fs es = false := by
  have : e.all (mvB N1) = false := by
    rw [Bool.eq_false_iff]
    intro hall
    rw [List.all_eq_true] at hall
    rw [hall p h] at hp; cases hp
  rw [nfaB, this]; rfl
theorem nfa_all {S N1 : Int} {e : List Mv} {fs es : List Int} (h : ∀ p ∈ e, mvB N1 p = true) : nfaB S N1 e fs es = (inB S 0 40 && (decide ((e.length : Int) ≤ 400) && (setB N1 fs && setB N1 es))) := by
  rw [nfaB, List.all_eq_true.2 h]; rfl
theorem all_bef {e : List Mv} {n : Nat} {N1 : Int} (hl : e.length = n) (h : ∀ j p, j < n → e[j]? = some p → mvB N1 p = true) : ∀ p ∈ e, mvB N1 p = true := by
  intro p hp
  obtain ⟨j, hj, he⟩ := List.mem_iff_getElem.1 hp
  exact h j p (by omega) (by rw [List.getElem?_eq_getElem hj, he])
set_option maxHeartbeats 4000000 in
theorem specNfaValid_any (w : World) (S N1 : Int) (A : Option Addr) (n c : Nat) (A2 : Option Addr) (m c2 : Nat) (A3 : Option Addr) (k c3 : Nat) (e : List Mv) (fs es : List Int) (h : NfaS w A n A2 m A3 k e fs es) (hn : n ≤ 1048576) (hm : m ≤ 1048576) (hk : k ≤ 1048576) (hN : IntKind.i64.wrap (S - 1) = N1) :
    Calls Try.prog 41 #[nfaV S A n c A2 m c2 A3 k c3] w fun r w' => r = .returned (.bool (nfaB S N1 e fs es)) ∧ Below w.heap.size w w' := by
  have hb0 : Below w.heap.size w (w.alloc (nbox S A n c A2 m c2 A3 k c3)) := (Below.refl _ _).alloc (Nat.le_refl _) _
  obtain ⟨W, hW⟩ : ∃ W, w.alloc (nbox S A n c A2 m c2 A3 k c3) = W := ⟨_, rfl⟩
  have b0 : W.heap[w.heap.size]? = some (nbox S A n c A2 m c2 A3 k c3) := by rw [← hW]; exact heap_alloc_new _ _
  rw [hW] at hb0
  have l0 : w.heap.size < W.heap.size := (Array.getElem?_eq_some_iff.1 b0).1
  have HH := hide (h.up hb0)
  have HL := Lib.hid h.1.1
  have HB0 := hide hb0
  have HW := Lib.hid hW
  have cells : Hid (∀ W', Below W.heap.size W W' → W'.cell? ⟨w.heap.size, 0, none⟩ = some (.int .i64 S) ∧ W'.cell? ⟨w.heap.size, 1, none⟩ = some (.slice A n c) ∧ W'.cell? ⟨w.heap.size, 2, none⟩ = some (.slice A2 m c2) ∧ W'.cell? ⟨w.heap.size, 3, none⟩ = some (.slice A3 k c3)) := fun W' hb => by
    have d := (hb.block _ l0).trans b0
    exact ⟨by rw [cell_of_row W' _ 0 _ _ _ d]; rfl, by rw [cell_of_row W' _ 1 _ _ _ d]; rfl, by rw [cell_of_row W' _ 2 _ _ _ d]; rfl, by rw [cell_of_row W' _ 3 _ _ _ d]; rfl⟩
  clear h b0 hb0 hW
  go_enter Try.func41, Try.ntmps41
  go_wp2
  rw [HW.out]
  go_loopw [3] (fun kv wr => ∃ i : Nat, kv = .int .i64 i ∧ i ≤ n ∧ Hid (∀ j p, j < i → e[j]? = some p → mvB N1 p = true) ∧ Below W.heap.size W wr) (fun kv _ => n - (intOf kv).toNat)
  case atStart => exact ⟨0, rfl, Nat.zero_le _, Lib.hid (fun j r hj => absurd hj (by omega)), Below.refl _ _⟩
  case round =>
    obtain ⟨i, rfl, hi, hall, hb⟩ := hrel
    obtain ⟨p0, p1, p2, p3⟩ := (unhide cells) wr hb
    by_cases hlt : i < n
    · obtain ⟨b, off, x, y, z, rfl, hbB, hri, hc0, hc1, hc2⟩ := ((unhide HH).1.up hb).at hlt
      have HRI := Lib.hid hri
      have k0 : (0 : Int) ≤ (i : Int) := Int.natCast_nonneg _
      have k1 : (i : Int) < (n : Int) := by omega
      have hsz := hb.size
      have pw : w.heap.size < wr.heap.size := by omega
      have q0 : (wr.alloc (mbox x y z)).cell? ⟨w.heap.size, 0, none⟩ = some (.int .i64 S) := (World.cell?_alloc_lt _ _ _ pw).trans p0
      clear hri
      have hbA : Below W.heap.size W (wr.alloc (mbox x y z)) := hb.alloc hsz _
      have hd : ∀ bx bz byy : Bool, inB x 0 N1 = bx → inB z 0 N1 = bz → inB y (-1) 2 = byy → mvB N1 (x, y, z) = (bx && (bz && byy)) := fun _ _ _ h1 h2 h3 => by rw [mvB, h1, h2, h3]
      rcases hx : inB x 0 N1
      · have HBD : Hid (nfaB S N1 e fs es = false) := nfa_bad (List.mem_of_getElem? HRI.out) (by rw [hd _ _ _ hx rfl rfl]; rfl)
        clear hd
        go_wp2_with (first | (go_at_call 49; refine (l1In_any _ _ _ _).mono ?_; rintro r w1 ⟨rfl, rfl⟩; first | rw [hx]))
        go_ret
        exact ⟨ret_bool (unhide HBD).symm, (unhide HB0).trans (hbA.mono (unhide HB0).size)⟩
      · rcases hz : inB z 0 N1
        · have HBD : Hid (nfaB S N1 e fs es = false) := nfa_bad (List.mem_of_getElem? HRI.out) (by rw [hd _ _ _ hx hz rfl]; rfl)
          clear hd
          go_wp2_with (first | (go_at_call 49; refine (l1In_any _ _ _ _).mono ?_; rintro r w1 ⟨rfl, rfl⟩; first | rw [hx] | rw [hz]))
          go_ret
          exact ⟨ret_bool (unhide HBD).symm, (unhide HB0).trans (hbA.mono (unhide HB0).size)⟩
        · rcases hy : inB y (-1) 2
          · have HBD : Hid (nfaB S N1 e fs es = false) := nfa_bad (List.mem_of_getElem? HRI.out) (by rw [hd _ _ _ hx hz hy]; rfl)
            clear hd
            go_wp2_with (first | (go_at_call 49; refine (l1In_any _ _ _ _).mono ?_; rintro r w1 ⟨rfl, rfl⟩; first | rw [hx] | rw [hz] | rw [hy]))
            go_ret
            exact ⟨ret_bool (unhide HBD).symm, (unhide HB0).trans (hbA.mono (unhide HB0).size)⟩
          · have HG : Hid (mvB N1 (x, y, z) = true) := by show mvB N1 (x, y, z) = true; rw [hd _ _ _ hx hz hy]; rfl
            clear hd
            go_wp2_with (first | (go_at_call 49; refine (l1In_any _ _ _ _).mono ?_; rintro r w1 ⟨rfl, rfl⟩; first | rw [hx] | rw [hz] | rw [hy]))
            go_roundw
            case rel =>
              refine ⟨i + 1, by go_num, by omega, Lib.hid fun j p hj hp => ?_, hbA⟩
              by_cases hji : j = i
              · subst hji
                rw [HRI.out] at hp
                injection hp with hp
                subst hp
                exact unhide HG
              · exact hall.out j p (by omega) hp
            case measure => simp [intOf]; omega
    · obtain rfl : i = n := by omega
      have HALL := Lib.hid (nfa_all (S := S) (fs := fs) (es := es) (all_bef HL.out hall.out))
      rw [HL.out] at HALL
      have HF := l8Set_any wr A2 m c2 fs S N1 ((unhide HH).2.1.up hb) hm hN
      have HE := fun W' (hb' : Below W.heap.size W W') => l8Set_any W' A3 k c3 es S N1 ((unhide HH).2.2.up hb') hk hN
      rcases hin : inB S 0 40
      · rw [hin] at HALL
        go_wp2_with (first | (go_at_call 49; refine (l1In_any _ _ _ _).mono ?_; rintro r w1 ⟨rfl, rfl⟩; rw [hin]))
        go_ret
        exact ⟨ret_bool (by rw [HALL.out]; rfl), (unhide HB0).trans (hb.mono (unhide HB0).size)⟩
      · rw [hin] at HALL
        by_cases h400 : (i : Int) ≤ 400
        · rw [decide_eq_true h400] at HALL
          rcases hsf : setB N1 fs
          · rw [hsf] at HALL HF
            go_wp2_with (first | (go_at_call 49; refine (l1In_any _ _ _ _).mono ?_; rintro r w1 ⟨rfl, rfl⟩; rw [hin]))
            refine HF.mono ?_
            rintro r w2 ⟨rfl, hb2⟩
            have hbb := hb.trans (hb2.mono hb.size)
            go_wp2
            go_ret
            exact ⟨ret_bool (by rw [HALL.out]; rfl), (unhide HB0).trans (hbb.mono (unhide HB0).size)⟩
          · rw [hsf] at HALL HF
            go_wp2_with (first | (go_at_call 49; refine (l1In_any _ _ _ _).mono ?_; rintro r w1 ⟨rfl, rfl⟩; rw [hin]))
            refine HF.mono ?_
            rintro r w2 ⟨rfl, hb2⟩
            have hbb := hb.trans (hb2.mono hb.size)
            obtain ⟨p0, p1, p2, p3⟩ := (unhide cells) w2 hbb
            have HE2 := HE w2 hbb
            obtain ⟨bv, hbv⟩ : ∃ bv, setB N1 es = bv := ⟨_, rfl⟩
            rw [hbv] at HE2 HALL
            clear hbv HE
            go_wp2_with fail
            refine HE2.mono ?_
            rintro r w3 ⟨rfl, hb3⟩
            have hbb3 := hbb.trans (hb3.mono hbb.size)
            go_wp2
            go_ret
            exact ⟨ret_bool (by rw [HALL.out]; cases bv <;> rfl), (unhide HB0).trans (hbb3.mono (unhide HB0).size)⟩
        · rw [decide_eq_false h400] at HALL
          go_wp2_with (first | (go_at_call 49; refine (l1In_any _ _ _ _).mono ?_; rintro r w1 ⟨rfl, rfl⟩; rw [hin]))
          go_ret
          exact ⟨ret_bool (by rw [HALL.out]; rfl), (unhide HB0).trans (hb.mono (unhide HB0).size)⟩
end Go.Proofs.Ytcphbncgkemdoaa
