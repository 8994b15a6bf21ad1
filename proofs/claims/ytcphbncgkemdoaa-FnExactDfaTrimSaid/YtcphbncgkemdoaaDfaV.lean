/-
  Valid automata: the walks of both tests.
-/
import Derived.Test.YtcphbncgkemdoaaDfa2
namespace Go.Proofs.Ytcphbncgkemdoaa
open Go.RowKit
set_option linter.unusedVariables false
set_option maxRecDepth 100000

theorem quiet_leftA {P : Program} {f : FuncId} {args : Array Value} {w : World} {n : Nat} {v : Value}
    (h : Calls P f args (w.drewN n) fun e w' => e = .returned v ∧ w.drewN n = w') : Calls P f args (w.drewN n) fun e w'' => e = .returned v ∧ ∃ m, w'' = w.drewN m :=
  h.mono fun _ _ ⟨he, hm⟩ => ⟨he, n, hm.symm⟩
theorem dfa_bad {rows : List (List Int)} {m : Nat} {z : List Int} (h : z ∈ rows) (hz : rowB (rows.length : Int) z = false) : dfaB rows m = false := by
  have : rows.all (rowB (rows.length : Int)) = false := by
    rw [Bool.eq_false_iff]
    intro hall
    rw [List.all_eq_true] at hall
    rw [hall z h] at hz; cases hz
  rw [dfaB, this]; rfl
theorem dfa_all {rows : List (List Int)} {m : Nat} (h : ∀ z ∈ rows, rowB (rows.length : Int) z = true) : dfaB rows m = (inB (rows.length : Int) 1 40 && decide ((m : Int) = (rows.length : Int))) := by
  have : rows.all (rowB (rows.length : Int)) = true := List.all_eq_true.2 h
  rw [dfaB, this]; rfl
theorem row_len {N : Int} {z : List Int} (h : z.length ≠ 3) : rowB N z = false := by rw [rowB, decide_eq_false h]; rfl
theorem row_bad {N : Int} {z : List Int} {v : Int} (hv : v ∈ z) (h : inB v 0 (N - 1) = false) : rowB N z = false := by
  have : (z.all fun v => inB v 0 (N - 1)) = false := by
    rw [Bool.eq_false_iff]
    intro hall
    rw [List.all_eq_true] at hall
    rw [hall v hv] at h; cases h
  rw [rowB, this, Bool.and_false]
theorem row_good {N : Int} {z : List Int} (hl : z.length = 3) (h : ∀ v ∈ z, inB v 0 (N - 1) = true) : rowB N z = true := by
  have : (z.all fun v => inB v 0 (N - 1)) = true := List.all_eq_true.2 h
  rw [rowB, this, decide_eq_true hl]; rfl
theorem nums_mem {rs : List RowV} {i : Nat} {A : Option Addr} {m c : Nat} {zs : List Int} (h : rs[i]? = some (A, m, c, zs)) : zs ∈ nums rs := List.mem_map.2 ⟨_, List.mem_of_getElem? h, rfl⟩
theorem nums_len (rs : List RowV) : (nums rs).length = rs.length := List.length_map _
theorem all_before {rs : List RowV} {n : Nat} {N : Int} (hl : rs.length = n) (h : ∀ j r, j < n → rs[j]? = some r → rowB N r.2.2.2 = true) : ∀ z ∈ nums rs, rowB N z = true := by
  intro z hz
  obtain ⟨r, hr, rfl⟩ := List.mem_map.1 hz
  obtain ⟨j, hj, he⟩ := List.mem_iff_getElem.1 hr
  exact h j r (by omega) (by rw [List.getElem?_eq_getElem hj, he])
set_option maxHeartbeats 4000000 in
theorem specDfaValid_any (w : World) (A : Option Addr) (n c : Nat) (A2 : Option Addr) (m c2 : Nat) (rs : List RowV) (h : RS w w.heap.size A n rs) (hn : n ≤ 1048576) (hm : m ≤ 1048576) (hr : ∀ r ∈ rs, r.2.1 ≤ 1048576) :
    Calls Try.prog 36 #[dfaV A n c A2 m c2] w fun r w' => r = .returned (.bool (dfaB (nums rs) m)) ∧ Below w.heap.size w w' := by
  have hb0 : Below w.heap.size w (w.alloc (.cells #[.slice A n c, .slice A2 m c2] 50)) := (Below.refl _ _).alloc (Nat.le_refl _) _
  obtain ⟨W, hW⟩ : ∃ W, w.alloc (.cells #[.slice A n c, .slice A2 m c2] 50) = W := ⟨_, rfl⟩
  have b0 : W.heap[w.heap.size]? = some (.cells #[.slice A n c, .slice A2 m c2] 50) := by rw [← hW]; exact heap_alloc_new _ _
  rw [hW] at hb0
  have l0 : w.heap.size < W.heap.size := (Array.getElem?_eq_some_iff.1 b0).1
  have HH := hide (h.up hb0)
  have HL := Lib.hid h.len
  have HNL := Lib.hid (show ((nums rs).length : Int) = (n : Int) by rw [nums_len, h.len])
  have HB0 := hide hb0
  have B0 := Lib.hid b0
  have HM := Lib.hid hr
  have HW := Lib.hid hW
  have cells : Hid (∀ W', Below W.heap.size W W' → W'.cell? ⟨w.heap.size, 0, none⟩ = some (.slice A n c) ∧ W'.cell? ⟨w.heap.size, 1, none⟩ = some (.slice A2 m c2)) := fun W' hb => by
    have d := (hb.block _ l0).trans b0
    exact ⟨by rw [cell_of_row W' _ 0 _ _ _ d]; rfl, by rw [cell_of_row W' _ 1 _ _ _ d]; rfl⟩
  clear h b0 hb0 hr hW
  go_enter Try.func36, Try.ntmps36
  go_wp2
  rw [HW.out]
  go_loopw [3] (fun kv wr => ∃ k : Nat, kv = .int .i64 k ∧ k ≤ n ∧ Hid (∀ j r, j < k → rs[j]? = some r → rowB (n : Int) r.2.2.2 = true) ∧ Below W.heap.size W wr) (fun kv _ => n - (intOf kv).toNat)
  case atStart => exact ⟨0, rfl, Nat.zero_le _, Lib.hid (fun j r hj => absurd hj (by omega)), Below.refl _ _⟩
  case round =>
    obtain ⟨k, rfl, hk, hall, hb⟩ := hrel
    obtain ⟨p0, p1⟩ := (unhide cells) wr hb
    by_cases hlt : k < n
    · obtain ⟨b, off, A', m', c', zs, rfl, hbB, hrk, hc0, hv, hzl, hmc, hcm⟩ := ((unhide HH).up hb).at hlt
      have HRK := Lib.hid hrk
      have HV := hide hv
      have HZL := Lib.hid hzl
      have k0 : (0 : Int) ≤ (k : Int) := Int.natCast_nonneg _
      have k1 : (k : Int) < (n : Int) := by omega
      clear hrk hv hzl
      by_cases h3 : m' = 3
      · subst h3
        go_wp2
        go_loopw [4] (fun cv wr' => ∃ q : Nat, cv = .int .i64 q ∧ q ≤ 3 ∧ Hid (∀ j v, j < q → zs[j]? = some v → inB v 0 ((n : Int) - 1) = true) ∧ Below W.heap.size W wr') (fun cv _ => 3 - (intOf cv).toNat)
        case atStart => exact ⟨0, rfl, Nat.zero_le _, Lib.hid (fun j v hj => absurd hj (by omega)), hb⟩
        case round =>
          obtain ⟨q, rfl, hq, hbef, hbq⟩ := hrel
          obtain ⟨p0, p1⟩ := (unhide cells) wr hbq
          by_cases hq3 : q < 3
          · obtain ⟨b', off', A'', m'', c'', zs', e1, hbB', hrk', hc0', hv', -, -, -⟩ := ((unhide HH).up hbq).at hlt
            injection e1 with e1
            injection e1 with e1 e2
            subst e1; subst e2
            rw [HRK.out] at hrk'
            injection hrk' with hrk'
            injection hrk' with e1 hrk'
            injection hrk' with e2 hrk'
            injection hrk' with e3 e4
            subst e1; subst e2; subst e3; subst e4
            obtain ⟨b2, off2, v, rfl, hbB2, hzq, hcq⟩ := hv'.at hq3
            obtain ⟨z, hz, rfl⟩ : ∃ z, zs[q]? = some z ∧ v = .int .i64 z := by
              rw [List.getElem?_map] at hzq
              cases hzz : zs[q]? with
              | none => rw [hzz] at hzq; cases hzq
              | some z => rw [hzz] at hzq; injection hzq with hzq; exact ⟨z, rfl, hzq.symm⟩
            have HZ := Lib.hid hz
            have q0 : (0 : Int) ≤ (q : Int) := Int.natCast_nonneg _
            have q1 : (q : Int) < (3 : Int) := by omega
            clear hzq hz hv'
            rcases hin : inB z 0 ((n : Int) - 1)
            · have HBD := Lib.hid (dfa_bad (m := m) (nums_mem HRK.out) (row_bad (List.mem_of_getElem? HZ.out) (by rw [HNL.out]; exact hin)))
              go_wp2
              go_quiet ((go_at_call 49; exact quiet_leftA (l1In_any _ _ _ _)))
              go_wp2
              go_ret
              exact ⟨ret_bool HBD.out.symm, (unhide HB0).trans (Below.mono ⟨hbq.os, hbq.tape, hbq.output, hbq.size, hbq.block⟩ (unhide HB0).size)⟩
            · go_wp2
              go_quiet ((go_at_call 49; exact quiet_leftA (l1In_any _ _ _ _)))
              go_wp2
              go_roundw
              case rel =>
                refine ⟨q + 1, by go_num, by omega, Lib.hid fun j v hj hv => ?_, ⟨hbq.os, hbq.tape, hbq.output, hbq.size, hbq.block⟩⟩
                by_cases hjq : j = q
                · subst hjq
                  rw [HZ.out] at hv
                  injection hv with hv
                  subst hv
                  exact hin
                · exact hbef.out j v (by omega) hv
              case measure => simp [intOf]; omega
          · obtain rfl : q = 3 := by omega
            go_wp2
            go_roundw
            case rel =>
              refine ⟨k + 1, by go_num, by omega, Lib.hid fun j r hj hr => ?_, hbq⟩
              by_cases hjk : j = k
              · subst hjk
                rw [HRK.out] at hr
                injection hr with hr
                subst hr
                refine row_good HZL.out fun v hv => ?_
                obtain ⟨j, hj, he⟩ := List.mem_iff_getElem.1 hv
                exact hbef.out j v (by have h1 := HZL.out; have h2 : j < zs.length := hj; omega) (by rw [List.getElem?_eq_getElem hj, he])
              · exact hall.out j r (by omega) hr
            case measure => simp [intOf]; omega
      · have HBD := Lib.hid (dfa_bad (m := m) (nums_mem HRK.out) (row_len (by rw [HZL.out]; exact h3)))
        have h3' : ((m' : Int) == 3) = false := by simp; omega
        have h3n : ¬ (m' : Int) = 3 := by omega
        go_wp2
        go_ret
        exact ⟨ret_bool HBD.out.symm, (unhide HB0).trans (hb.mono (unhide HB0).size)⟩
    · obtain rfl : k = n := by omega
      have HALL := Lib.hid (dfa_all (m := m) (all_before HL.out (by rw [HNL.out]; exact hall.out)))
      rcases hin : inB (k : Int) 1 40
      · go_wp2_with (first | (go_at_call 49; refine (l1In_any _ _ _ _).mono ?_; rintro r w1 ⟨rfl, rfl⟩; rw [hin]))
        go_ret
        exact ⟨ret_bool (by rw [HALL.out, HNL.out, hin]; rfl), (unhide HB0).trans (hb.mono (unhide HB0).size)⟩
      · by_cases hmk : (m : Int) = (k : Int)
        · have hmk' : ((m : Int) == (k : Int)) = true := by simpa using hmk
          go_wp2_with (first | (go_at_call 49; refine (l1In_any _ _ _ _).mono ?_; rintro r w1 ⟨rfl, rfl⟩; rw [hin]))
          go_ret
          exact ⟨ret_bool (by rw [HALL.out, HNL.out, hin, decide_eq_true hmk]; rfl), (unhide HB0).trans (hb.mono (unhide HB0).size)⟩
        · have hmk' : ((m : Int) == (k : Int)) = false := by simpa using hmk
          go_wp2_with (first | (go_at_call 49; refine (l1In_any _ _ _ _).mono ?_; rintro r w1 ⟨rfl, rfl⟩; rw [hin]))
          go_ret
          exact ⟨ret_bool (by rw [HALL.out, HNL.out, hin, decide_eq_false hmk]; rfl), (unhide HB0).trans (hb.mono (unhide HB0).size)⟩
theorem enter_dv (args : Array Value) (W : World) : (callFunc 65 args).run Try.prog W = .ok (.enter 65 args) W := rfl
theorem dv1_any (w : World) (g : Nat) (z N : Int) (hg : w.cell? ⟨g, 0, none⟩ = some (.int .i64 N)) (hN0 : 0 ≤ N) (hN : N ≤ 1048576) :
    Calls Try.prog 65 #[.int .i64 z, .pointer (some ⟨g, 0, none⟩)] w fun r w' => r = .returned (.bool (!(inB z 0 (N - 1)))) ∧ w = w' := by
  rcases hin : inB z 0 (N - 1)
  all_goals
    go_enter Try.func65, Try.ntmps65
    go_wp2_with (first | (go_at_call 51; refine (within_any _ _ _ _).mono ?_; rintro r w1 ⟨rfl, rfl⟩; rw [hin]))
    go_ret
    exact ⟨rfl, rfl⟩
theorem any_take {zs : List Int} {P : Int → Bool} {q : Nat} (hl : zs.length ≤ q) (h : ∀ j v, j < q → zs[j]? = some v → P v = false) : zs.any P = false := by
  rw [Bool.eq_false_iff]
  intro hany
  obtain ⟨v, hv, hp⟩ := List.any_eq_true.1 hany
  obtain ⟨j, hj, he⟩ := List.mem_iff_getElem.1 hv
  rw [h j v (by omega) (by rw [List.getElem?_eq_getElem hj, he])] at hp
  cases hp
set_option maxHeartbeats 2000000 in
theorem indexI_any (w : World) (A : Option Addr) (n c : Nat) (zs : List Int) (K : FuncId) (cap : Array Value) (P : Int → Bool) (h : VS w w.heap.size A n (zs.map (Value.int .i64))) (hn : n ≤ 1048576)
    (hK : ∀ (args : Array Value) (W : World), (callFunc K args).run Try.prog W = .ok (.enter K args) W)
    (hf : ∀ z : Int, Calls Try.prog K (#[.int .i64 z] ++ cap) w fun r W' => r = .returned (.bool (P z)) ∧ w = W') :
    Calls Try.prog 85 #[.slice A n c, .func (.func K) #[] cap] w fun r w' => w = w' ∧ ∃ i : Int, r = .returned (.int .i64 i) ∧ decide (0 ≤ i) = zs.any P := by
  have HF := hide hf
  have HH := hide h
  have HL := Lib.hid (show zs.length = n by have := h.1; rwa [List.length_map] at this)
  clear hf h
  go_enter Try.func85, Try.ntmps85
  go_wp2
  go_loop [8] (fun i => ∃ k : Nat, i = .int .i64 k ∧ k ≤ n ∧ Hid (∀ j v, j < k → zs[j]? = some v → P v = false)) (fun i => n - (intOf i).toNat)
  case atStart => exact ⟨0, rfl, Nat.zero_le _, Lib.hid (fun j v hj => absurd hj (by omega))⟩
  case round =>
    obtain ⟨k, rfl, hk, hbef⟩ := hrel
    by_cases hlt : k < n
    · obtain ⟨b, off, v, rfl, hbB, hzk, hc0⟩ := (unhide HH).at hlt
      obtain ⟨z, hz, rfl⟩ : ∃ z, zs[k]? = some z ∧ v = .int .i64 z := by
        rw [List.getElem?_map] at hzk
        cases hzz : zs[k]? with
        | none => rw [hzz] at hzk; cases hzk
        | some z => rw [hzz] at hzk; injection hzk with hzk; exact ⟨z, rfl, hzk.symm⟩
      have HZ := Lib.hid hz
      have k0 : (0 : Int) ≤ (k : Int) := Int.natCast_nonneg _
      have k1 : (k : Int) < (n : Int) := by omega
      have HC := (unhide HF) z
      clear hzk hz
      rcases hp : P z
      · rw [hp] at HC
        go_wp2_with fail
        refine HC.mono ?_
        rintro r w1 ⟨rfl, rfl⟩
        go_wp2
        go_round
        case rel =>
          refine ⟨k + 1, by go_num, by omega, Lib.hid fun j v hj hv => ?_⟩
          by_cases hjk : j = k
          · subst hjk
            rw [HZ.out] at hv
            injection hv with hv
            subst hv
            exact hp
          · exact hbef.out j v (by omega) hv
        case measure => simp [intOf]; omega
      · rw [hp] at HC
        have HAN := Lib.hid (show zs.any P = true from List.any_eq_true.2 ⟨z, List.mem_of_getElem? HZ.out, hp⟩)
        go_wp2_with fail
        refine HC.mono ?_
        rintro r w1 ⟨rfl, rfl⟩
        go_wp2
        go_ret
        exact ⟨rfl, k, rfl, by rw [HAN.out]; simp⟩
    · obtain rfl : k = n := by omega
      have HAN := Lib.hid (any_take (by have := HL.out; omega) hbef.out)
      go_wp2
      go_ret
      exact ⟨rfl, -1, rfl, by rw [HAN.out]; rfl⟩
theorem containsI_any (w : World) (A : Option Addr) (n c : Nat) (zs : List Int) (K : FuncId) (cap : Array Value) (P : Int → Bool) (h : VS w w.heap.size A n (zs.map (Value.int .i64))) (hn : n ≤ 1048576)
    (hK : ∀ (args : Array Value) (W : World), (callFunc K args).run Try.prog W = .ok (.enter K args) W)
    (hf : ∀ z : Int, Calls Try.prog K (#[.int .i64 z] ++ cap) w fun r W' => r = .returned (.bool (P z)) ∧ w = W') :
    Calls Try.prog 64 #[.slice A n c, .func (.func K) #[] cap] w fun r w' => r = .returned (.bool (zs.any P)) ∧ w = w' := by
  have HI := indexI_any w A n c zs K cap P h hn hK hf
  clear h hf
  go_enter Try.func64, Try.ntmps64
  go_wp2_with fail
  refine HI.mono ?_
  rintro r w1 ⟨rfl, i, rfl, hi⟩
  rcases hz : zs.any P
  · have hi0 : i < 0 := by rw [hz] at hi; simpa using hi
    have HZ := Lib.hid hz
    go_wp2
    go_ret
    exact ⟨ret_bool HZ.out.symm, rfl⟩
  · have hi0 : 0 ≤ i := by rw [hz] at hi; simpa using hi
    have HZ := Lib.hid hz
    go_wp2
    go_ret
    exact ⟨ret_bool HZ.out.symm, rfl⟩
end Go.Proofs.Ytcphbncgkemdoaa
