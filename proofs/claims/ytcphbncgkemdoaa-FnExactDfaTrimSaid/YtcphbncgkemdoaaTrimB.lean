/-
  Automata without the states that cannot be reached: the reference's order.
-/
import Derived.Test.YtcphbncgkemdoaaTrimA
namespace Go.Proofs.Ytcphbncgkemdoaa
open Go.RowKit
set_option linter.unusedVariables false
set_option maxRecDepth 100000

theorem boolz_info : (Try.prog.info? 4).map (fun i => (i.zero, i.size, i.bytes)) = some (some (.bool false), 1, 1) := by kernel_rfl
theorem intz_info : (Try.prog.info? 3).map (fun i => (i.zero, i.size, i.bytes)) = some (some (.int .i64 0), 1, 8) := by kernel_rfl
theorem own_or' (v : Value) : v.ownBlock = none ∨ v.ownBlock ≠ none := by cases v.ownBlock <;> simp
theorem own_base {w : World} {B b n size : Nat} {t : TypeId} {v : Value} {xs : List Value} (h : w.ownsRow B t size v n xs) (hb : b ≤ B) : w.ownsRow b t size v n xs := by
  refine ⟨h.1, ?_⟩
  rcases h.2 with h2 | ⟨g, cap, cur, e1, e2, e3⟩
  · exact .inl h2
  · exact .inr ⟨g, cap, cur, e1, by omega, e3⟩
/-- What the order of an automaton leaves. -/
def OrdD (w : World) (rows : List (List Int)) (r : Ending) (w' : World) : Prop :=
  Below w.heap.size w w' ∧ ∃ v, r = .returned v ∧ w'.ownsRow w.heap.size 3 1 v (ord rows).length ((ord rows).map (Value.int .i64))
theorem insI_in {M : List Int} {x : Int} (h : x ∈ M) : insI M x = M := if_pos h
theorem insI_out {M : List Int} {x : Int} (h : ¬ x ∈ M) : insI M x = M ++ [x] := if_neg h
/-- What stands while the order is made. -/
def OrdI (w wr : World) (gB n : Nat) (ov : Value) (M : List Int) : Prop :=
  wr.ownsRow (w.heap.size + 1) 3 1 ov M.length (M.map (Value.int .i64)) ∧ ov.ownBlock ≠ some gB ∧ MarkM wr gB n M
theorem OrdI.drewN {w wr : World} {gB n : Nat} {ov : Value} {M : List Int} (h : OrdI w wr gB n ov M) (k : Nat) : OrdI w (wr.drewN k) gB n ov M := h
theorem bel_drewN {B : Nat} {w wr : World} (h : Below B w wr) (k : Nat) : Below B w (wr.drewN k) := ⟨h.os, h.tape, h.output, h.size, h.block⟩
set_option maxHeartbeats 8000000 in
theorem l7Order_any (w : World) (A : Option Addr) (n c : Nat) (A2 : Option Addr) (m c2 : Nat) (rs : List RowV) (h : RS w w.heap.size A n rs) (hn : n ≤ 40) (h0 : 0 < n) (hv : RowsB (nums rs)) :
    Calls Try.prog 78 #[dfaV A n c A2 m c2] w (OrdD w (nums rs)) := by
  obtain ⟨i0, hi0, hz0, hz1, hz2⟩ := info_parts boolz_info
  obtain ⟨ti, hi1, hy0, hy1, hy2⟩ := info_parts intz_info
  have HU := hide hi1
  have hmk0 := fun W => run_make_rowN (P := Try.prog) 45 4 i0 (.bool false) Try.underlying45 hi0 hz0 .i64 .i64 n n (Nat.le_refl _) (by rw [hz2]; omega) (by omega) W
  obtain ⟨C0, hC0⟩ : ∃ C0, madeCells (Value.bool false).cells (n * i0.size) = C0 := ⟨_, rfl⟩
  have hCs : C0.size = n := by rw [← hC0, hz1, size_madeCells, Nat.mul_one]
  rw [hC0] at hmk0
  have HC0 : ∀ j, j < n → C0[j]? = some (.bool false) := by
    intro j hj
    rw [← hC0, hz1]
    simp [madeCells, Value.cells, Nat.mod_one]
    exact ⟨j, by rw [Array.getElem?_eq_getElem (by simp; omega)]; simp⟩
  have hmk := hmk0
  have hlen : (nums rs).length = n := by rw [nums_len, h.len]
  have hg0 : 0 < (nums rs).length := by omega
  have HLEN := Lib.hid hlen
  have HV := Lib.hid hv
  have n0 : (0 : Int) < (n : Int) := by omega
  obtain ⟨C1, hC1⟩ : ∃ C1, C0.setIfInBounds 0 (.bool true) = C1 := ⟨_, rfl⟩
  have hC1s : C1.size = n := by rw [← hC1]; simpa using hCs
  have hC1x : ∀ x : Nat, x < n → C1[x]? = some (.bool (decide ((x : Int) ∈ [(0 : Int)]))) := by
    intro x hx
    rw [← hC1]
    by_cases e : x = 0
    · subst e
      rw [Array.getElem?_setIfInBounds_self_of_lt (by omega)]; simp
    · rw [Array.getElem?_setIfInBounds_ne (by omega), HC0 x hx]
      simp [e]
  have HC1 := Lib.hid hC1
  have hbW : Below w.heap.size w (((w.alloc (.cells #[.slice A n c, .slice A2 m c2] 50)).alloc (.cells #[.int .i64 0] 3)).alloc (.cells C1 4)) := (((Below.refl _ _).alloc (Nat.le_refl _) _).alloc (by simp) _).alloc (by simp; omega) _
  obtain ⟨W1, hW⟩ : ∃ W1, (((w.alloc (.cells #[.slice A n c, .slice A2 m c2] 50)).alloc (.cells #[.int .i64 0] 3)).alloc (.cells C1 4)) = W1 := ⟨_, rfl⟩
  have hs1 : W1.heap.size = w.heap.size + 1 + 1 + 1 := by rw [← hW]; simp
  have b0 : W1.heap[w.heap.size]? = some (.cells #[.slice A n c, .slice A2 m c2] 50) := by
    rw [← hW, Below.heap_alloc _ _ _ (by simp; omega), Below.heap_alloc _ _ _ (by simp)]; exact heap_alloc_new _ _
  have b1 : W1.heap[w.heap.size + 1]? = some (.cells #[.int .i64 0] 3) := by
    rw [← hW, Below.heap_alloc _ _ _ (by simp)]
    have := heap_alloc_new (w.alloc (.cells #[.slice A n c, .slice A2 m c2] 50)) (.cells #[.int .i64 0] 3)
    rwa [World.size_alloc] at this
  have b2 : W1.heap[w.heap.size + 1 + 1]? = some (.cells C1 4) := by
    rw [← hW]
    have := heap_alloc_new ((w.alloc (.cells #[.slice A n c, .slice A2 m c2] 50)).alloc (.cells #[.int .i64 0] 3)) (.cells C1 4)
    rwa [World.size_alloc, World.size_alloc] at this
  have b2' : (((w.alloc (.cells #[.slice A n c, .slice A2 m c2] 50)).alloc (.cells #[.int .i64 0] 3)).alloc (.cells C0 4)).heap[w.heap.size + 1 + 1]? = some (.cells C0 4) := by
    have := heap_alloc_new ((w.alloc (.cells #[.slice A n c, .slice A2 m c2] 50)).alloc (.cells #[.int .i64 0] 3)) (.cells C0 4)
    rwa [World.size_alloc, World.size_alloc] at this
  have x0 : (((w.alloc (.cells #[.slice A n c, .slice A2 m c2] 50)).alloc (.cells #[.int .i64 0] 3)).alloc (.cells C0 4)).cell? ⟨w.heap.size + 1 + 1, 0, none⟩ = some (.bool false) := by
    rw [cell_of_row _ _ _ _ _ _ b2']; exact HC0 0 h0
  have y0 : (((w.alloc (.cells #[.slice A n c, .slice A2 m c2] 50)).alloc (.cells #[.int .i64 0] 3)).alloc (.cells C0 4)).frozen? ⟨w.heap.size + 1 + 1, 0, none⟩ = false := frozen_of_row _ _ _ _ _ b2'
  rw [hW] at hbW
  have HW := Lib.hid hW
  have hO0' : Hid (OrdI w W1 (w.heap.size + 1 + 1) n (.slice (some ⟨w.heap.size + 1, 0, none⟩) 1 1) [0]) :=
    ⟨⟨rfl, .inr ⟨w.heap.size + 1, 1, #[.int .i64 0], rfl, Nat.le_refl _, b1, Nat.le_refl _, by simp [maxLen], rfl, rfl⟩⟩, by simp [Value.ownBlock], C1, b2, hC1s, hC1x⟩
  have HB0 := Lib.hid hbW
  have HH := hide h
  have B0 := Lib.hid b0
  have HS1 := Lib.hid hs1
  clear h hW b0 b1 b2 b2' hbW hi0 hi1 hmk0 hC0 HC0 hCs hv hs1 hC1 hC1s hC1x
  go_enter Try.func78, Try.ntmps78
  go_wp2
  rw [HC1.out, HW.out]
  clear HW x0 y0 hmk HC1
  go_loopw [3, 5] (fun ov kv wr => ∃ k : Nat, kv = .int .i64 k ∧ k ≤ n ∧ Hid (k ≤ (mst (nums rs) k).length) ∧ Hid (OrdI w wr (w.heap.size + 1 + 1) n ov (mst (nums rs) k)) ∧ Below (w.heap.size + 1) W1 wr) (fun _ kv _ => n - (intOf kv).toNat)
  case atStart => exact ⟨0, rfl, Nat.zero_le _, Lib.hid (Nat.zero_le _), hO0', Below.refl _ _⟩
  case round =>
    rename World => wk
    clear hO0'
    obtain ⟨k, rfl, hk, hkl, hO, hbk⟩ := hrel
    have hgood := mst_good HV.out hg0 k
    rw [HLEN.out] at hgood
    have hML := hgood.len
    obtain ⟨oA, oc, hov, hoc, hoA⟩ := own_shape (unhide hO).1
    by_cases hlt : k < (mst (nums rs) k).length
    · have hkn : k < n := by omega
      obtain ⟨M, hM⟩ : ∃ M, mst (nums rs) k = M := ⟨_, rfl⟩
      rw [hM] at hgood hML hlt hov hO
      obtain ⟨l, hl⟩ : ∃ l, M.length = l := ⟨_, rfl⟩
      obtain ⟨s, hs⟩ : ∃ s, M.getD k 0 = s := ⟨_, rfl⟩
      have hsm : s ∈ M := by rw [← hs]; exact mem_getD hlt
      have hsr := hgood.2 s hsm
      have HG := Lib.hid hgood
      have HM := Lib.hid hM
      have HS := Lib.hid hs
      have HSM := Lib.hid hsm
      have HL := Lib.hid hl
      rw [hl] at hov hlt hML
      have k0 : (0 : Int) ≤ (k : Int) := Int.natCast_nonneg _
      have k1 : (k : Int) < (l : Int) := by omega
      clear hM hs hsm hgood hkl hl
      subst hov
      go_wp2
      go_loopw [3, 6] (fun ov cv wr => ∃ q : Nat, cv = .int .i64 q ∧ q ≤ 3 ∧ Hid (OrdI w wr (w.heap.size + 1 + 1) n ov (mIn (nums rs) s q M)) ∧ Below (w.heap.size + 1) W1 wr) (fun _ cv _ => 3 - (intOf cv).toNat)
      case atStart => exact ⟨0, rfl, Nat.zero_le _, hO, hbk⟩
      case round =>
        rename World => wj
        clear hO hbk
        obtain ⟨q, rfl, hq, hO, hbj⟩ := hrel
        by_cases hq3 : q < 3
        · obtain ⟨Mq, hMq⟩ : ∃ Mq, mIn (nums rs) s q M = Mq := ⟨_, rfl⟩
          rw [hMq] at hO
          have hgq : GoodM n Mq := by
            have h1 := mIn_good HV.out (s := s) (by rw [HLEN.out]; exact hsr) (M := M) (by rw [HLEN.out]; exact HG.out) q hq
            rw [HLEN.out, hMq] at h1; exact h1
          have hpre : M <+: Mq := by rw [← hMq]; exact mIn_pre _ _ _ _
          have hll : l ≤ Mq.length := by have := hpre.length_le; have := HL.out; omega
          have hMn := hgq.len
          obtain ⟨oA', oc', hov', hoc', hoA'⟩ := own_shape (unhide hO).1
          obtain ⟨go, rfl⟩ := hoA' (by omega)
          have hko : wj.cell? ⟨go, k, none⟩ = some (.int .i64 s) := by
            have h1 := (unhide hO).1
            rw [hov'] at h1
            rw [h1.cellAt k (by omega), List.getElem?_map]
            have h2 := pre_getD hpre (k := k) (by have := HL.out; omega)
            rw [HS.out] at h2
            rw [List.getD_eq_getElem?_getD, List.getElem?_eq_getElem (by omega)] at h2
            rw [List.getElem?_eq_getElem (by omega)]
            simp at h2
            simp [h2]
          have hRj := (unhide HH).up (HB0.out.trans (hbj.mono (Nat.le_succ _)))
          obtain ⟨i, b, off, b2, off2, cp, z, hsi, hi, rfl, e1, e2, e3, -, -⟩ := step_cells hRj HV.out hsr hq3
          subst hsi
          have hzr : 0 ≤ z ∧ z < (n : Int) := by
            have := nx_in HV.out (s := (i : Int)) (by rw [HLEN.out]; exact hsr) hq3
            rw [HLEN.out, e3] at this; exact this
          obtain ⟨zi, rfl⟩ : ∃ zi : Nat, z = (zi : Int) := ⟨z.toNat, by omega⟩
          have hmm := (unhide hO).2.2.at (show zi < n by omega)
          obtain ⟨m0, m1⟩ := hmm
          have hbx : wj.heap[w.heap.size]? = some (.cells #[.slice (some ⟨b, off, none⟩) n c, .slice A2 m c2] 50) := (hbj.block _ (by omega)).trans B0.out
          have p0 : wj.cell? ⟨w.heap.size, 0, none⟩ = some (.slice (some ⟨b, off, none⟩) n c) := by rw [cell_of_row wj _ 0 _ _ _ hbx]; rfl
          obtain ⟨lq, hlq⟩ : ∃ lq, Mq.length = lq := ⟨_, rfl⟩
          rw [hlq] at hov' hll hMn
          have k2 : (k : Int) < (lq : Int) := by omega
          have i0' : (0 : Int) ≤ (i : Int) := Int.natCast_nonneg _
          have i1' : (i : Int) < (n : Int) := by omega
          have q0 : (0 : Int) ≤ (q : Int) := Int.natCast_nonneg _
          have q1 : (q : Int) < 3 := by omega
          have z0 : (0 : Int) ≤ (zi : Int) := Int.natCast_nonneg _
          have z1 : (zi : Int) < (n : Int) := by omega
          have HNX := Lib.hid (show mIn (nums rs) (i : Int) (q + 1) M = insI Mq (zi : Int) by rw [mIn, hMq, e3])
          have HLQ := Lib.hid hlq
          clear hbx hpre hgq hMq e3 hRj hlq hzr
          subst hov'
          have HQ := hide hO
          by_cases hzm : (zi : Int) ∈ Mq
          · have hdz : decide ((zi : Int) ∈ Mq) = true := decide_eq_true hzm
            rw [hdz] at m0
            have HZM := Lib.hid hzm
            clear hzm hdz
            go_wp2
            go_quiet (fail)
            obtain ⟨wd, hwd⟩ : ∃ wd, wj.drewN nq = wd := ⟨_, rfl⟩
            have m0' : wd.cell? ⟨w.heap.size + 1 + 1, zi, none⟩ = some (.bool true) := by rw [← hwd]; exact m0
            have hOd : Hid (OrdI w wd (w.heap.size + 1 + 1) n (.slice (some ⟨go, 0, none⟩) lq oc') Mq) := by rw [← hwd]; exact hO
            have hbd : Below (w.heap.size + 1) W1 wd := by rw [← hwd]; exact bel_drewN hbj _
            rw [hwd]
            clear hwd m0 m1 hO HQ hbj
            go_wp2
            go_roundw
            case rel => exact ⟨q + 1, by go_num, by omega, Lib.hid (by rw [HNX.out, insI_in HZM.out]; exact unhide hOd), hbd⟩
            case measure => simp [intOf]; omega
          · have hdz : decide ((zi : Int) ∈ Mq) = false := decide_eq_false hzm
            rw [hdz] at m0
            have HZM := Lib.hid hzm
            have hzn : zi < n := by omega
            have HGO := Lib.hid (unhide hO).2.1
            clear hzm hdz
            go_wp2
            go_quiet (fail)
            obtain ⟨wd, hwd⟩ : ∃ wd, wj.drewN nq = wd := ⟨_, rfl⟩
            have m0' : wd.cell? ⟨w.heap.size + 1 + 1, zi, none⟩ = some (.bool false) := by rw [← hwd]; exact m0
            have m1' : wd.frozen? ⟨w.heap.size + 1 + 1, zi, none⟩ = false := by rw [← hwd]; exact m1
            have hOd : Hid (OrdI w wd (w.heap.size + 1 + 1) n (.slice (some ⟨go, 0, none⟩) lq oc') Mq) := by rw [← hwd]; exact hO
            have hbd : Below (w.heap.size + 1) W1 wd := by rw [← hwd]; exact bel_drewN hbj _
            rw [hwd]
            clear hwd m0 m1 hO HQ hbj
            obtain ⟨o1, o2, o3⟩ := unhide hOd
            rw [HLQ.out] at o1
            have hg1 := gr_set wd ⟨w.heap.size + 1 + 1, zi, none⟩ (.bool true)
            have hg2 := World.grownBy_alloc (wd.setCell ⟨w.heap.size + 1 + 1, zi, none⟩ (.bool true)) (.cells #[.int .i64 (zi : Int)] 3) none
            have HO1 := hide ((o1.kept hg1 (.inr o2)).kept hg2 (own_or' _))
            have HM1 := hide ((o3.set hzn).keep hg2 (by simp))
            have hbs : Below (w.heap.size + 1) W1 ((wd.setCell ⟨w.heap.size + 1 + 1, zi, none⟩ (.bool true)).alloc (.cells #[.int .i64 (zi : Int)] 3)) := (hbd.setCell (show w.heap.size + 1 ≤ w.heap.size + 1 + 1 by omega) _).alloc (by rw [size_set]; have := hbd.size; have := HS1.out; omega) _
            have HBS := Lib.hid hbs
            have hws : w.heap.size + 1 + 1 + 1 ≤ wd.heap.size := by have := hbd.size; have := HS1.out; omega
            clear o1 o2 o3 hg1 hg2 hbs
            go_wp2_with (at_builtin; go_must (refine wpList_append_own_at _ rfl (.tmp 44) (.tmp 46) 55 rfl (w.heap.size + 1) 3 ti (.int .i64 0) 1 8 Try.underlying55 (unhide HU) hy0 hy1 hy2 rfl (by decide) (.slice (some ⟨go, 0, none⟩) lq oc') lq (Mq.map (Value.int .i64)) rfl (unhide HO1) ⟨wd.heap.size, 0, none⟩ 1 1 [.int .i64 (zi : Int)] rfl rfl (cell_one_at (size_set _ _ _) _ _) (by simp [Value.oneCell']) (by unfold maxLen; omega) (by omega) (by simp; omega) ?_); go_must (intro v9 w9 hown9 hgrow9 _ hat9))
            go_roundw
            case rel =>
              refine ⟨q + 1, by go_num, by omega, Lib.hid ?_, HBS.out.grown hgrow9 (by simp; omega) (own_block (unhide HO1))⟩
              rw [HNX.out, insI_out HZM.out]
              refine ⟨?_, ?_, (unhide HM1).keep hgrow9 HGO.out⟩
              · rw [List.length_append, List.length_singleton, HLQ.out, List.map_append]
                exact hown9
              · rcases hat9 with e | e
                · rw [e]; exact HGO.out
                · rw [e]; intro e'; injection e' with e'; simp at e'; omega
            case measure => simp [intOf]; omega
        · obtain rfl : q = 3 := by omega
          have HNX := Lib.hid (show mst (nums rs) (k + 1) = mIn (nums rs) s 3 M by rw [mst_in (by rw [HM.out, HL.out]; exact hlt), HM.out, HS.out])
          have hpre : M <+: mIn (nums rs) s 3 M := mIn_pre _ _ _ _
          have HLL := Lib.hid (show k + 1 ≤ (mIn (nums rs) s 3 M).length by have := hpre.length_le; have := HL.out; omega)
          clear hpre
          go_wp2
          go_roundw
          case rel => exact ⟨k + 1, by go_num, by omega, Lib.hid (by rw [HNX.out]; exact HLL.out), Lib.hid (by rw [HNX.out]; exact unhide hO), hbj⟩
          case measure => simp [intOf]; omega
    · have hke : k = (mst (nums rs) k).length := by have := hkl.out; omega
      have hend := mst_end HV.out hg0 hke
      have HR : Hid (wk.ownsRow w.heap.size 3 1 u3 (ord (nums rs)).length ((ord (nums rs)).map (Value.int .i64))) := by
        show wk.ownsRow w.heap.size 3 1 u3 (ord (nums rs)).length ((ord (nums rs)).map (Value.int .i64))
        rw [hend]
        exact own_base (unhide hO).1 (Nat.le_succ _)
      have hbb : Below w.heap.size w wk := HB0.out.trans (hbk.mono (Nat.le_succ _))
      obtain ⟨l, hl⟩ : ∃ l, (mst (nums rs) k).length = l := ⟨_, rfl⟩
      rw [hl] at hov hke
      clear hO hend hkl hML hgood hl hlt hoA
      subst hov
      subst hke
      go_wp2
      go_ret
      exact ⟨hbb, _, rfl, unhide HR⟩
end Go.Proofs.Ytcphbncgkemdoaa
