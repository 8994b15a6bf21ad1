/-
  Automata in memory: slices of slices; the laws' own functions on them.
-/
import Derived.Test.YtcphbncgkemdoaaCells
import Derived.Deep.RegionHeld3
import Derived.Deep.RegionWith
namespace Go.Proofs.Ytcphbncgkemdoaa
open Go.RowKit
set_option linter.unusedVariables false
set_option maxRecDepth 100000

/-- A row of an automaton: a slice, with what it reads as. -/
abbrev RowV := Option Addr × Nat × Nat × List Int
abbrev slV (r : RowV) : Value := .slice r.1 r.2.1 r.2.2.1
/-- A slice of rows. -/
def RS (w : World) (B : Nat) (A : Option Addr) (n : Nat) (rs : List RowV) : Prop :=
  VS w B A n (rs.map slV) ∧ ∀ r ∈ rs, VS w B r.1 r.2.1 (r.2.2.2.map (Value.int .i64)) ∧ r.2.1 ≤ r.2.2.1 ∧ r.2.2.1 ≤ maxLen
theorem RS.up {w w' : World} {A : Option Addr} {n : Nat} {rs : List RowV} (h : RS w w.heap.size A n rs) (hb : Below w.heap.size w w') : RS w' w'.heap.size A n rs :=
  ⟨h.1.up hb, fun r hr => ⟨(h.2 r hr).1.up hb, (h.2 r hr).2⟩⟩
theorem VS.high {w w' : World} {B B' base : Nat} {A : Option Addr} {n : Nat} {vs : List Value} (h : VS w B A n vs) (hB : B ≤ B') (hge : ∀ b o, A = some ⟨b, o, none⟩ → base ≤ b) (hk : ∀ b o, base ≤ b → b < B → w'.cell? ⟨b, o, none⟩ = w.cell? ⟨b, o, none⟩) : VS w' B' A n vs := by
  refine ⟨h.1, fun hn => ?_⟩
  obtain ⟨b, off, e1, hb, hc⟩ := h.2 hn
  exact ⟨b, off, e1, by omega, fun i v hi => by rw [hk _ _ (hge _ _ e1) hb]; exact hc i v hi⟩
theorem RS.high {w w' : World} {B B' base : Nat} {A : Option Addr} {n : Nat} {rs : List RowV} (h : RS w B A n rs) (hB : B ≤ B') (hge : ∀ b o, A = some ⟨b, o, none⟩ → base ≤ b) (hge2 : ∀ r ∈ rs, ∀ b o, r.1 = some ⟨b, o, none⟩ → base ≤ b) (hk : ∀ b o, base ≤ b → b < B → w'.cell? ⟨b, o, none⟩ = w.cell? ⟨b, o, none⟩) : RS w' B' A n rs :=
  ⟨h.1.high hB hge hk, fun r hr => ⟨(h.2 r hr).1.high hB (hge2 r hr) hk, (h.2 r hr).2⟩⟩
theorem RS.len {w : World} {B : Nat} {A : Option Addr} {n : Nat} {rs : List RowV} (h : RS w B A n rs) : rs.length = n := by have := h.1.1; rwa [List.length_map] at this
theorem RS.at {w : World} {A : Option Addr} {n : Nat} {rs : List RowV} (h : RS w w.heap.size A n rs) {i : Nat} (hi : i < n) :
    ∃ b off A' m c zs, A = some ⟨b, off, none⟩ ∧ b < w.heap.size ∧ rs[i]? = some (A', m, c, zs) ∧ w.cell? ⟨b, off + i, none⟩ = some (.slice A' m c) ∧ VS w w.heap.size A' m (zs.map (Value.int .i64)) ∧ zs.length = m ∧ m ≤ c ∧ c ≤ maxLen := by
  obtain ⟨b, off, v, e1, hb, he, hc⟩ := h.1.at hi
  rw [List.getElem?_map] at he
  cases hr : rs[i]? with
  | none => rw [hr] at he; cases he
  | some r =>
    rw [hr] at he
    injection he with he
    obtain ⟨A', m, c, zs⟩ := r
    obtain ⟨h1, h2, h3⟩ := h.2 _ (List.mem_of_getElem? hr)
    have hl := h1.1
    rw [List.length_map] at hl
    exact ⟨b, off, A', m, c, zs, e1, hb, rfl, by rw [hc, ← he], h1, hl, h2, h3⟩
/-- The numbers of some rows. -/
def nums (rs : List RowV) : List (List Int) := rs.map fun r => r.2.2.2
/-- No row is longer than told. -/
def LeAll (rs : List RowV) (left : Int) : Prop := ∀ r ∈ rs, (r.2.1 : Int) ≤ left
def SzD (n : Nat) (rs : List RowV) (left : Int) (w : World) (r : Ending) (w' : World) : Prop := w = w' ∧ ∃ z : Int, r = .returned (.int .i64 z) ∧ (z = -1 ∨ (0 ≤ z ∧ z ≤ left ∧ (n : Int) ≤ left ∧ LeAll rs left))
set_option maxHeartbeats 2000000 in
theorem szIntSS_any (w : World) (A : Option Addr) (n c : Nat) (rs : List RowV) (left : Int) (h : RS w w.heap.size A n rs) (hn : n ≤ 9223372036854775807) (hm : ∀ r ∈ rs, r.2.1 ≤ 9223372036854775807) (h0 : 0 ≤ left) (h1 : left ≤ 1048576) :
    Calls Try.prog 60 #[.slice A n c, .int .i64 left] w (SzD n rs left w) := by
  have HH := hide h
  have HM := Lib.hid hm
  clear h hm
  by_cases hlt : left < (n : Int)
  · have h' : left - (n : Int) < 0 := by omega
    go_enter Try.func60, Try.ntmps60
    go_wp2
    go_ret
    exact ⟨rfl, -1, rfl, .inl rfl⟩
  · have h' : ¬ left - (n : Int) < 0 := by omega
    go_enter Try.func60, Try.ntmps60
    go_wp2
    go_loop [1, 5] (fun lv i => ∃ (k : Nat) (z : Int), i = .int .i64 k ∧ lv = .int .i64 z ∧ k ≤ n ∧ 0 ≤ z ∧ z ≤ left ∧ Hid (∀ j r, j < k → rs[j]? = some r → (r.2.1 : Int) ≤ left)) (fun _ i => n - (intOf i).toNat)
    case atStart => exact ⟨0, left - (n : Int), rfl, rfl, Nat.zero_le _, by omega, by omega, Lib.hid (fun j r hj => absurd hj (by omega))⟩
    case round =>
      obtain ⟨i, z, rfl, rfl, hi, z0, z1, hA⟩ := hrel
      by_cases hin : i < n
      · obtain ⟨b, off, A', m, c', zs, rfl, hb, hr, hc0, hv, hl, hmc, hcm⟩ := (unhide HH).at hin
        have hmb := HM.out _ (List.mem_of_getElem? hr)
        have HR := Lib.hid hr
        clear hr
        have hm0 : m ≤ 9223372036854775807 := hmb
        by_cases hzm : z < (m : Int)
        · go_wp2_with (first | (go_at_call 69; refine (szIntS_any _ _ _ _ _ hm0 z0 (by omega)).mono ?_; rintro r w1 ⟨rfl, rfl⟩; rw [if_pos hzm]))
          go_ret
          exact ⟨rfl, -1, rfl, .inl rfl⟩
        · have hz2 : ¬ z - (m : Int) < 0 := by omega
          go_wp2_with (first | (go_at_call 69; refine (szIntS_any _ _ _ _ _ hm0 z0 (by omega)).mono ?_; rintro r w1 ⟨rfl, rfl⟩; rw [if_neg hzm]))
          go_round
          case rel =>
            refine ⟨i + 1, z - (m : Int), by go_num, rfl, by omega, by omega, by omega, Lib.hid fun j r hj hr => ?_⟩
            by_cases hji : j = i
            · subst hji
              rw [HR.out] at hr
              injection hr with hr
              subst hr
              show (m : Int) ≤ left
              omega
            · exact hA.out j r (by omega) hr
          case measure => simp [intOf]; omega
      · obtain rfl : i = n := by omega
        go_wp2
        go_ret
        refine ⟨rfl, z, rfl, .inr ⟨z0, z1, by omega, fun r hr => ?_⟩⟩
        obtain ⟨j, hj, he⟩ := List.mem_iff_getElem.1 hr
        exact hA.out j r (by have := (unhide HH).len; omega) (by rw [List.getElem?_eq_getElem hj, he])
/-- What a copy of rows leaves. -/
def CopyR (w : World) (n : Nat) (rs : List RowV) (r : Ending) (w' : World) : Prop :=
  ∃ rs' : List RowV, r = .returned (.slice (some ⟨w.heap.size, 0, none⟩) n n) ∧ nums rs' = nums rs ∧ (∀ r ∈ rs', r.2.1 ≤ 1048576) ∧ RS w' w'.heap.size (some ⟨w.heap.size, 0, none⟩) n rs' ∧ (∀ r ∈ rs', ∀ b o, r.1 = some ⟨b, o, none⟩ → w.heap.size < b) ∧ Below w.heap.size w w'
theorem ints_info : (Try.prog.info? 55).map (fun i => (i.zero, i.size, i.bytes)) = some (some (.slice none 0 0), 1, 24) := by kernel_rfl
set_option maxHeartbeats 2000000 in
theorem toIntSS_any (w : World) (A : Option Addr) (n c : Nat) (rs : List RowV) (h : RS w w.heap.size A n rs) (hn : n ≤ 1048576) (hm : ∀ r ∈ rs, r.2.1 ≤ 1048576) :
    Calls Try.prog 62 #[.slice A n c] w (CopyR w n rs) := by
  obtain ⟨i0, hi0, hz0, hz1, hz2⟩ := info_parts ints_info
  have hmk := fun W => run_make_rowN (P := Try.prog) 44 55 i0 (.slice none 0 0) Try.underlying44 hi0 hz0 .i64 .i64 n n (Nat.le_refl _) (by rw [hz2]; omega) (by omega) W
  have HL := Lib.hid h.len
  have HN := hide h
  have HM := Lib.hid hm
  clear h hm
  go_enter Try.func62, Try.ntmps62
  go_wp2
  clear hmk
  go_loopw [4] (fun i wr => ∃ (k : Nat) (rs' : List RowV), i = .int .i64 k ∧ k ≤ n ∧ rs'.length = k ∧ Hid (FillV wr w.heap.size n 55 (rs'.map slV)) ∧ Hid (nums rs' = (nums rs).take k) ∧ Hid (∀ r ∈ rs', VS wr wr.heap.size r.1 r.2.1 (r.2.2.2.map (Value.int .i64)) ∧ r.2.1 ≤ r.2.2.1 ∧ r.2.2.1 ≤ maxLen ∧ r.2.1 ≤ 1048576 ∧ ∀ b o, r.1 = some ⟨b, o, none⟩ → w.heap.size < b) ∧ Below w.heap.size w wr) (fun i _ => n - (intOf i).toNat)
  case atStart =>
    exact ⟨0, [], rfl, Nat.zero_le _, rfl, Lib.hid ⟨_, heap_alloc_new w _, by simp [madeCells], rfl⟩, Lib.hid rfl, Lib.hid (fun r hr => nomatch hr), (Below.refl _ _).alloc (Nat.le_refl _) _⟩
  case round =>
    obtain ⟨i, rs', rfl, hi, hl', hF, hnm, hall, hb⟩ := hrel
    by_cases hlt : i < n
    · obtain ⟨b, off, A', m, c', zs, rfl, hbB, hr, hc0, hv, hzl, hmc, hcm⟩ := ((unhide HN).up hb).at hlt
      have hm0 : m ≤ 1048576 := HM.out _ (List.mem_of_getElem? hr)
      have HR := Lib.hid hr
      have HV := hide hv
      have hz := hb.size
      obtain ⟨cur, f1, f2, f3⟩ := hF.out
      have F1 := Lib.hid f1
      have F2 := Lib.hid f2
      have F3 := Lib.hid f3
      have hwz : w.heap.size < wr.heap.size := (Array.getElem?_eq_some_iff.1 f1).1
      have HL' := Lib.hid hl'
      have HZL := Lib.hid hzl
      clear hr hv f1 f3 hl' hzl
      go_wp2_with fail
      refine (toIntS_any wr A' m c' zs (unhide HV) hm0).mono ?_
      rintro r w1 ⟨rfl, hown1, hvs1, hb1⟩
      have f1' : w1.heap[w.heap.size]? = some (.cells cur 55 (0, 0)) := (hb1.block _ hwz).trans F1.out
      have o0 : w1.cell? ⟨w.heap.size, i, none⟩ = some (cur[i]'(by omega)) := by
        rw [cell_of_row w1 _ _ _ _ _ f1']; exact Array.getElem?_eq_getElem (by omega)
      have p0 : w1.frozen? ⟨w.heap.size, i, none⟩ = false := by simp [World.frozen?, f1']
      have FF := Lib.hid f1'
      have HV1 := hide hvs1
      clear f1' hown1 hvs1
      generalize cur[i]'_ = v0 at o0
      clear f2
      have hz1 := hb1.size
      go_wp2
      go_roundw
      case rel =>
        have hcs := F2.out
        have hel := HL'.out
        refine ⟨i + 1, rs' ++ [(some ⟨wr.heap.size, 0, none⟩, m, m, zs)], by go_num, by omega, by simp; exact hel, Lib.hid ⟨cur.setIfInBounds i (.slice (some ⟨wr.heap.size, 0, none⟩) m m), heap_set FF.out _ _, by simp; exact hcs, ?_⟩, Lib.hid ?_, Lib.hid ?_, (hb.trans (hb1.mono hb.size)).setCell (Nat.le_refl _) _⟩
        · rw [List.map_append]
          exact take_set1 (by rw [List.length_map]; exact hel) (by omega) F3.out
        · have h1 := hnm.out
          unfold nums at h1 ⊢
          rw [List.map_append, h1]
          have h2 : (rs.map fun r => r.2.2.2)[i]? = some zs := by rw [List.getElem?_map, HR.out]; rfl
          obtain ⟨p1, p2⟩ := List.getElem?_eq_some_iff.1 h2
          rw [List.take_succ_eq_append_getElem p1, p2]
          rfl
        · intro r hr
          have keepc : ∀ b o, b ≠ w.heap.size → (w1.setCell ⟨w.heap.size, i, none⟩ (.slice (some ⟨wr.heap.size, 0, none⟩) m m)).cell? ⟨b, o, none⟩ = w1.cell? ⟨b, o, none⟩ := fun b o hne => World.cell?_setCell_other w1 ⟨w.heap.size, i, none⟩ ⟨b, o, none⟩ _ (by intro e; injection e with e1; exact hne e1.symm)
          have lift : ∀ (A0 : Option Addr) (m0 : Nat) (vs0 : List Value), VS w1 w1.heap.size A0 m0 vs0 → (∀ b o, A0 = some ⟨b, o, none⟩ → b ≠ w.heap.size) → VS (w1.setCell ⟨w.heap.size, i, none⟩ (.slice (some ⟨wr.heap.size, 0, none⟩) m m)) (w1.setCell ⟨w.heap.size, i, none⟩ (.slice (some ⟨wr.heap.size, 0, none⟩) m m)).heap.size A0 m0 vs0 := fun A0 m0 vs0 hv0 hne0 => by
            refine ⟨hv0.1, fun h0 => ?_⟩
            obtain ⟨b0, off0, e0, hb0, hc0⟩ := hv0.2 h0
            exact ⟨b0, off0, e0, by rw [size_set]; exact hb0, fun j v hj => by rw [keepc _ _ (hne0 _ _ e0)]; exact hc0 j v hj⟩
          rcases List.mem_append.1 hr with hr | hr
          · obtain ⟨q1, q2, q3, q4, q5⟩ := hall.out r hr
            exact ⟨lift _ _ _ (q1.up hb1) (fun b o e => Nat.ne_of_gt (q5 b o e)), q2, q3, q4, q5⟩
          · simp at hr
            subst hr
            refine ⟨lift _ _ _ (unhide HV1) (fun b o e => by injection e with e; injection e with e1; omega), Nat.le_refl _, by show m ≤ _; unfold maxLen; omega, hm0, fun b o e => by injection e with e; injection e with e1; omega⟩
      case measure => simp [intOf]; omega
    · obtain rfl : i = n := by omega
      have hel := hl'
      have hN : nums rs' = nums rs := by
        have := hnm.out
        rw [List.take_of_length_le (by unfold nums; rw [List.length_map]; have := HL.out; omega)] at this
        exact this
      go_wp2
      go_ret
      exact ⟨rs', rfl, hN, fun r hr => (hall.out r hr).2.2.2.1, ⟨hF.out.vs (by rw [List.length_map]; exact hel), fun r hr => by obtain ⟨q1, q2, q3, -, -⟩ := hall.out r hr; exact ⟨q1, q2, q3⟩⟩, fun r hr => (hall.out r hr).2.2.2.2, hb⟩
theorem decide_take {zs ys : List (List Int)} {i : Nat} {z y : List Int} (hz : zs[i]? = some z) (hy : ys[i]? = some y) (h : zs.take i = ys.take i) : (zs.take (i + 1) = ys.take (i + 1)) ↔ z = y := by
  obtain ⟨p1, p2⟩ := List.getElem?_eq_some_iff.1 hz
  obtain ⟨q1, q2⟩ := List.getElem?_eq_some_iff.1 hy
  rw [List.take_succ_eq_append_getElem p1, List.take_succ_eq_append_getElem q1, h, p2, q2]
  simp
set_option maxHeartbeats 2000000 in
theorem eqIntSS_any (w : World) (A A2 : Option Addr) (n c c2 : Nat) (rs qs : List RowV) (h : RS w w.heap.size A n rs) (h2 : RS w w.heap.size A2 n qs) (hn : n ≤ 1048576) (hm : ∀ r ∈ rs, r.2.1 ≤ 1048576) (hm2 : ∀ r ∈ qs, r.2.1 ≤ 1048576) (he : nums rs = nums qs) :
    Calls Try.prog 66 #[.slice A n c, .slice A2 n c2] w fun r w' => r = .returned (.bool true) ∧ Below w.heap.size w w' := by
  have HL := Lib.hid h.len
  have HN := hide h
  have HN2 := hide h2
  have HM := Lib.hid hm
  have HM2 := Lib.hid hm2
  have HE := Lib.hid he
  clear h h2 hm hm2 he
  go_enter Try.func66, Try.ntmps66
  go_wp2
  go_loopw [5] (fun i wr => ∃ k : Nat, i = .int .i64 k ∧ k ≤ n ∧ Below w.heap.size w wr) (fun i _ => n - (intOf i).toNat)
  case atStart => exact ⟨0, rfl, Nat.zero_le _, Below.refl _ _⟩
  case round =>
    obtain ⟨i, rfl, hi, hb⟩ := hrel
    by_cases hlt : i < n
    · obtain ⟨b, off, A', m, c', zs, rfl, hbB, hr, hc0, hv, hzl, hmc, hcm⟩ := ((unhide HN).up hb).at hlt
      obtain ⟨b2, off2, A2', m2, c2', ys, rfl, hbB2, hr2, hc2, hv2, hyl, -, -⟩ := ((unhide HN2).up hb).at hlt
      have hm0 : m ≤ 1048576 := HM.out _ (List.mem_of_getElem? hr)
      have hm20 : m2 ≤ 1048576 := HM2.out _ (List.mem_of_getElem? hr2)
      have hzy : zs = ys := by
        have h1 : (nums rs)[i]? = some zs := by unfold nums; rw [List.getElem?_map, hr]; rfl
        have h2 : (nums qs)[i]? = some ys := by unfold nums; rw [List.getElem?_map, hr2]; rfl
        rw [HE.out, h2] at h1
        injection h1 with h1
        exact h1.symm
      subst hzy
      have HV := hide hv
      have HV2 := hide hv2
      have hzs := hb.size
      have i0 : (0 : Int) ≤ (i : Int) := Int.natCast_nonneg _
      have hd0 : wr.drew.cell? ⟨b, off + i, none⟩ = some (.slice A' m c') := hc0
      have hd2 : wr.drew.cell? ⟨b2, off2 + i, none⟩ = some (.slice A2' m2 c2') := hc2
      have HVd : Hid (VS wr.drew wr.drew.heap.size A' m (zs.map (Value.int .i64))) := unhide HV
      have HVd2 : Hid (VS wr.drew wr.drew.heap.size A2' m2 (zs.map (Value.int .i64))) := unhide HV2
      clear hr hr2 hv hv2 hzl hyl
      go_wp2
      go_region_held3 (fun w' => w'.cell? ⟨b, off + i, none⟩ = some (.slice A' m c') ∧ w'.cell? ⟨b2, off2 + i, none⟩ = some (.slice A2' m2 c2'))
        (first | (exact ⟨hd0, hd2⟩) | (exact ⟨(hb1.cell (p := ⟨b, off + i, none⟩) hbB).trans hd0, (hb1.cell (p := ⟨b2, off2 + i, none⟩) hbB2).trans hd2⟩))
        (first
          | (go_at_call 77; (with_reducible refine (eqIntS_any _ A' A2' m c' m2 c2' zs zs (unhide HVd) (unhide HVd2) hm0 hm20).mono ?_); rintro r w1 ⟨rfl, hb1⟩; rw [show decide (zs = zs) = true by simp]))
      all_goals
        go_wp2
        go_roundw
      case rel => exact ⟨i + 1, by go_num, by omega, hb.drew.trans (hb1.mono hb.drew.size)⟩
      case measure => simp [intOf]; omega
    · obtain rfl : i = n := by omega
      go_wp2
      go_ret
      exact ⟨rfl, hb⟩
end Go.Proofs.Ytcphbncgkemdoaa
