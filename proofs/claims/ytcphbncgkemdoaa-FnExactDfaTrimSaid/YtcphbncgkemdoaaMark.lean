/-
  The marks that a law writes into an automaton and looks for.
-/
import Derived.Test.YtcphbncgkemdoaaTrimF
namespace Go.Proofs.Ytcphbncgkemdoaa
open Go.RowKit
set_option linter.unusedVariables false
set_option maxRecDepth 100000

/-- The numbers from k on. -/
def iMarks (k : Int) (n : Nat) : List Int := (List.range n).map fun i : Nat => k + (i : Int)
def bM (k : Int) : Bool := k % 3 == 0
def bMarks (k : Int) (n : Nat) : List Bool := (List.range n).map fun i : Nat => bM (k + (i : Int))
theorem iMarks_len (k : Int) (n : Nat) : (iMarks k n).length = n := by simp [iMarks]
theorem bMarks_len (k : Int) (n : Nat) : (bMarks k n).length = n := by simp [bMarks]
theorem iMarks_snoc (k : Int) (n : Nat) : iMarks k (n + 1) = iMarks k n ++ [k + (n : Int)] := range_snoc _ _
theorem bMarks_snoc (k : Int) (n : Nat) : bMarks k (n + 1) = bMarks k n ++ [bM (k + (n : Int))] := range_snoc _ _
theorem iMarks_at (k : Int) (n i : Nat) (h : i < n) : (iMarks k n)[i]? = some (k + (i : Int)) := by simp [iMarks, h]
theorem bMarks_at (k : Int) (n i : Nat) (h : i < n) : (bMarks k n)[i]? = some (bM (k + (i : Int))) := by simp [bMarks, h]
theorem set_up {α : Type} {a b : List α} {i : Nat} {x : α} (ha : a.length = i) (hb : i < b.length) : (a ++ b.drop i).set i x = (a ++ [x]) ++ b.drop (i + 1) := by
  subst ha
  rw [List.set_append_right _ _ (Nat.le_refl _), Nat.sub_self, List.drop_eq_getElem_cons hb, List.set_cons_zero, List.append_assoc]; rfl
theorem gr_trans {w w1 w2 : World} {row : Option Nat} (h : w.grownBy w1 row) (k : w1.grownBy w2 row) : w.grownBy w2 row :=
  ⟨k.os.trans h.os, k.tape.trans h.tape, k.output.trans h.output, Nat.le_trans h.size k.size, fun b hb hr => (k.block b (Nat.lt_of_lt_of_le hb h.size) hr).trans (h.block b hb hr)⟩
def MarkI (w : World) (base : Nat) (v : Value) (n : Nat) (k : Int) (r : Ending) (w' : World) : Prop :=
  r = .returned (.int .i64 (k + (n : Int))) ∧ w'.ownsRow base 3 1 v n ((iMarks k n).map (Value.int .i64)) ∧ w.grownBy w' v.ownBlock
def MarkB (w : World) (base : Nat) (v : Value) (n : Nat) (k : Int) (r : Ending) (w' : World) : Prop :=
  r = .returned (.int .i64 (k + (n : Int))) ∧ w'.ownsRow base 4 1 v n ((bMarks k n).map Value.bool) ∧ w.grownBy w' v.ownBlock
set_option maxHeartbeats 1000000 in
theorem markIntS_any (w : World) (base : Nat) (v : Value) (n : Nat) (zs : List Int) (k : Int) (h : w.ownsRow base 3 1 v n (zs.map (Value.int .i64))) (hn : n ≤ 1048576) (hk0 : 0 ≤ k) (hk1 : k ≤ 2199023255552) :
    Calls Try.prog 92 #[v, .int .i64 k] w (MarkI w base v n k) := by
  have hl : zs.length = n := by have := h.1; rw [List.length_map] at this; omega
  obtain ⟨A, c, rfl, hc, hA⟩ := own_shape h
  have HO := hide h
  have HL := Lib.hid hl
  have HA := hide hA
  clear h hl hA
  go_enter Try.func92, Try.ntmps92
  go_wp2
  go_loopw [1, 5] (fun kv i wr => ∃ j : Nat, i = .int .i64 j ∧ kv = .int .i64 (k + (j : Int)) ∧ j ≤ n ∧ Hid (wr.ownsRow base 3 1 (.slice A n c) n ((iMarks k j ++ zs.drop j).map (Value.int .i64))) ∧ w.grownBy wr (Value.slice A n c).ownBlock) (fun _ i _ => n - (intOf i).toNat)
  case atStart => exact ⟨0, rfl, by simp, Nat.zero_le _, Lib.hid (by simpa [iMarks] using unhide HO), World.grownBy.refl w _⟩
  case round =>
    obtain ⟨j, rfl, rfl, hj, hO, hg⟩ := hrel
    by_cases hlt : j < n
    · obtain ⟨g, rfl⟩ := (unhide HA) (by omega)
      have hO1 := unhide hO
      have hlen : ((iMarks k j ++ zs.drop j).map (Value.int .i64)).length = n := by rw [List.length_map, List.length_append, iMarks_len, List.length_drop]; have := HL.out; omega
      obtain ⟨v0, h0⟩ : ∃ v0, wr.cell? ⟨g, j, none⟩ = some v0 := ⟨((iMarks k j ++ zs.drop j).map (Value.int .i64))[j]'(by omega), by rw [hO1.cellAt _ (by omega)]; exact List.getElem?_eq_getElem (by omega)⟩
      have f0 := hO1.frozenAt j
      have hO2 := hO1.stored j (.int .i64 (k + (j : Int)))
      rw [show ((iMarks k j ++ zs.drop j).map (Value.int .i64)).set j (.int .i64 (k + (j : Int))) = (iMarks k (j + 1) ++ zs.drop (j + 1)).map (Value.int .i64) by
        rw [← List.map_set, set_up (iMarks_len k j) (by have := HL.out; omega), iMarks_snoc]] at hO2
      have H2 := hide hO2.1
      have HG := hide (gr_trans hg hO2.2)
      clear hO1 hlen hO2 hO
      go_wp2
      go_roundw
      case rel => exact ⟨j + 1, by go_num, by first | rfl | go_num | (congr 1; omega), by omega, H2, unhide HG⟩
      case measure => simp [intOf]; omega
    · obtain rfl : j = n := by omega
      have HF := Lib.hid (show iMarks k j ++ zs.drop j = iMarks k j by rw [List.drop_eq_nil_of_le (by rw [HL.out]; exact Nat.le_refl _), List.append_nil])
      go_wp2
      go_ret
      refine ⟨rfl, ?_, hg⟩
      have := unhide hO
      rw [HF.out] at this
      exact this
set_option maxHeartbeats 1000000 in
theorem markBoolS_any (w : World) (base : Nat) (v : Value) (n : Nat) (zs : List Bool) (k : Int) (h : w.ownsRow base 4 1 v n (zs.map Value.bool)) (hn : n ≤ 1048576) (hk0 : 0 ≤ k) (hk1 : k ≤ 2199023255552) :
    Calls Try.prog 82 #[v, .int .i64 k] w (MarkB w base v n k) := by
  have hl : zs.length = n := by have := h.1; rw [List.length_map] at this; omega
  obtain ⟨A, c, rfl, hc, hA⟩ := own_shape h
  have HO := hide h
  have HL := Lib.hid hl
  have HA := hide hA
  clear h hl hA
  go_enter Try.func82, Try.ntmps82
  go_wp2
  go_loopw [1, 5] (fun kv i wr => ∃ j : Nat, i = .int .i64 j ∧ kv = .int .i64 (k + (j : Int)) ∧ j ≤ n ∧ Hid (wr.ownsRow base 4 1 (.slice A n c) n ((bMarks k j ++ zs.drop j).map Value.bool)) ∧ w.grownBy wr (Value.slice A n c).ownBlock) (fun _ i _ => n - (intOf i).toNat)
  case atStart => exact ⟨0, rfl, by simp, Nat.zero_le _, Lib.hid (by simpa [bMarks] using unhide HO), World.grownBy.refl w _⟩
  case round =>
    obtain ⟨j, rfl, rfl, hj, hO, hg⟩ := hrel
    by_cases hlt : j < n
    · obtain ⟨g, rfl⟩ := (unhide HA) (by omega)
      have hO1 := unhide hO
      have hlen : ((bMarks k j ++ zs.drop j).map Value.bool).length = n := by rw [List.length_map, List.length_append, bMarks_len, List.length_drop]; have := HL.out; omega
      obtain ⟨v0, h0⟩ : ∃ v0, wr.cell? ⟨g, j, none⟩ = some v0 := ⟨((bMarks k j ++ zs.drop j).map Value.bool)[j]'(by omega), by rw [hO1.cellAt _ (by omega)]; exact List.getElem?_eq_getElem (by omega)⟩
      have f0 := hO1.frozenAt j
      have hO2 := hO1.stored j (.bool (bM (k + (j : Int))))
      rw [show ((bMarks k j ++ zs.drop j).map Value.bool).set j (.bool (bM (k + (j : Int)))) = (bMarks k (j + 1) ++ zs.drop (j + 1)).map Value.bool by
        rw [← List.map_set, set_up (bMarks_len k j) (by have := HL.out; omega), bMarks_snoc]] at hO2
      have H2 := hide hO2.1
      have HG := hide (gr_trans hg hO2.2)
      clear hO1 hlen hO2 hO
      go_wp2
      go_roundw
      case rel => exact ⟨j + 1, by go_num, by first | rfl | go_num | (congr 1; omega), by omega, H2, unhide HG⟩
      case measure => simp [intOf]; omega
    · obtain rfl : j = n := by omega
      have HF := Lib.hid (show bMarks k j ++ zs.drop j = bMarks k j by rw [List.drop_eq_nil_of_le (by rw [HL.out]; exact Nat.le_refl _), List.append_nil])
      go_wp2
      go_ret
      refine ⟨rfl, ?_, hg⟩
      have := unhide hO
      rw [HF.out] at this
      exact this
set_option maxHeartbeats 1000000 in
theorem heldIntS_any (w : World) (A : Option Addr) (n c : Nat) (k : Int) (h : VS w w.heap.size A n ((iMarks k n).map (Value.int .i64))) (hn : n ≤ 1048576) (hk0 : 0 ≤ k) (hk1 : k ≤ 2199023255552) :
    Calls Try.prog 93 #[.slice A n c, .int .i64 k] w fun r w' => r = .returned (.int .i64 (k + (n : Int))) ∧ w = w' := by
  have HH := hide h
  clear h
  go_enter Try.func93, Try.ntmps93
  go_wp2
  go_loop [1, 5] (fun kv i => ∃ j : Nat, i = .int .i64 j ∧ kv = .int .i64 (k + (j : Int)) ∧ j ≤ n) (fun _ i => n - (intOf i).toNat)
  case atStart => exact ⟨0, rfl, by simp, Nat.zero_le _⟩
  case round =>
    obtain ⟨j, rfl, rfl, hj⟩ := hrel
    by_cases hlt : j < n
    · obtain ⟨b, off, z, rfl, hb, hz, hc0⟩ := intsV_at (unhide HH) hlt
      rw [iMarks_at k n j hlt] at hz
      injection hz with hz
      subst hz
      go_wp2
      go_round
      case rel => exact ⟨j + 1, by go_num, by first | rfl | go_num | (congr 1; omega), by omega⟩
      case measure => simp [intOf]; omega
    · obtain rfl : j = n := by omega
      go_wp2
      go_ret
      exact ⟨rfl, rfl⟩
theorem boolsV_at {w : World} {B : Nat} {A : Option Addr} {n : Nat} {zs : List Bool} (h : VS w B A n (zs.map Value.bool)) {i : Nat} (hi : i < n) :
    ∃ b off z, A = some ⟨b, off, none⟩ ∧ b < B ∧ zs[i]? = some z ∧ w.cell? ⟨b, off + i, none⟩ = some (.bool z) := by
  obtain ⟨b, off, v, e, hb, hzq, hc⟩ := h.at hi
  rw [List.getElem?_map] at hzq
  cases hzz : zs[i]? with
  | none => rw [hzz] at hzq; cases hzq
  | some z => rw [hzz] at hzq; injection hzq with hzq; exact ⟨b, off, z, e, hb, rfl, by rw [hc, ← hzq]⟩
set_option maxHeartbeats 1000000 in
theorem heldBoolS_any (w : World) (A : Option Addr) (n c : Nat) (k : Int) (h : VS w w.heap.size A n ((bMarks k n).map Value.bool)) (hn : n ≤ 1048576) (hk0 : 0 ≤ k) (hk1 : k ≤ 2199023255552) :
    Calls Try.prog 84 #[.slice A n c, .int .i64 k] w fun r w' => r = .returned (.int .i64 (k + (n : Int))) ∧ w = w' := by
  have HH := hide h
  clear h
  go_enter Try.func84, Try.ntmps84
  go_wp2
  go_loop [1, 5] (fun kv i => ∃ j : Nat, i = .int .i64 j ∧ kv = .int .i64 (k + (j : Int)) ∧ j ≤ n) (fun _ i => n - (intOf i).toNat)
  case atStart => exact ⟨0, rfl, by simp, Nat.zero_le _⟩
  case round =>
    obtain ⟨j, rfl, rfl, hj⟩ := hrel
    by_cases hlt : j < n
    · obtain ⟨b, off, z, rfl, hb, hz, hc0⟩ := boolsV_at (unhide HH) hlt
      rw [bMarks_at k n j hlt] at hz
      injection hz with hz
      have hzz : ((k + (j : Int)) % 3 == 0) = z := hz
      rcases z with _ | _
      · have hnz : ¬ (k + (j : Int)) % 3 = 0 := by simpa using hzz
        go_wp2
        go_round
        case rel => exact ⟨j + 1, by go_num, by first | rfl | go_num | (congr 1; omega), by omega⟩
        case measure => simp [intOf]; omega
      · have hnz : (k + (j : Int)) % 3 = 0 := by simpa using hzz
        go_wp2
        go_round
        case rel => exact ⟨j + 1, by go_num, by first | rfl | go_num | (congr 1; omega), by omega⟩
        case measure => simp [intOf]; omega
    · obtain rfl : j = n := by omega
      go_wp2
      go_ret
      exact ⟨rfl, rfl⟩
/-- Blocks of roles below p stay. -/
def Tn (f : Nat → Nat) (p : Nat) (w w' : World) : Prop := w'.os = w.os ∧ w'.tape = w.tape ∧ w'.output = w.output ∧ w.heap.size ≤ w'.heap.size ∧ ∀ b, b < w.heap.size → f b < p → w'.heap[b]? = w.heap[b]?
theorem Tn.refl (f : Nat → Nat) (p : Nat) (w : World) : Tn f p w w := ⟨rfl, rfl, rfl, Nat.le_refl _, fun _ _ _ => rfl⟩
theorem Tn.grown {f : Nat → Nat} {p : Nat} {w w1 w2 : World} {row : Option Nat} (h : Tn f p w w1) (hg : w1.grownBy w2 row) (hr : ∀ b, row = some b → p ≤ f b) : Tn f p w w2 :=
  ⟨hg.os.trans h.1, hg.tape.trans h.2.1, hg.output.trans h.2.2.1, Nat.le_trans h.2.2.2.1 hg.size, fun b hb hp => (hg.block b (Nat.lt_of_lt_of_le hb h.2.2.2.1) (fun e => by have := hr b e.symm; omega)).trans (h.2.2.2.2 b hb hp)⟩
theorem Tn.low {f : Nat → Nat} {p q : Nat} {w w' : World} (h : Tn f p w w') (hq : q ≤ p) : Tn f q w w' := ⟨h.1, h.2.1, h.2.2.1, h.2.2.2.1, fun b hb hp => h.2.2.2.2 b hb (by omega)⟩
theorem Tn.trans {f : Nat → Nat} {p : Nat} {w w1 w2 : World} (h : Tn f p w w1) (k : Tn f p w1 w2) : Tn f p w w2 :=
  ⟨k.1.trans h.1, k.2.1.trans h.2.1, k.2.2.1.trans h.2.2.1, Nat.le_trans h.2.2.2.1 k.2.2.2.1, fun b hb hp => (k.2.2.2.2 b (Nat.lt_of_lt_of_le hb h.2.2.2.1) hp).trans (h.2.2.2.2 b hb hp)⟩
theorem RowO.tn {f : Nat → Nat} {i p : Nat} {w w' : World} {base : Nat} {t : TypeId} {v : Value} {n : Nat} {xs : List Value} (h : RowO f i w base t v n xs) (ht : Tn f p w w') (hi : i < p) : RowO f i w' base t v n xs := by
  refine ⟨⟨h.1.1, ?_⟩, h.2⟩
  rcases h.1.2 with h2 | ⟨g, cap, cur, e1, e2, e3, e4⟩
  · exact .inl h2
  · refine .inr ⟨g, cap, cur, e1, e2, (ht.2.2.2.2 g (blk_lt e3) ?_).trans e3, e4⟩
    have := h.2 g (by rw [e1]; rfl)
    omega
/-- The number behind some rows' marks. -/
def off (k : Int) : List RowV → Int
  | [] => k
  | r :: t => off (k + (r.2.1 : Int)) t
theorem off_app (k : Int) (a b : List RowV) : off k (a ++ b) = off (off k a) b := by
  induction a generalizing k with
  | nil => rfl
  | cons r t ih => exact ih _
theorem off_step {k : Int} {rs : List RowV} {i : Nat} {r : RowV} (h : rs[i]? = some r) : off k (rs.take (i + 1)) = off k (rs.take i) + (r.2.1 : Int) := by
  obtain ⟨hlt, he⟩ := List.getElem?_eq_some_iff.1 h
  rw [List.take_succ_eq_append_getElem hlt, he, off_app]; rfl
theorem off_bd {rs : List RowV} (hr : ∀ r ∈ rs, r.2.1 ≤ 1048576) (k : Int) (i : Nat) : k ≤ off k (rs.take i) ∧ off k (rs.take i) ≤ k + 1048576 * (i : Int) := by
  induction i with
  | zero => simp [off]
  | succ i ih =>
    by_cases h : i < rs.length
    · rw [off_step (List.getElem?_eq_getElem h)]
      have := hr _ (List.getElem_mem h)
      omega
    · rw [List.take_of_length_le (by omega)]
      rw [List.take_of_length_le (by omega)] at ih
      omega
/-- Rows of one's own. -/
def OwnR (f : Nat → Nat) (w : World) (base : Nat) (rs : List RowV) (zs : Nat → RowV → List Int) : Prop :=
  ∀ (j : Nat) (r : RowV), rs[j]? = some r → RowO f (7 + j) w base 3 (slV r) r.2.1 ((zs j r).map (Value.int .i64))
/-- What the rows hold while marks are written. -/
def zUp (k : Int) (rs : List RowV) (i : Nat) (j : Nat) (r : RowV) : List Int := if j < i then iMarks (off k (rs.take j)) r.2.1 else r.2.2.2
def MarkSS (f : Nat → Nat) (w : World) (base : Nat) (A : Option Addr) (n c : Nat) (rs : List RowV) (k : Int) (r : Ending) (w' : World) : Prop :=
  r = .returned (.int .i64 (off k rs)) ∧ RowO f 5 w' base 55 (.slice A n c) n (rs.map slV) ∧ OwnR f w' base rs (fun j r => iMarks (off k (rs.take j)) r.2.1) ∧ Tn f 7 w w'
set_option maxHeartbeats 2000000 in
theorem markIntSS_any (f : Nat → Nat) (w : World) (base : Nat) (A : Option Addr) (n c : Nat) (rs : List RowV) (k : Int) (h : RowO f 5 w base 55 (.slice A n c) n (rs.map slV)) (hR : OwnR f w base rs (fun _ r => r.2.2.2)) (hn : n ≤ 1048576) (hr : ∀ r ∈ rs, r.2.1 ≤ 1048576) (hk0 : 0 ≤ k) (hk1 : k ≤ 1) :
    Calls Try.prog 81 #[.slice A n c, .int .i64 k] w (MarkSS f w base A n c rs k) := by
  have hl : rs.length = n := by have := h.1.1; rw [List.length_map] at this; omega
  have HL := Lib.hid hl
  have HO := hide h
  have HRR := hide hR
  have HR := Lib.hid hr
  obtain ⟨A', c', e1, -, -, -, hgA⟩ := own_vs h.1
  injection e1 with q1 _ q3
  subst q1
  have HGA := Lib.hid hgA
  clear h hR hr hl hgA
  go_enter Try.func81, Try.ntmps81
  go_wp2
  go_loopw [1, 5] (fun kv iv wr => ∃ i : Nat, iv = .int .i64 i ∧ i ≤ n ∧ Hid (kv = .int .i64 (off k (rs.take i))) ∧ Hid (RowO f 5 wr base 55 (.slice A n c) n (rs.map slV)) ∧ Hid (OwnR f wr base rs (zUp k rs i)) ∧ Hid (Tn f 7 w wr)) (fun _ iv _ => n - (intOf iv).toNat)
  case atStart => exact ⟨0, rfl, Nat.zero_le _, Lib.hid rfl, HO, Lib.hid (fun j r hj => by have := (unhide HRR) j r hj; rw [zUp, if_neg (by omega)]; exact this), Lib.hid (Tn.refl _ _ _)⟩
  case round =>
    obtain ⟨i, rfl, hi, hkv, hO, hR, hT⟩ := hrel
    obtain ⟨K, hK⟩ : ∃ K, off k (rs.take i) = K := ⟨_, rfl⟩
    have hbd := off_bd HR.out k i
    rw [hK] at hbd hkv
    have hkv' := hkv.out
    have HK := Lib.hid hK
    clear hkv hK
    subst hkv'
    by_cases hlt : i < n
    · obtain ⟨g, rfl, -⟩ := HGA.out (by omega)
      obtain ⟨r, hri⟩ : ∃ r, rs[i]? = some r := ⟨_, List.getElem?_eq_getElem (by have := HL.out; omega)⟩
      have hc0 : wr.cell? ⟨g, i, none⟩ = some (slV r) := by
        rw [(unhide hO).1.cellAt i (by omega), List.getElem?_map, hri]; rfl
      have hrow := (unhide hR) i r hri
      rw [zUp, if_neg (by omega)] at hrow
      have hrl := HR.out r (List.mem_of_getElem? hri)
      have hmk := markIntS_any wr base (slV r) r.2.1 r.2.2.2 K hrow.1 hrl (by omega) (by omega)
      have HRI := Lib.hid hri
      have HROW := hide hrow.2
      obtain ⟨rA, rn, rc, rz⟩ := r
      clear hrow hri
      go_wp2_with fail
      refine hmk.mono ?_
      rintro r' w1 ⟨rfl, hown1, hg1⟩
      have hro : ∀ b, (Value.slice rA rn rc).ownBlock = some b → f b = 7 + i := unhide HROW
      have hO1 := hide ((unhide hO).keep (f' := f) hg1 (fun b e => by have := hro b e; omega) (fun _ _ => rfl))
      have hT1 := Lib.hid ((unhide hT).grown hg1 (fun b e => by have := hro b e; omega))
      have hR1 : Hid (OwnR f w1 base rs (zUp k rs (i + 1))) := by
        intro j x hj
        by_cases hji : j = i
        · subst hji
          rw [HRI.out] at hj
          injection hj with hj
          subst hj
          rw [zUp, if_pos (by omega), HK.out]
          exact ⟨hown1, hro⟩
        · have h9 := ((unhide hR) j x hj).keep (f' := f) hg1 (fun b e => by have := hro b e; omega) (fun _ _ => rfl)
          have h8 : zUp k rs (i + 1) j x = zUp k rs i j x := by
            unfold zUp
            by_cases hjlt : j < i
            · rw [if_pos hjlt, if_pos (by omega)]
            · rw [if_neg hjlt, if_neg (by omega)]
          rw [h8]; exact h9
      have HST := Lib.hid (show off k (rs.take (i + 1)) = K + (rn : Int) by rw [off_step HRI.out, HK.out])
      clear hmk hown1 hg1 hO hR hT
      go_wp2
      go_roundw
      case rel => exact ⟨i + 1, by go_num, by omega, Lib.hid (by rw [HST.out]), hO1, hR1, hT1⟩
      case measure => simp [intOf]; omega
    · obtain rfl : i = n := by omega
      have HKF := Lib.hid (show off k rs = K by have := HK.out; rwa [List.take_of_length_le (by have := HL.out; omega)] at this)
      go_wp2
      go_ret
      refine ⟨ret_int HKF.out.symm, unhide hO, fun j x hj => ?_, unhide hT⟩
      have h9 := (unhide hR) j x hj
      rw [zUp, if_pos (by have := (List.getElem?_eq_some_iff.1 hj).1; have := HL.out; omega)] at h9
      exact h9
/-- Rows that hold their marks. -/
def HeldR (w : World) (A : Option Addr) (n : Nat) (rs : List RowV) (k : Int) : Prop :=
  VS w w.heap.size A n (rs.map slV) ∧ ∀ (j : Nat) (r : RowV), rs[j]? = some r → VS w w.heap.size r.1 r.2.1 ((iMarks (off k (rs.take j)) r.2.1).map (Value.int .i64))
theorem HeldR.up {w w' : World} {A : Option Addr} {n : Nat} {rs : List RowV} {k : Int} (h : HeldR w A n rs k) (hb : Below w.heap.size w w') : HeldR w' A n rs k := ⟨h.1.up hb, fun j r hj => (h.2 j r hj).up hb⟩
set_option maxHeartbeats 2000000 in
theorem heldIntSS_any (w : World) (A : Option Addr) (n c : Nat) (rs : List RowV) (k : Int) (h : HeldR w A n rs k) (hn : n ≤ 1048576) (hr : ∀ r ∈ rs, r.2.1 ≤ 1048576) (hk0 : 0 ≤ k) (hk1 : k ≤ 1) :
    Calls Try.prog 83 #[.slice A n c, .int .i64 k] w fun r w' => r = .returned (.int .i64 (off k rs)) ∧ w = w' := by
  have hl : rs.length = n := by have := h.1.1; rwa [List.length_map] at this
  have HL := Lib.hid hl
  have HH := hide h
  have HR := Lib.hid hr
  clear h hr hl
  go_enter Try.func83, Try.ntmps83
  go_wp2
  go_loop [1, 5] (fun kv iv => ∃ i : Nat, iv = .int .i64 i ∧ i ≤ n ∧ Hid (kv = .int .i64 (off k (rs.take i)))) (fun _ iv => n - (intOf iv).toNat)
  case atStart => exact ⟨0, rfl, Nat.zero_le _, Lib.hid rfl⟩
  case round =>
    obtain ⟨i, rfl, hi, hkv⟩ := hrel
    obtain ⟨K, hK⟩ : ∃ K, off k (rs.take i) = K := ⟨_, rfl⟩
    have hbd := off_bd HR.out k i
    rw [hK] at hbd hkv
    have hkv' := hkv.out
    have HK := Lib.hid hK
    clear hkv hK
    subst hkv'
    by_cases hlt : i < n
    · obtain ⟨b, off', v, rfl, hb, hv, hc0⟩ := (unhide HH).1.at hlt
      obtain ⟨r, hri, rfl⟩ : ∃ r, rs[i]? = some r ∧ v = slV r := by
        rw [List.getElem?_map] at hv
        cases hzz : rs[i]? with
        | none => rw [hzz] at hv; cases hv
        | some z => rw [hzz] at hv; injection hv with hv; exact ⟨z, rfl, hv.symm⟩
      have hrow := (unhide HH).2 i r hri
      rw [HK.out] at hrow
      have hrl := HR.out r (List.mem_of_getElem? hri)
      have hhd := heldIntS_any w r.1 r.2.1 r.2.2.1 K hrow hrl (by omega) (by omega)
      have HST := Lib.hid (show off k (rs.take (i + 1)) = K + (r.2.1 : Int) by rw [off_step hri, HK.out])
      obtain ⟨rA, rn, rc, rz⟩ := r
      clear hrow hri hv
      go_wp2_with fail
      refine hhd.mono ?_
      rintro r' w1 ⟨rfl, rfl⟩
      have hnn : ¬ K + (rn : Int) < 0 := by omega
      clear hhd
      go_wp2
      go_round
      case rel => exact ⟨i + 1, by go_num, by omega, Lib.hid (by rw [HST.out])⟩
      case measure => simp [intOf]; omega
    · obtain rfl : i = n := by omega
      have HKF := Lib.hid (show off k rs = K by have := HK.out; rwa [List.take_of_length_le (by have := HL.out; omega)] at this)
      go_wp2
      go_ret
      exact ⟨ret_int HKF.out.symm, rfl⟩
/-- An automaton that holds its marks. -/
def HeldA (w : World) (A : Option Addr) (n : Nat) (rs : List RowV) (A2 : Option Addr) (m : Nat) : Prop := HeldR w A n rs 1 ∧ VS w w.heap.size A2 m ((bMarks (off 1 rs) m).map Value.bool)
theorem HeldA.up {w w' : World} {A : Option Addr} {n : Nat} {rs : List RowV} {A2 : Option Addr} {m : Nat} (h : HeldA w A n rs A2 m) (hb : Below w.heap.size w w') : HeldA w' A n rs A2 m := ⟨h.1.up hb, h.2.up hb⟩
def MarkA (f : Nat → Nat) (w : World) (A : Option Addr) (n : Nat) (rs : List RowV) (A2 : Option Addr) (m : Nat) (r : Ending) (w' : World) : Prop :=
  r = .returned (.int .i64 (off 1 rs + (m : Int))) ∧ HeldA w' A n rs A2 m ∧ Tn f 6 w w'
set_option maxHeartbeats 2000000 in
theorem markDfa_any (f : Nat → Nat) (w : World) (base : Nat) (A : Option Addr) (n c : Nat) (rs : List RowV) (A2 : Option Addr) (m c2 : Nat) (es : List Bool) (h : OwnA f w base A n c rs A2 m c2 es) (hn : n ≤ 1048576) (hm : m ≤ 1048576) (hr : ∀ r ∈ rs, r.2.1 ≤ 1048576) :
    Calls Try.prog 47 #[dfaV A n c A2 m c2, .int .i64 1] w (MarkA f w A n rs A2 m) := by
  obtain ⟨h1, h2, h3⟩ := h
  have hgA := World.grownBy_alloc w (.cells #[.slice A n c, .slice A2 m c2] 50) none
  obtain ⟨W, hW⟩ : ∃ W, w.alloc (.cells #[.slice A n c, .slice A2 m c2] 50) = W := ⟨_, rfl⟩
  have b0 : W.heap[w.heap.size]? = some (.cells #[.slice A n c, .slice A2 m c2] 50) := by rw [← hW]; exact heap_alloc_new _ _
  rw [hW] at hgA
  let f' : Nat → Nat := fset f w.heap.size 0
  have k1 := h1.keep (f' := f') hgA none_r fset_lt
  have k2 : OwnR f' W base rs (fun _ r => r.2.2.2) := fun j r hj => (h2 j r hj).1.keep (f' := f') hgA none_r fset_lt
  have k3 := h3.keep (f' := f') hgA none_r fset_lt
  have hm1 := markIntSS_any f' W base A n c rs 1 k1 k2 hn hr (by omega) (by omega)
  have hl : rs.length = n := by have := h1.1.1; rw [List.length_map] at this; omega
  have hbd := off_bd hr 1 n
  rw [List.take_of_length_le (by omega)] at hbd
  obtain ⟨K, hK⟩ : ∃ K, off 1 rs = K := ⟨_, rfl⟩
  rw [hK] at hbd
  have HK := Lib.hid hK
  have HGA := Lib.hid hgA
  have B0 := Lib.hid b0
  have K3 := hide k3
  have HW := Lib.hid hW
  have H1 := hide h1
  clear h1 h2 h3 hgA b0 k1 k2 k3 hK hW hl
  go_enter Try.func47, Try.ntmps47
  go_wp2_with fail
  rw [HW.out]
  refine hm1.mono ?_
  rintro r w1 ⟨rfl, hO1, hR1, hT1⟩
  rw [HK.out]
  have hl0 := blk_lt B0.out
  have d0 : w1.heap[w.heap.size]? = some (.cells #[.slice A n c, .slice A2 m c2] 50) := (hT1.2.2.2.2 _ hl0 (by show fset f w.heap.size 0 w.heap.size < 7; rw [fset_at]; omega)).trans B0.out
  have c1 : w1.cell? ⟨w.heap.size, 1, none⟩ = some (.slice A2 m c2) := by rw [cell_of_row w1 _ 1 _ _ _ d0]; rfl
  have k31 := (unhide K3).tn hT1 (by omega)
  have hm2 := markBoolS_any w1 base (.slice A2 m c2) m es K k31.1 hm (by omega) (by omega)
  have HO1 := hide hO1
  have HR1 := hide hR1
  have HT1 := hide hT1
  have HR31 := hide k31.2
  clear hO1 hR1 hT1 d0 k31 hm1
  go_wp2_with fail
  refine hm2.mono ?_
  rintro r w2 ⟨rfl, hown2, hg2⟩
  have HO2 := hide hown2
  have HG2 := Lib.hid hg2
  clear hown2 hg2 hm2
  go_wp2
  go_ret
  have hro : ∀ b, (Value.slice A2 m c2).ownBlock = some b → f' b = 6 := unhide HR31
  have hO2 := (unhide HO1).keep (f' := f') HG2.out (fun b e => by have := hro b e; omega) (fun _ _ => rfl)
  refine ⟨ret_int (by rw [HK.out]), ⟨⟨?_, fun j x hj => ?_⟩, ?_⟩, ?_⟩
  · obtain ⟨A', c', e1, -, -, hv, -⟩ := own_vs hO2.1
    injection e1 with q1 _ _
    rw [q1]; exact hv
  · have h9 := ((unhide HR1) j x hj).keep (f' := f') HG2.out (fun b e => by have := hro b e; omega) (fun _ _ => rfl)
    obtain ⟨A', c', e1, -, -, hv, -⟩ := own_vs h9.1
    injection e1 with q1 _ _
    rw [q1]; exact hv
  · obtain ⟨A', c', e1, -, -, hv, -⟩ := own_vs (unhide HO2)
    injection e1 with q1 _ _
    rw [q1, HK.out]; exact hv
  · have hT := ((unhide HT1).low (show 6 ≤ 7 by omega)).grown HG2.out (fun b e => by have := hro b e; omega)
    refine ⟨hT.1.trans HGA.out.os, hT.2.1.trans HGA.out.tape, hT.2.2.1.trans HGA.out.output, Nat.le_trans HGA.out.size hT.2.2.2.1, fun b hb hp => ?_⟩
    exact (hT.2.2.2.2 b (Nat.lt_of_lt_of_le hb HGA.out.size) (by show fset f w.heap.size 0 b < 6; rw [fset_lt b hb]; exact hp)).trans (HGA.out.block b hb (by simp))
set_option maxHeartbeats 2000000 in
theorem heldDfa_any (w : World) (A : Option Addr) (n c : Nat) (rs : List RowV) (A2 : Option Addr) (m c2 : Nat) (h : HeldA w A n rs A2 m) (hn : n ≤ 1048576) (hm : m ≤ 1048576) (hr : ∀ r ∈ rs, r.2.1 ≤ 1048576) :
    Calls Try.prog 48 #[dfaV A n c A2 m c2, .int .i64 1] w fun r w' => r = .returned (.int .i64 (off 1 rs + (m : Int))) ∧ Below w.heap.size w w' := by
  have hb : Below w.heap.size w (w.alloc (.cells #[.slice A n c, .slice A2 m c2] 50)) := (Below.refl _ _).alloc (Nat.le_refl _) _
  have hU := h.up hb
  have hl : rs.length = n := by have := h.1.1.1; rwa [List.length_map] at this
  have hbd := off_bd hr 1 n
  rw [List.take_of_length_le (by omega)] at hbd
  have h1 := heldIntSS_any _ A n c rs 1 hU.1 hn hr (by omega) (by omega)
  have h2 := heldBoolS_any _ A2 m c2 (off 1 rs) hU.2 hm (by omega) (by omega)
  obtain ⟨K, hK⟩ : ∃ K, off 1 rs = K := ⟨_, rfl⟩
  rw [hK] at hbd h1 h2 ⊢
  have HB := Lib.hid hb
  have hn1 : ¬ K < 0 := by omega
  have hn2 : ¬ K + (m : Int) < 0 := by omega
  clear h hb hU hl hK
  go_enter Try.func48, Try.ntmps48
  go_wp2_with fail
  refine h1.mono ?_
  rintro r w1 ⟨rfl, rfl⟩
  go_wp2_with fail
  refine h2.mono ?_
  rintro r w1 ⟨rfl, rfl⟩
  go_wp2
  go_ret
  exact ⟨rfl, HB.out⟩
end Go.Proofs.Ytcphbncgkemdoaa
