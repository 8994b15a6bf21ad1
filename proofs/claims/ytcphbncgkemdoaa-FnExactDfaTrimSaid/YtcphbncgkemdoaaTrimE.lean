/-
  Automata without the states that cannot be reached: the program's walk.
-/
import Derived.Test.YtcphbncgkemdoaaTrimD
import Derived.Maps.OwnOps
namespace Go.Proofs.Ytcphbncgkemdoaa
open Go.RowKit
set_option linter.unusedVariables false
set_option maxRecDepth 100000

theorem lit_wf {x : Int} (h : 0 ≤ x ∧ x ≤ 1048576) : (Lit.int IntKind.i64 x).wf = true := by
  have h1 : IntKind.i64.min = -9223372036854775808 := by rfl
  have h2 : IntKind.i64.max = 9223372036854775807 := by rfl
  simp only [Lit.wf, Bool.and_eq_true, decide_eq_true_eq, h1, h2]
  omega
theorem key_mk {x : Int} (h : 0 ≤ x ∧ x ≤ 1048576) : keyOf Try.prog 3 (.int .i64 x) = some (.int .i64 x) := Maps.keyOf_int_mk Try.underlying3 (lit_wf h)
theorem val_mk {x : Int} (h : 0 ≤ x ∧ x ≤ 1048576) : plainElem (H := Unit) Try.prog 3 (.int .i64 x) = some (.lit (.int .i64 x), []) := plainElem_int Try.underlying3 (lit_wf h)
theorem zero_int (w : World) : (zeroValue 3).run Try.prog w = .ok (.int .i64 0) w := by rfl
theorem made3 : madeCells (Value.int IntKind.i64 0).cells (3 * 1) = #[.int .i64 0, .int .i64 0, .int .i64 0] := by
  first | rfl | decide | (simp [madeCells, Value.cells, Nat.mod_one]; done) | (simp [madeCells, Value.cells, Nat.mod_one]; rfl) | (apply Array.ext'; simp [madeCells, Value.cells, Nat.mod_one, List.range_succ])
theorem mapP_nil : MapP (.map []) [] := fun x => ⟨rfl, fun h => nomatch h⟩
theorem results_cell3 {P : Program} {fn : Func} {p s2 s3 : Tmp} {ty : TypeId} (h : fn.results = #[.cell p ty, .tmp s2, .tmp s3]) (tmps : Array Value) (w : World) (g : Nat) (t : TypeId) (cs : Array Value) (fr : Nat × Nat) (d : TypeDesc)
    (hp : tmps.getD p undef = .pointer (some ⟨g, 0, none⟩)) (hg : w.heap[g]? = some (.cells cs t fr))
    (hu : P.underlying ty = some d) (hd : (match d with | .struct _ | .array _ _ => true | _ => false) = true) (hi : (P.info? ty).map (·.size) = some cs.size) :
    (results fn tmps).run P w = .ok (.tuple #[.agg cs, tmps.getD s2 undef, tmps.getD s3 undef]) w := by
  have hp' : tmps[p]?.getD undef = .pointer (some ⟨g, 0, none⟩) := by simpa using hp
  simp [results, h, hp', asAddr, run_loadVar_row w g t ty cs fr d hg hu hd hi]
/-- An automaton of one's own. -/
def OwnA (f : Nat → Nat) (w : World) (base : Nat) (A : Option Addr) (n c : Nat) (rs : List RowV) (A2 : Option Addr) (n2 c2 : Nat) (es : List Bool) : Prop :=
  RowO f 5 w base 55 (.slice A n c) n (rs.map slV) ∧ (∀ (j : Nat) (r : RowV), rs[j]? = some r → RowO f (7 + j) w base 3 (slV r) r.2.1 (r.2.2.2.map (Value.int .i64)) ∧ r.2.1 = r.2.2.2.length) ∧ RowO f 6 w base 4 (.slice A2 n2 c2) n2 (es.map Value.bool)
/-- What 'explored' leaves. -/
def ExpD (w : World) (rows : List (List Int)) (bs : List Bool) (r : Ending) (w' : World) : Prop :=
  Below w.heap.size w w' ∧ ∃ (f : Nat → Nat) (A : Option Addr) (n c : Nat) (A2 : Option Addr) (c2 : Nat) (rs : List RowV) (met : Value), r = .returned (.tuple #[dfaV A n c A2 n c2, met, .bool true]) ∧ n ≤ 40 ∧ nums rs = trimR rows ∧ OwnA f w' w.heap.size A n c rs A2 n c2 (trimE rows bs)
/-- What stands while the states are met. -/
def ExI (f : Nat → Nat) (w wr : World) (g k k2 : Nat) (rows : List (List Int)) (bs : List Bool) (M : List Int) (mv nv ev : Value) (vs : List Value) : Prop :=
  MapO f wr (w.heap.size + 1) M ∧ RowO f 4 wr w.heap.size 3 mv M.length (M.map (Value.int .i64)) ∧ BoxO f 2 wr w.heap.size (.cells #[.slice none 0 0, .slice none 0 0] 50) ∧ TrO f wr w.heap.size g k k2 rows (ord rows) bs nv ev vs
theorem ExI.keep {f f' : Nat → Nat} {w wr w' : World} {g k k2 : Nat} {rows : List (List Int)} {bs : List Bool} {M : List Int} {mv nv ev : Value} {vs : List Value} {row : Option Nat} (h : ExI f w wr g k k2 rows bs M mv nv ev vs) (hg : wr.grownBy w' row) (hr : ∀ b, row = some b → 7 + k ≤ f b) (hf : ∀ b, b < wr.heap.size → f' b = f b) : ExI f' w w' g k k2 rows bs M mv nv ev vs :=
  ⟨h.1.keep hg (fun b e => by have := hr b e; omega) hf, h.2.1.keep hg (fun b e => by have := hr b e; omega) hf, h.2.2.1.keep hg (fun b e => by have := hr b e; omega) hf, h.2.2.2.keep hg (fun b e => by have := hr b e; omega) hf⟩
set_option maxHeartbeats 8000000 in
theorem explored_any (w : World) (gd : Nat) (A : Option Addr) (n c : Nat) (A2 : Option Addr) (c2 : Nat) (rs : List RowV) (bs : List Bool) (hbox : w.heap[gd]? = some (.cells #[.slice A n c, .slice A2 n c2] 50)) (h : DfaS w A n A2 n rs bs) (hv : RowsB (nums rs)) (h0 : 0 < n) (h40 : n ≤ 40) :
    Calls Try.prog 89 #[.int .i64 0, .int .i64 n, .func (.func 90) #[] #[.pointer (some ⟨gd, 0, none⟩)], .func (.func 91) #[] #[.pointer (some ⟨gd, 0, none⟩)]] w (ExpD w (nums rs) bs) := by
  have hlen : (nums rs).length = n := by rw [nums_len, h.1.len]
  have HLEN := Lib.hid hlen
  have hg0 : 0 < (nums rs).length := by omega
  have HV := Lib.hid hv
  have HBOX := Lib.hid hbox
  have hgd := blk_lt hbox
  have HH := hide h
  have hK1 := enter_t1
  have hK2 := enter_t2
  obtain ⟨i0, hi0, hz0, hz1, hzz2⟩ := info_parts boolc2_info
  obtain ⟨ti, hi1, hy0, hy1, hy2⟩ := info_parts intz_info
  obtain ⟨tr, hi3, hx0, hx1, hx2⟩ := info_parts rowc_info
  have HUB := hide hi0
  have HUI := hide hi1
  have HUR := hide hi3
  have hmm := @run_makeMap Try.prog
  have hmk0 := fun W => run_make_rowN (P := Try.prog) 55 3 ti (.int .i64 0) Try.underlying55 hi1 hy0 .i64 .i64 3 3 (Nat.le_refl _) (by rw [hy2]; omega) (by omega) W
  have hmk : ∀ W : World, (Instr.makeSlice 55 (.int .i64 3) (.int .i64 3)).run Try.prog W = .ok (.slice (some ⟨W.heap.size, 0, none⟩) 3 3) (W.alloc (.cells #[.int .i64 0, .int .i64 0, .int .i64 0] 3)) := fun W => by
    have h9 := hmk0 W
    rw [hy1, made3] at h9
    exact h9
  -- the first world
  obtain ⟨Wa, hWa⟩ : ∃ Wa, ((w.alloc (.cells #[.slice none 0 0, .slice none 0 0] 50)).alloc (.map #[] 0)) = Wa := ⟨_, rfl⟩
  have hsa : Wa.heap.size = w.heap.size + 1 + 1 := by rw [← hWa]; simp
  have a0 : Wa.heap[w.heap.size]? = some (.cells #[.slice none 0 0, .slice none 0 0] 50) := by
    rw [← hWa, Below.heap_alloc _ _ _ (by simp)]; exact heap_alloc_new _ _
  have hba : Below w.heap.size w Wa := by rw [← hWa]; exact ((Below.refl _ _).alloc (Nat.le_refl _) _).alloc (by simp) _
  have hMa : Hid (World.ownsMap (H := Unit) Wa Try.prog 3 (plainElem Try.prog 3) (w.heap.size + 1) 0 (.map [])) := by
    have := World.ownsMap_made (H := Unit) (w.alloc (.cells #[.slice none 0 0, .slice none 0 0] 50)) Try.prog 3 (plainElem Try.prog 3)
    rw [World.size_alloc, hWa] at this
    exact this
  have hMa' : Hid (World.ownsMap (H := Unit) ((w.alloc (.cells #[.slice none 0 0, .slice none 0 0] 50)).alloc (.map #[] 0)) Try.prog 3 (plainElem Try.prog 3) (w.heap.size + 1) 0 (.map [])) := by rw [hWa]; exact hMa
  have HWa := Lib.hid hWa
  clear hi0 hi1 hi3 hv h hlen hWa hmk0
  go_enter Try.func89, Try.ntmps89
  go_wp2_with (refine wpList_insert_own (H := Unit) _ rfl _ _ _ 105 rfl 3 3 (Maps.int_keyed Try.underlying3) Try.underlying105 (plainElem Try.prog 3) (w.heap.size + 1) _ _ rfl (unhide hMa') (by decide) _ _ (.int .i64 0) rfl rfl (key_mk (by omega)) (.lit (.int .i64 0)) [] (val_mk (by omega)) ?_; intro w1 hM1 hg1)
  have hz1 : w.heap.size + 1 + 1 ≤ w1.heap.size := by have := hg1.size; rw [HWa.out] at this; omega
  rw [HWa.out] at hg1
  have hb1 : Below w.heap.size w w1 := hba.grown hg1 hba.size (fun q hq => by injection hq with hq; omega)
  have a1 : w1.heap[w.heap.size]? = some (.cells #[.slice none 0 0, .slice none 0 0] 50) := (hg1.block _ (by omega) (by simp)).trans a0
  have hT0 : Hid (∃ f nv ev vs, ExI f w ((w1.alloc (.cells #[.int .i64 0] 3)).alloc (.cells #[.slice none 0 0, .slice none 0 0] 50)) (w1.heap.size + 1) 0 0 (nums rs) bs [0] (.slice (some ⟨w1.heap.size, 0, none⟩) 1 1) nv ev vs) := by
    have hgA := World.grownBy_alloc w1 (.cells #[.int .i64 0] 3) none
    have hgB := World.grownBy_alloc (w1.alloc (.cells #[.int .i64 0] 3)) (.cells #[.slice none 0 0, .slice none 0 0] 50) none
    refine ⟨fun x => if x = w.heap.size then 2 else if x = w.heap.size + 1 then 1 else if x = w1.heap.size then 4 else 3, .slice none 0 0, .slice none 0 0, [], ?_, ?_, ?_, ?_⟩
    · refine ⟨1, _, Nat.le_refl _, (hM1.alloc _).alloc _, ?_, ?_⟩
      · have := mapP_nil.put ⟨[], rfl⟩ (x := 0) (by simp)
        simpa using this
      · show (if w.heap.size + 1 = w.heap.size then 2 else if w.heap.size + 1 = w.heap.size + 1 then 1 else if w.heap.size + 1 = w1.heap.size then 4 else 3) = 1
        rw [if_neg (by omega), if_pos rfl]
    · refine ⟨⟨rfl, .inr ⟨w1.heap.size, 1, #[.int .i64 0], rfl, by omega, ?_, Nat.le_refl _, by simp [maxLen], rfl, rfl⟩⟩, fun b e => ?_⟩
      · rw [Below.heap_alloc _ _ _ (by simp)]; exact heap_alloc_new _ _
      · simp [Value.ownBlock] at e
        subst e
        show (if w1.heap.size = w.heap.size then 2 else if w1.heap.size = w.heap.size + 1 then 1 else if w1.heap.size = w1.heap.size then 4 else 3) = 4
        rw [if_neg (by omega), if_neg (by omega), if_pos rfl]
    · refine ⟨?_, if_pos rfl⟩
      rw [Below.heap_alloc _ _ _ (by simp; omega), Below.heap_alloc _ _ _ (by omega)]; exact a1
    · refine ⟨⟨?_, ?_⟩, NextV.nil _ _ _, RowO.nil _ _ _ _ _⟩
      · have := heap_alloc_new (w1.alloc (.cells #[.int .i64 0] 3)) (.cells #[.slice none 0 0, .slice none 0 0] 50)
        rwa [World.size_alloc] at this
      · show (if w1.heap.size + 1 = w.heap.size then 2 else if w1.heap.size + 1 = w.heap.size + 1 then 1 else if w1.heap.size + 1 = w1.heap.size then 4 else 3) = 3
        rw [if_neg (by omega), if_neg (by omega), if_neg (by omega)]
  have hb0 : Below w.heap.size w ((w1.alloc (.cells #[.int .i64 0] 3)).alloc (.cells #[.slice none 0 0, .slice none 0 0] 50)) := (hb1.alloc hb1.size _).alloc (by simp; omega) _
  obtain ⟨g, hg⟩ : ∃ g, w1.heap.size + 1 = g := ⟨_, rfl⟩
  rw [hg] at hT0 ⊢
  have hgw : w.heap.size + 1 + 1 < g := by omega
  clear hM1 hg1 hMa hMa' HWa a0 a1 hba hsa hb1 hz1 hmm
  go_loopw [12, 14] (fun mv kv wr => ∃ k : Nat, kv = .int .i64 k ∧ k ≤ n ∧ Hid (k ≤ (mst (nums rs) k).length) ∧ Hid (∃ f nv ev vs, ExI f w wr g k k (nums rs) bs (mst (nums rs) k) mv nv ev vs) ∧ Below w.heap.size w wr) (fun _ kv _ => n - (intOf kv).toNat)
  case atStart => exact ⟨0, rfl, Nat.zero_le _, Lib.hid (Nat.zero_le _), hT0, hb0⟩
  case round =>
    rename World => wk
    clear hT0 hb0 hg
    obtain ⟨k, rfl, hk, hkl, hT, hbk⟩ := hrel
    have hgood := mst_good HV.out hg0 k
    rw [HLEN.out] at hgood
    have hML := hgood.len
    by_cases hlt : k < (mst (nums rs) k).length
    · obtain ⟨M, hM⟩ : ∃ M, mst (nums rs) k = M := ⟨_, rfl⟩
      rw [hM] at hgood hML hlt hT
      obtain ⟨f, nv, ev, vs, hT⟩ := unhide hT
      obtain ⟨mA, mc, hmv, -, -, -, -⟩ := own_vs hT.2.1.1
      obtain ⟨l, hl⟩ : ∃ l, M.length = l := ⟨_, rfl⟩
      obtain ⟨s, hs⟩ : ∃ s, M.getD k 0 = s := ⟨_, rfl⟩
      have hsm : s ∈ M := by rw [← hs]; exact mem_getD hlt
      have hsr := hgood.2 s hsm
      have HG := Lib.hid hgood
      have HM := Lib.hid hM
      have HS := Lib.hid hs
      have HL := Lib.hid hl
      rw [hl] at hlt hML hmv
      have k0 : (0 : Int) ≤ (k : Int) := Int.natCast_nonneg _
      have k1 : (k : Int) < (l : Int) := by omega
      have hkn : k < n := by omega
      have HORD := Lib.hid (show ∀ q, q < 3 → nmI (ord (nums rs)) (nx (nums rs) s q) = ((mIn (nums rs) s (q + 1) M).idxOf (nx (nums rs) s q) : Int) from fun q hq => by
        have h1 := step_nm (rows := nums rs) (k := k) (c := q) (by rw [hM, hl]; exact hlt) (by rw [HLEN.out]; omega) hq
        rw [hM, hs] at h1; exact h1)
      have HTR := Lib.hid (show tRow (nums rs) (ord (nums rs)) k = [nmI (ord (nums rs)) (nx (nums rs) s 0), nmI (ord (nums rs)) (nx (nums rs) s 1), nmI (ord (nums rs)) (nx (nums rs) s 2)] by
        have h1 := tRow_at (rows := nums rs) (k := k) (by rw [hM, hl]; exact hlt) (by rw [HLEN.out]; omega)
        rw [hM, hs] at h1; exact h1)
      have HK := hide hT
      clear hM hs hsm hgood hl hkl hT
      subst hmv
      have hR0 : Hid (∃ f, ExI f w (wk.alloc (.cells #[.int .i64 0, .int .i64 0, .int .i64 0] 3)) g k k (nums rs) bs M (.slice mA l mc) nv ev vs ∧ ∃ xs : List Int, xs.length = 3 ∧ (∀ j, j < 0 → xs[j]? = (tRow (nums rs) (ord (nums rs)) k)[j]?) ∧ RowO f (7 + k) (wk.alloc (.cells #[.int .i64 0, .int .i64 0, .int .i64 0] 3)) w.heap.size 3 (.slice (some ⟨wk.heap.size, 0, none⟩) 3 3) 3 (xs.map (Value.int .i64))) := by
        refine ⟨fset f wk.heap.size (7 + k), (unhide HK).keep (World.grownBy_alloc wk _ none) none_r fset_lt, [0, 0, 0], rfl, fun j hj => absurd hj (by omega), ⟨rfl, .inr ⟨wk.heap.size, 3, #[.int .i64 0, .int .i64 0, .int .i64 0], rfl, hbk.size, heap_alloc_new _ _, Nat.le_refl _, by simp [maxLen], rfl, rfl⟩⟩, fun b e => ?_⟩
        simp [Value.ownBlock] at e
        rw [← e]; exact fset_at
      have hbk0 := hbk.alloc hbk.size (.cells #[.int .i64 0, .int .i64 0, .int .i64 0] 3)
      have hwk0 := hbk.size
      obtain ⟨gr, hgr⟩ : ∃ gr, wk.heap.size = gr := ⟨_, rfl⟩
      rw [hgr] at hR0
      go_wp2
      clear hmk HK hbk
      go_loopw [12, 32] (fun mv cv wr => ∃ q : Nat, cv = .int .i64 q ∧ q ≤ 3 ∧ Hid (∃ f, ExI f w wr g k k (nums rs) bs (mIn (nums rs) s q M) mv nv ev vs ∧ ∃ xs : List Int, xs.length = 3 ∧ (∀ j, j < q → xs[j]? = (tRow (nums rs) (ord (nums rs)) k)[j]?) ∧ RowO f (7 + k) wr w.heap.size 3 (.slice (some ⟨gr, 0, none⟩) 3 3) 3 (xs.map (Value.int .i64))) ∧ Below w.heap.size w wr) (fun _ cv _ => 3 - (intOf cv).toNat)
      case atStart => exact ⟨0, rfl, Nat.zero_le _, hR0, hbk0⟩
      case round =>
        rename World => wj
        clear hR0 hbk0 hgr
        obtain ⟨q, rfl, hq, hR, hbj⟩ := hrel
        by_cases hq3 : q < 3
        · obtain ⟨Mq, hMq⟩ : ∃ Mq, mIn (nums rs) s q M = Mq := ⟨_, rfl⟩
          rw [hMq] at hR
          obtain ⟨f, hX, xs, hxl, hxs, hRw⟩ := unhide hR
          have hgq : GoodM n Mq := by
            have h1 := mIn_good HV.out (s := s) (by rw [HLEN.out]; exact hsr) (M := M) (by rw [HLEN.out]; exact HG.out) q hq
            rw [HLEN.out, hMq] at h1; exact h1
          have hpre : M <+: Mq := by rw [← hMq]; exact mIn_pre _ _ _ _
          have hll : l ≤ Mq.length := by have := hpre.length_le; have := HL.out; omega
          have hMn := hgq.len
          obtain ⟨mA', mc', hmv', -, -, -, hgm⟩ := own_vs hX.2.1.1
          obtain ⟨gt, rfl, hgt⟩ := hgm (by omega)
          have hko : wj.cell? ⟨gt, k, none⟩ = some (.int .i64 s) := by
            have h1 := hX.2.1.1
            rw [hmv'] at h1
            rw [h1.cellAt k (by omega), List.getElem?_map]
            have h2 := pre_getD hpre (k := k) (by have := HL.out; omega)
            rw [HS.out] at h2
            rw [List.getD_eq_getElem?_getD, List.getElem?_eq_getElem (by omega)] at h2
            rw [List.getElem?_eq_getElem (by omega)]
            simp at h2
            simp [h2]
          have hdx : wj.heap[gd]? = some (.cells #[.slice A n c, .slice A2 n c2] 50) := (hbj.block _ hgd).trans HBOX.out
          have hd0 : wj.cell? ⟨gd, 0, none⟩ = some (.slice A n c) := by rw [cell_of_row wj _ 0 _ _ _ hdx]; rfl
          have hC := trim1_any wj gd A n c rs s q hd0 ((unhide HH).1.up hbj) (by omega) HV.out hsr hq3
          obtain ⟨z, hz⟩ : ∃ z, nx (nums rs) s q = z := ⟨_, rfl⟩
          rw [hz] at hC
          have hzr : 0 ≤ z ∧ z < (n : Int) := by
            have := nx_in HV.out (s := s) (by rw [HLEN.out]; exact hsr) hq3
            rw [HLEN.out, hz] at this; exact this
          have HNX := Lib.hid (show mIn (nums rs) s (q + 1) M = insI Mq z by rw [mIn, hMq, hz])
          have HNM := Lib.hid (show nmI (ord (nums rs)) z = ((insI Mq z).idxOf z : Int) by
            have h1 := HORD.out q hq3
            rw [hz, HNX.out] at h1; exact h1)
          have HTQ := Lib.hid (show (tRow (nums rs) (ord (nums rs)) k)[q]? = some (nmI (ord (nums rs)) z) by
            rw [HTR.out]
            rcases (show q = 0 ∨ q = 1 ∨ q = 2 by omega) with rfl | rfl | rfl <;> rw [← hz] <;> rfl)
          obtain ⟨lq, hlq⟩ : ∃ lq, Mq.length = lq := ⟨_, rfl⟩
          rw [hlq] at hmv' hll hMn
          have HLQ := Lib.hid hlq
          have HGQ := Lib.hid hgq
          have HXX := hide hX
          have HXL := Lib.hid hxl
          have HXS := hide hxs
          have HRW := hide hRw
          have k2 : (k : Int) < (lq : Int) := by omega
          have q0 : (0 : Int) ≤ (q : Int) := Int.natCast_nonneg _
          have q1 : (q : Int) < 3 := by omega
          clear hR hpre hgq hMq hlq hz hX hxl hxs hRw hdx
          subst hmv'
          obtain ⟨nb, D, hnb, hown, hP, hgmr⟩ := (unhide HXX).1
          have HOWN := hide hown
          have HP := hide hP
          have hkey : Hid (keyOf Try.prog 3 (.int .i64 z) = some (.int .i64 z)) := key_mk (by omega)
          have hgr2 := (unhide HRW).2 gr rfl
          have hgr3 := ((unhide HRW).1.lt gr rfl).1
          have hxq : ∃ y, xs[q]? = some y := ⟨_, List.getElem?_eq_getElem (by have := HXL.out; omega)⟩
          obtain ⟨y, hy⟩ := hxq
          have HY := Lib.hid hy
          clear hy hown hP
          go_wp2_with fail
          refine hC.mono ?_
          rintro r w5 ⟨rfl, rfl⟩
          clear hC
          by_cases hzm : z ∈ Mq
          · have hhas : Maps.has D (.int .i64 z) = true := by rw [((unhide HP) z).1]; exact decide_eq_true hzm
            have hat0 := Lib.hid (((unhide HP) z).2 hzm (.lit (.int .i64 0)))
            have x0 : wj.cell? ⟨gr, q, none⟩ = some (.int .i64 y) := by rw [(unhide HRW).1.cellAt q (by omega), List.getElem?_map, HY.out]; rfl
            have y0 : wj.frozen? ⟨gr, q, none⟩ = false := (unhide HRW).1.frozenAt q
            obtain ⟨ix, hix⟩ : ∃ ix, (Mq.idxOf z : Int) = ix := ⟨_, rfl⟩
            have HIX := Lib.hid hix
            rw [hix] at hat0
            have HIN := Lib.hid hzm
            clear hix hzm
            go_wp2_with (first
              | (at_lookup; refine wpList_lookup_own_ok_int (H := Unit) _ rfl _ _ 105 rfl 3 3 .i64 (Maps.int_keyed Try.underlying3) Try.underlying105 Try.underlying3 (zero_int _) (w.heap.size + 1) nb D rfl (unhide HOWN) _ _ rfl (unhide hkey) ?_; intro c1 hat1 hwc1; rw [hhas]; clear hat1 hwc1)
              | (at_lookup; refine wpList_lookup_own_int (H := Unit) _ rfl _ _ 105 rfl 3 3 .i64 (Maps.int_keyed Try.underlying3) Try.underlying105 Try.underlying3 (zero_int _) (w.heap.size + 1) nb D rfl (unhide HOWN) _ _ rfl (unhide hkey) ?_; intro c2' hat2 hwc2; have hc2 : c2' = ix := (by rw [hat0.out] at hat2; injection hat2 with h9; injection h9 with _ h9; exact h9.symm); subst hc2; clear hat2 hwc2))
            go_roundw
            case rel =>
              have hgs := gr_set wj ⟨gr, q, none⟩ (.int .i64 c2')
              have hro : ∀ b, (some gr : Option Nat) = some b → f b = 7 + k := fun b e => by injection e with e; rw [← e]; exact hgr2
              have hst := (unhide HRW).1.stored q (.int .i64 c2')
              refine ⟨q + 1, by go_num, by omega, Lib.hid ⟨f, by rw [HNX.out, insI_in HIN.out]; exact (unhide HXX).keep hgs (fun b e => by have := hro b e; omega) (fun _ _ => rfl), xs.set q c2', by rw [List.length_set]; exact HXL.out, fun j hj => ?_, ?_, (unhide HRW).2⟩, hbj.setCell hgr3 _⟩
              · by_cases hjq : j = q
                · subst hjq
                  rw [List.getElem?_set_self (by have := HXL.out; omega), HTQ.out, HNM.out, insI_in HIN.out, HIX.out]
                · rw [List.getElem?_set_ne (fun e => hjq e.symm)]; exact (unhide HXS) j (by omega)
              · rw [List.map_set]; exact hst.1
            case measure => simp [intOf]; omega
          · have hhas : Maps.has D (.int .i64 z) = false := by rw [((unhide HP) z).1]; exact decide_eq_false hzm
            have hlqn : lq ≠ n := fun e => hzm (HGQ.out.full (by rw [HLQ.out]; exact e) hzr)
            have hne1 : ((lq : Int) == (n : Int)) = false := by simp; omega
            have hne2 : ¬ (lq : Int) = (n : Int) := by omega
            have hIM : Maps.IsMap D := (unhide HOWN).isMap
            have hP2 := ((unhide HP).put hIM hzm)
            rw [HLQ.out] at hP2
            have HP2 := hide hP2
            have hidx : ((Mq ++ [z]).idxOf z : Int) = (lq : Int) := by rw [List.idxOf_append, if_neg hzm, HLQ.out]; simp
            have hat0 := Lib.hid (((unhide HP2) z).2 (by simp) (.lit (.int .i64 0)))
            rw [hidx] at hat0
            have HIX := Lib.hid hidx
            have HOUT := Lib.hid hzm
            have hmrole := (unhide HXX).2.1.2
            have hnb' : nb < maxLen := by have := HLQ.out; unfold maxLen; omega
            have hgw1 : w.heap.size + 1 < wj.heap.size := (unhide HOWN).lt
            clear hidx hzm hP2 hIM
            go_wp2_with (first
              | (at_lookup; refine wpList_lookup_own_ok_int (H := Unit) _ rfl _ _ 105 rfl 3 3 .i64 (Maps.int_keyed Try.underlying3) Try.underlying105 Try.underlying3 (zero_int _) (w.heap.size + 1) nb D rfl (unhide HOWN) _ _ rfl (unhide hkey) ?_; intro c1 hat1 hwc1; rw [hhas]; clear hat1 hwc1)
              | (at_mapUpdate; go_must (refine wpList_mapUpdate_own (H := Unit) _ rfl _ _ _ 105 rfl 3 3 (Maps.int_keyed Try.underlying3) Try.underlying105 (plainElem Try.prog 3) (w.heap.size + 1) nb D rfl (unhide HOWN) hnb' _ _ (.int .i64 z) rfl rfl (unhide hkey) (.lit (.int .i64 (lq : Int))) [] (val_mk (by omega)) ?_); go_must (intro w6 hM6 hg6; have hro6 : ∀ b, some (w.heap.size + 1) = some b → f b = 1 := (fun b e => by injection e with e; rw [← e]; exact hgmr); have hz6 := hg6.size; have hR6 := (unhide HXX).2.1.keep (f' := f) hg6 (fun b e => by have := hro6 b e; omega) (fun _ _ => rfl); have hRA := hide (hR6.keep (f' := f) (World.grownBy_alloc w6 (.cells #[.int .i64 z] 3) none) none_r (fun _ _ => rfl)); have HM6 := hide hM6; have HG6 := Lib.hid hg6; clear hR6 hM6 hg6 hro6))
              | (at_builtin; go_must (refine wpList_append_own_at _ rfl (.tmp 59) (.tmp 61) 55 rfl w.heap.size 3 ti (.int .i64 0) 1 8 Try.underlying55 (unhide HUI) hy0 hy1 hy2 rfl (by decide) (.slice (some ⟨gt, 0, none⟩) lq mc') lq (Mq.map (Value.int .i64)) rfl (by have h9 := (unhide hRA).1; rw [HLQ.out] at h9; exact h9) ⟨w6.heap.size, 0, none⟩ 1 1 [.int .i64 z] rfl rfl (cell_one_lit _ _ _) (by simp [Value.oneCell']) (by unfold maxLen; omega) (by omega) (by simp; omega) ?_); go_must (intro v7 w7 hown7 hgrow7 _ hat7; have hro6 : ∀ b, some (w.heap.size + 1) = some b → f b = 1 := (fun b e => by injection e with e; rw [← e]; exact hgmr); have hgA := World.grownBy_alloc w6 (.cells #[.int .i64 z] 3) none; have hRW7 := ((((unhide HRW).keep (f' := f) HG6.out (fun b e => by have := hro6 b e; omega) (fun _ _ => rfl)).keep (f' := f) hgA none_r (fun _ _ => rfl)).keep (f' := fset f (w6.alloc (.cells #[.int .i64 z] 3)).heap.size 4) hgrow7 (fun b e => by have := hmrole b e; omega) fset_lt); have hM7 := (((unhide HM6).kept hgA (by simp)).kept hgrow7 (fun e => by have := hmrole _ e.symm; omega)); have x0 : w7.cell? ⟨gr, q, none⟩ = some (.int .i64 y) := (by rw [hRW7.1.cellAt q (by omega), List.getElem?_map, HY.out]; rfl); have y0 : w7.frozen? ⟨gr, q, none⟩ = false := hRW7.1.frozenAt q; have HRW7 := hide hRW7; have HM7 := hide hM7; have HG7 := Lib.hid hgrow7; have HO7 := hide hown7; clear hRW7 hM7 hgA hgrow7 hown7 hro6; obtain ⟨mA7, mc7, hv7, -, -, -, -⟩ := own_vs (unhide HO7); subst hv7))
              | (at_lookup; refine wpList_lookup_own_int (H := Unit) _ rfl _ _ 105 rfl 3 3 .i64 (Maps.int_keyed Try.underlying3) Try.underlying105 Try.underlying3 (zero_int _) (w.heap.size + 1) (nb + 1) _ rfl (unhide HM7) _ _ rfl (unhide hkey) ?_; intro c2' hat2 hwc2; have hc2 : c2' = (lq : Int) := (by rw [hat0.out] at hat2; injection hat2 with h9; injection h9 with _ h9; exact h9.symm); subst hc2; clear hat2 hwc2))
            go_roundw
            case rel =>
              have hro6 : ∀ b, some (w.heap.size + 1) = some b → f b = 1 := fun b e => by injection e with e; rw [← e]; exact hgmr
              have hgA := World.grownBy_alloc w6 (.cells #[.int .i64 z] 3) none
              have hgs := gr_set w7 ⟨gr, q, none⟩ (.int .i64 (lq : Int))
              obtain ⟨f', hf'⟩ : ∃ f', fset f (w6.alloc (.cells #[.int .i64 z] 3)).heap.size 4 = f' := ⟨_, rfl⟩
              have hR7 := (unhide HRW7)
              rw [hf'] at hR7
              have hfl : ∀ b, b < (w6.alloc (.cells #[.int .i64 z] 3)).heap.size → f' b = f b := fun b h9 => by rw [← hf']; exact fset_lt b h9
              have hro : ∀ b, (some gr : Option Nat) = some b → f' b = 7 + k := fun b e => by injection e with e; rw [← e]; exact hR7.2 gr rfl
              have hst := hR7.1.stored q (.int .i64 (lq : Int))
              have hX := unhide HXX
              have hb6 := hbj.grown HG6.out hbj.size (fun b e => by injection e with e; omega)
              have hbA := hb6.alloc hb6.size (.cells #[.int .i64 z] 3)
              have hb7 := hbA.grown HG7.out hbA.size (own_block (unhide hRA).1)
              have hB7 := (((hX.2.2.1.keep (f' := f) HG6.out (fun b e => by have := hro6 b e; omega) (fun _ _ => rfl)).keep (f' := f) hgA none_r (fun _ _ => rfl)).keep (f' := f') HG7.out (fun b e => by have := hmrole b e; omega) hfl)
              have hT7 := (((hX.2.2.2.keep (f' := f) HG6.out (fun b e => by have := hro6 b e; omega) (fun _ _ => rfl)).keep (f' := f) hgA none_r (fun _ _ => rfl)).keep (f' := f') HG7.out (fun b e => by have := hmrole b e; omega) hfl)
              have hM7 : RowO f' 4 w7 w.heap.size 3 (.slice mA7 (lq + 1) mc7) (Mq ++ [z]).length ((Mq ++ [z]).map (Value.int .i64)) := by
                have h9 := (unhide hRA).app (unhide HO7) hat7
                rw [hf'] at h9
                rw [List.length_append, HLQ.out, List.map_append]
                exact h9
              have hP7 : MapO f' w7 (w.heap.size + 1) (Mq ++ [z]) := ⟨nb + 1, _, by simp; omega, unhide HM7, unhide HP2, (hfl _ (by simp; omega)).trans hgmr⟩
              have hXX : ExI f' w w7 g k k (nums rs) bs (Mq ++ [z]) (.slice mA7 (lq + 1) mc7) nv ev vs := ⟨hP7, hM7, hB7, hT7⟩
              refine ⟨q + 1, by go_num, by omega, Lib.hid ⟨f', by rw [HNX.out, insI_out HOUT.out]; exact hXX.keep hgs (fun b e => by have := hro b e; omega) (fun _ _ => rfl), xs.set q (lq : Int), by rw [List.length_set]; exact HXL.out, fun j hj => ?_, ?_, hR7.2⟩, hb7.setCell hgr3 _⟩
              · by_cases hjq : j = q
                · subst hjq
                  rw [List.getElem?_set_self (by have := HXL.out; omega), HTQ.out, HNM.out, insI_out HOUT.out, HIX.out]
                · rw [List.getElem?_set_ne (fun e => hjq e.symm)]; exact (unhide HXS) j (by omega)
              · rw [List.map_set]; exact hst.1
            case measure => simp [intOf]; omega
        · obtain rfl : q = 3 := by omega
          obtain ⟨f, hX, xs, hxl, hxs, hRw⟩ := unhide hR
          have hxt : xs = tRow (nums rs) (ord (nums rs)) k := by
            apply List.ext_getElem?
            intro j
            by_cases hj : j < 3
            · exact hxs j hj
            · rw [List.getElem?_eq_none (by omega), List.getElem?_eq_none (by simp [tRow]; omega)]
          subst hxt
          have HMN := Lib.hid (show mst (nums rs) (k + 1) = mIn (nums rs) s 3 M by rw [mst_in (by rw [HM.out, HL.out]; exact hlt), HM.out, HS.out])
          obtain ⟨M3, hM3⟩ : ∃ M3, mIn (nums rs) s 3 M = M3 := ⟨_, rfl⟩
          have hpre : M <+: M3 := by rw [← hM3]; exact mIn_pre _ _ _ _
          rw [hM3] at hX HMN
          have hg3 : GoodM n M3 := by
            have h1 := mIn_good HV.out (s := s) (by rw [HLEN.out]; exact hsr) (M := M) (by rw [HLEN.out]; exact HG.out) 3 (by omega)
            rw [HLEN.out, hM3] at h1; exact h1
          obtain ⟨l3, hl3⟩ : ∃ l3, M3.length = l3 := ⟨_, rfl⟩
          have hMn3 : l3 ≤ n := by rw [← hl3]; exact hg3.len
          have hll : l ≤ l3 := by have := hpre.length_le; have := HL.out; omega
          obtain ⟨mA', mc', hmv', -, -, -, hgm⟩ := own_vs hX.2.1.1
          obtain ⟨gt, rfl, -⟩ := hgm (by omega)
          have hkm : (M3.map (Value.int .i64))[k]? = some (.int .i64 s) := by
            rw [List.getElem?_map]
            have h2 := pre_getD hpre (k := k) (by have := HL.out; omega)
            rw [HS.out] at h2
            rw [List.getD_eq_getElem?_getD, List.getElem?_eq_getElem (by omega)] at h2
            rw [List.getElem?_eq_getElem (by omega)]
            simp at h2
            simp [h2]
          have HKM := Lib.hid hkm
          rw [hl3] at hmv'
          subst hmv'
          have hT := hX.2.2.2
          have hw2z := hbj.size
          have hTA := hT.keep (World.grownBy_alloc wj (.cells #[.slice (some ⟨gr, 0, none⟩) 3 3] 55) none) none_r (fun _ _ => rfl)
          have hRA := hRw.keep (World.grownBy_alloc wj (.cells #[.slice (some ⟨gr, 0, none⟩) 3 3] 55) none) none_r (fun _ _ => rfl)
          have hbA := hbj.alloc hbj.size (.cells #[.slice (some ⟨gr, 0, none⟩) 3 3] 55)
          have p0 : wj.cell? ⟨g, 0, none⟩ = some nv := by rw [cell_of_row wj _ 0 _ _ _ hT.1.1]; rfl
          have HTA := hide hTA
          have HRA := hide hRA
          have HBA := Lib.hid hbA
          have HXX := hide hX
          have k3 : (k : Int) < (l3 : Int) := by omega
          have HER := Lib.hid (show eRow (ord (nums rs)) bs k = bs.getD s.toNat false by
            rw [eRow, ord_at (by rw [HM.out, HL.out]; exact hlt) (by rw [HLEN.out]; omega), HM.out, HS.out])
          obtain ⟨x, hx⟩ : ∃ x, bs.getD s.toNat false = x := ⟨_, rfl⟩
          have HL3 := Lib.hid (show k + 1 ≤ M3.length by omega)
          have HL33 := Lib.hid hl3
          clear hR hX hxl hxs hRw hT hTA hRA hbA hpre hg3 hM3 hl3 hgm hkm hy0 hy1 hy2
          go_upto_region 21 with (at_builtin; go_must (refine wpList_append_own_at _ rfl (.tmp 71) (.tmp 73) 44 rfl w.heap.size 55 tr (.slice none 0 0) 1 24 Try.underlying44 (unhide HUR) hx0 hx1 hx2 rfl (by decide) nv k vs rfl (unhide HTA).2.1.1.1 ⟨wj.heap.size, 0, none⟩ 1 1 [.slice (some ⟨gr, 0, none⟩) 3 3] rfl rfl (cell_one_lit _ _ _) (by simp [Value.oneCell']) (by unfold maxLen; omega) (by omega) (by simp; omega) ?_); go_must (intro nv' w9 hown9 hgrow9 _ hat9; obtain ⟨An, cn, hnv9, -, -, -, -⟩ := own_vs hown9; subst hnv9; have hbx9 := ((unhide HTA).1.keep (f' := f) hgrow9 (fun b' e' => by have := (unhide HTA).2.1.1.2 b' e'; omega) (fun _ _ => rfl)).1; have x90 : w9.cell? ⟨g, 0, none⟩ = some nv := (by rw [cell_of_row w9 _ 0 _ _ _ hbx9]; rfl); have y90 : w9.frozen? ⟨g, 0, none⟩ = false := frozen_of_row _ _ _ _ _ hbx9))
          have hT10 := (unhide HTA).next (unhide HRA) rfl hgrow9 hown9 hat9
          have hb9 := HBA.out.grown hgrow9 HBA.out.size (own_block (unhide HTA).2.1.1.1)
          have hgbase : w.heap.size ≤ g := by omega
          have hb10 : Below w.heap.size w (w9.setCell ⟨g, 0, none⟩ (.slice An (k + 1) cn)) := hb9.setCell hgbase _
          obtain ⟨f10, hf10⟩ : ∃ f10, fset f (wj.alloc (.cells #[.slice (some ⟨gr, 0, none⟩) 3 3] 55)).heap.size 5 = f10 := ⟨_, rfl⟩
          have hfl : ∀ b, b < (wj.alloc (.cells #[.slice (some ⟨gr, 0, none⟩) 3 3] 55)).heap.size → f10 b = f b := fun b h9 => by rw [← hf10]; exact fset_lt b h9
          rw [hf10] at hT10
          have hgA := World.grownBy_alloc wj (.cells #[.slice (some ⟨gr, 0, none⟩) 3 3] 55) none
          have hgs := gr_set w9 ⟨g, 0, none⟩ (.slice An (k + 1) cn)
          have hr5 := (unhide HTA).2.1.1.2
          have hr3 : ∀ b, (some g : Option Nat) = some b → f10 b = 3 := fun b e => by injection e with e; rw [← e]; exact hT10.1.2
          have hM10 := (((unhide HXX).1.keep (f' := f) hgA none_r (fun _ _ => rfl)).keep (f' := f10) hgrow9 (fun b e => by have := hr5 b e; omega) hfl).keep (f' := f10) hgs (fun b e => by have := hr3 b e; omega) (fun _ _ => rfl)
          have hO10 := (((unhide HXX).2.1.keep (f' := f) hgA none_r (fun _ _ => rfl)).keep (f' := f10) hgrow9 (fun b e => by have := hr5 b e; omega) hfl).keep (f' := f10) hgs (fun b e => by have := hr3 b e; omega) (fun _ _ => rfl)
          have hB10 := (((unhide HXX).2.2.1.keep (f' := f) hgA none_r (fun _ _ => rfl)).keep (f' := f10) hgrow9 (fun b e => by have := hr5 b e; omega) hfl).keep (f' := f10) hgs (fun b e => by have := hr3 b e; omega) (fun _ _ => rfl)
          obtain ⟨w10, h10⟩ : ∃ w10, w9.setCell ⟨g, 0, none⟩ (.slice An (k + 1) cn) = w10 := ⟨_, rfl⟩
          obtain ⟨vs10, hvs10⟩ : ∃ vs10, vs ++ [Value.slice (some ⟨gr, 0, none⟩) 3 3] = vs10 := ⟨_, rfl⟩
          rw [h10] at hT10 hb10 hM10 hO10 hB10 ⊢
          rw [hvs10] at hT10
          have hX10 : ExI f10 w w10 g (k + 1) k (nums rs) bs M3 (.slice (some ⟨gt, 0, none⟩) l3 mc') (.slice An (k + 1) cn) ev vs10 := ⟨hM10, hO10, hB10, hT10⟩
          have HX10 := hide hX10
          have hbx10 := hT10.1.1
          have hgl : g < w10.heap.size := blk_lt hbx10
          have hko10 : w10.cell? ⟨gt, k, none⟩ = some (.int .i64 s) := by
            have h9 := hO10.1
            rw [HL33.out] at h9
            rw [h9.cellAt k (by omega), HKM.out]
          have hdx : w10.heap[gd]? = some (.cells #[.slice A n c, .slice A2 n c2] 50) := (hb10.block _ hgd).trans HBOX.out
          have hd1 : w10.drew.cell? ⟨gd, 1, none⟩ = some (.slice A2 n c2) := by
            show w10.cell? ⟨gd, 1, none⟩ = some (.slice A2 n c2)
            rw [cell_of_row w10 _ 1 _ _ _ hdx]; rfl
          have hC2 := trim2_any w10.drew gd A2 n c2 bs s hd1 ((unhide HH).2.up hb10.drew) (by omega) hsr
          rw [hx] at hC2
          rw [hx] at HER
          have l00 : w10.drew.cell? ⟨g, 1, none⟩ = some ev := by
            show w10.cell? ⟨g, 1, none⟩ = some ev
            rw [cell_of_row w10 _ 1 _ _ _ hbx10]; rfl
          have l10 : (w10.alloc (.cells #[.bool x] 4)).drew.cell? ⟨g, 1, none⟩ = some ev := by
            have d : (w10.alloc (.cells #[.bool x] 4)).drew.heap[g]? = some (.cells #[.slice An (k + 1) cn, ev] 50) := (Below.heap_alloc w10 _ g hgl).trans hbx10
            rw [cell_of_row _ _ 1 _ _ _ d]; rfl
          have l01 : w10.drew.cell? ⟨gt, k, none⟩ = some (.int .i64 s) := hko10
          have HTB : Hid (ExI f10 w (w10.alloc (.cells #[.bool x] 4)).drew g (k + 1) k (nums rs) bs M3 (.slice (some ⟨gt, 0, none⟩) l3 mc') (.slice An (k + 1) cn) ev vs10) := hX10.keep (gr_ad w10 _) none_r (fun _ _ => rfl)
          have HEB := hide (unhide HTB).2.2.2.2.2.1
          have hXA := (hb10.alloc hb10.size (.cells #[.bool x] 4)).drew
          have HXA := Lib.hid hXA
          have hw10z := hb10.size
          clear hT10 hb9 hb10 h10 hf10 hvs10 hM10 hO10 hB10 hX10 hbx9 x90 y90 hgrow9 hown9 hat9 hx0 hx1 hx2 hfl hgA hgs hr5 hr3 hdx hd1 hbx10 hko10 hXA
          go_region_law (first
            | (go_simp; go_at_call 91; (with_reducible refine hC2.mono ?_); rintro r w5 ⟨rfl, rfl⟩)
            | (refine step_own_at rfl (.tmp 77) (.tmp 84) 45 rfl w.heap.size 4 i0 (.bool false) 1 1 Try.underlying45 (unhide HUB) hz0 hz1 hzz2 rfl (by decide) ev k (((List.range k).map (eRow (ord (nums rs)) bs)).map Value.bool) rfl (unhide HEB) ⟨w10.heap.size, 0, none⟩ 1 1 [.bool x] rfl rfl (cell_one_lit w10 _ _) (by simp [Value.oneCell']) (by unfold maxLen; omega) (by omega) (by show w.heap.size ≤ (w10.alloc _).heap.size; simp; omega) ?_; intro ev' w11 hown11 hgrow11 hat11; obtain ⟨Ae, ce, hev11, -, -, -, -⟩ := own_vs hown11; subst hev11; have hbx11 := ((unhide HTB).2.2.2.1.keep (f' := f10) hgrow11 (fun b' e' => by have := (unhide HTB).2.2.2.2.2.2 b' e'; omega) (fun _ _ => rfl)).1; have x11 : w11.cell? ⟨g, 1, none⟩ = some ev := (by rw [cell_of_row w11 _ 1 _ _ _ hbx11]; rfl); have y11 : w11.frozen? ⟨g, 1, none⟩ = false := frozen_of_row _ _ _ _ _ hbx11))
          all_goals
            go_wp2
            go_roundw
            case rel =>
              have hTe := (unhide HTB).2.2.2.ends hgrow11 (by rw [HER.out]; exact hown11) hat11
              obtain ⟨f11, hf11⟩ : ∃ f11, fset f10 (w10.alloc (.cells #[.bool x] 4)).drew.heap.size 6 = f11 := ⟨_, rfl⟩
              have hfl : ∀ b, b < (w10.alloc (.cells #[.bool x] 4)).drew.heap.size → f11 b = f10 b := fun b h9 => by rw [← hf11]; exact fset_lt b h9
              rw [hf11] at hTe
              have hgs := gr_set w11 ⟨g, 1, none⟩ (.slice Ae (k + 1) ce)
              have hr6 := (unhide HTB).2.2.2.2.2.2
              have hr3 : ∀ b, (some g : Option Nat) = some b → f11 b = 3 := fun b e => by injection e with e; rw [← e]; exact hTe.1.2
              have hM11 := ((unhide HTB).1.keep (f' := f11) hgrow11 (fun b e => by have := hr6 b e; omega) hfl).keep (f' := f11) hgs (fun b e => by have := hr3 b e; omega) (fun _ _ => rfl)
              have hO11 := ((unhide HTB).2.1.keep (f' := f11) hgrow11 (fun b e => by have := hr6 b e; omega) hfl).keep (f' := f11) hgs (fun b e => by have := hr3 b e; omega) (fun _ _ => rfl)
              have hB11 := ((unhide HTB).2.2.1.keep (f' := f11) hgrow11 (fun b e => by have := hr6 b e; omega) hfl).keep (f' := f11) hgs (fun b e => by have := hr3 b e; omega) (fun _ _ => rfl)
              refine ⟨k + 1, by go_num, by omega, Lib.hid (by rw [HMN.out]; exact HL3.out), Lib.hid ⟨f11, _, _, _, by rw [HMN.out]; exact ⟨hM11, hO11, hB11, hTe⟩⟩, (HXA.out.grown hgrow11 HXA.out.size (own_block (unhide HEB))).setCell hgbase _⟩
            case measure => simp [intOf]; omega
    · have hke : k = (mst (nums rs) k).length := by have := hkl.out; omega
      have hend := mst_end HV.out hg0 hke
      obtain ⟨f, nv, ev, vs, hX⟩ := unhide hT
      obtain ⟨hMp, hO, hB, hTr⟩ := hX
      obtain ⟨AN, cN, rsN, rfl, hvsN, hnums, hRS, hrows⟩ := hTr.2.1.rs'
      obtain ⟨AE, cE, rfl, -, -, -, -⟩ := own_vs hTr.2.2.1
      have p0 : wk.cell? ⟨g, 0, none⟩ = some (.slice AN k cN) := by rw [cell_of_row wk _ 0 _ _ _ hTr.1.1]; rfl
      have p1 : wk.cell? ⟨g, 1, none⟩ = some (.slice AE k cE) := by rw [cell_of_row wk _ 1 _ _ _ hTr.1.1]; rfl
      have x10 : wk.cell? ⟨w.heap.size, 0, none⟩ = some (.slice none 0 0) := by rw [cell_of_row wk _ 0 _ _ _ hB.1]; rfl
      have x11 : wk.cell? ⟨w.heap.size, 1, none⟩ = some (.slice none 0 0) := by rw [cell_of_row wk _ 1 _ _ _ hB.1]; rfl
      have y10 : wk.frozen? ⟨w.heap.size, 0, none⟩ = false := frozen_of_row _ _ _ _ _ hB.1
      have y11 : wk.frozen? ⟨w.heap.size, 1, none⟩ = false := frozen_of_row _ _ _ _ _ hB.1
      have hlk : (ord (nums rs)).length = k := by rw [hend]; exact hke.symm
      have HFIN := Lib.hid (show nums rsN = trimR (nums rs) ∧ RowO f 5 wk w.heap.size 55 (.slice AN k cN) k (rsN.map slV) ∧ RowO f 6 wk w.heap.size 4 (.slice AE k cE) k ((trimE (nums rs) bs).map Value.bool) from ⟨by rw [hnums, trimR, hlk], by rw [← hvsN]; exact hTr.2.1.1, by rw [trimE, hlk]; exact hTr.2.2⟩)
      have HROW := hide hrows
      have HB := hide hB
      obtain ⟨mA, mc, hmv, -, -, -, -⟩ := own_vs hO.1
      obtain ⟨l, hl⟩ : ∃ l, (mst (nums rs) k).length = l := ⟨_, rfl⟩
      rw [hl] at hmv hke
      clear hMp hO hB hTr hnums hRS hrows hend hkl hML hgood hlt hT hvsN hlk hl
      subst hmv
      subst hke
      go_wp2
      have hF : ((wk.setCell ⟨w.heap.size, 0, none⟩ (.slice AN k cN)).setCell ⟨w.heap.size, 1, none⟩ (.slice AE k cE)).heap[w.heap.size]? = some (.cells #[.slice AN k cN, .slice AE k cE] 50 (0, 0)) := heap_set (heap_set (unhide HB).1 _ _) _ _
      have hg1 := gr_set wk ⟨w.heap.size, 0, none⟩ (.slice AN k cN)
      have hg2 := gr_set (wk.setCell ⟨w.heap.size, 0, none⟩ (.slice AN k cN)) ⟨w.heap.size, 1, none⟩ (.slice AE k cE)
      have hr2 : ∀ b, (some w.heap.size : Option Nat) = some b → f b = 2 := fun b e => by injection e with e; rw [← e]; exact (unhide HB).2
      refine bodyPost_ret (results_cell3 rfl _ _ w.heap.size 50 #[.slice AN k cN, .slice AE k cE] (0, 0) _ rfl hF Try.underlying50 rfl (by kernel_rfl)) rfl ?_
      obtain ⟨f1, f2, f3⟩ := HFIN.out
      refine ⟨(hbk.setCell (Nat.le_refl _) _).setCell (Nat.le_refl _) _, f, AN, k, cN, AE, cE, rsN, .slice mA k mc, rfl, by omega, f1, ?_, fun j r hr => ?_, ?_⟩
      · exact (f2.keep hg1 (fun b e => by have := hr2 b e; omega) (fun _ _ => rfl)).keep hg2 (fun b e => by have := hr2 b e; omega) (fun _ _ => rfl)
      · obtain ⟨q1, q2⟩ := (unhide HROW) j r hr
        exact ⟨(q1.keep hg1 (fun b e => by have := hr2 b e; omega) (fun _ _ => rfl)).keep hg2 (fun b e => by have := hr2 b e; omega) (fun _ _ => rfl), q2⟩
      · exact (f3.keep hg1 (fun b e => by have := hr2 b e; omega) (fun _ _ => rfl)).keep hg2 (fun b e => by have := hr2 b e; omega) (fun _ _ => rfl)
end Go.Proofs.Ytcphbncgkemdoaa
