/-
  Automata without the states that cannot be reached: the reference's walk.
-/
import Derived.Test.YtcphbncgkemdoaaTrimC
import Derived.Deep.RegionHeld3
import Derived.Deep.RegionLaw
namespace Go.Proofs.Ytcphbncgkemdoaa
open Go.RowKit
set_option linter.unusedVariables false
set_option maxRecDepth 100000

theorem boolc2_info : (Try.prog.info? 4).map (fun i => (i.zero, i.size, i.bytes)) = some (some (.bool false), 1, 1) := by kernel_rfl
theorem rowc_info : (Try.prog.info? 55).map (fun i => (i.zero, i.size, i.bytes)) = some (some (.slice none 0 0), 1, 24) := by kernel_rfl
theorem bel_al {a w : World} (o : Obj) (h : Below a.heap.size a w) : Below a.heap.size a (w.alloc o) := h.alloc h.size o
theorem bel_al2 {B : Nat} {a w : World} (o : Obj) (hB : B ≤ w.heap.size) (h : Below B a w) : Below B a (w.alloc o) := h.alloc hB o
theorem gr_ad (w : World) (o : Obj) : w.grownBy (w.alloc o).drew none := bel_gr (((Below.refl _ _).alloc (Nat.le_refl _) _).drew)
theorem VS.setc {w : World} {A : Option Addr} {n : Nat} {vs : List Value} (h : VS w w.heap.size A n vs) (a : Addr) (u : Value) (hne : ∀ b o, 0 < n → A = some ⟨b, o, none⟩ → b ≠ a.block) : VS (w.setCell a u) (w.setCell a u).heap.size A n vs := by
  refine ⟨h.1, fun hn => ?_⟩
  obtain ⟨b, off, e1, hb, hc⟩ := h.2 hn
  exact ⟨b, off, e1, by rw [size_set]; exact hb, fun i v hi => (World.cell?_setCell_other w a ⟨b, off + i, none⟩ u (by intro e; exact hne _ _ hn e1 (by rw [e]))).trans (hc i v hi)⟩
/-- What both answer. -/
def outR (rows : List (List Int)) (m : Nat) : List (List Int) := if dfaB rows m = true then trimR rows else []
def outE (rows : List (List Int)) (m : Nat) (bs : List Bool) : List Bool := if dfaB rows m = true then trimE rows bs else []
/-- What the reference leaves. -/
def SpecTr (w : World) (rows : List (List Int)) (m : Nat) (bs : List Bool) (r : Ending) (w' : World) : Prop :=
  Below w.heap.size w w' ∧ ∃ (A : Option Addr) (n c : Nat) (A2 : Option Addr) (m' c2 : Nat) (rs : List RowV), r = .returned (dfaV A n c A2 m' c2) ∧ n ≤ 40 ∧ m' = n ∧ nums rs = outR rows m ∧ (∀ x ∈ rs, x.2.1 ≤ 3) ∧ DfaS w' A n A2 m' rs (outE rows m bs)
theorem dfa_good {rows : List (List Int)} {m : Nat} (h : dfaB rows m = true) : RowsB rows ∧ 0 < rows.length ∧ rows.length ≤ 40 ∧ m = rows.length := by
  rw [dfaB, Bool.and_eq_true, Bool.and_eq_true, List.all_eq_true, decide_eq_true_eq] at h
  obtain ⟨h1, h2, h3⟩ := h
  have := inB_true.1 h2
  exact ⟨h1, by omega, by omega, by omega⟩
/-- The first names in a row. -/
def tPre (rows : List (List Int)) (O : List Int) (k c : Nat) : List Int := (List.range c).map fun q => nmI O (nx rows (O.getD k 0) q)
theorem tPre_all (rows : List (List Int)) (O : List Int) (k : Nat) : tPre rows O k 3 = tRow rows O k := rfl
theorem tPre_snoc (rows : List (List Int)) (O : List Int) (k c : Nat) : tPre rows O k (c + 1) = tPre rows O k c ++ [nmI O (nx rows (O.getD k 0) c)] := range_snoc _ _
theorem tPre_len (rows : List (List Int)) (O : List Int) (k c : Nat) : (tPre rows O k c).length = c := by simp [tPre]
theorem own_zero (w : World) (base : Nat) (t : TypeId) (hb : base ≤ w.heap.size) : (w.alloc (.cells #[] t)).ownsRow base t 1 (.slice (some ⟨w.heap.size, 0, none⟩) 0 0) 0 [] :=
  ⟨rfl, .inr ⟨w.heap.size, 0, #[], rfl, hb, heap_alloc_new w _, Nat.le_refl _, by simp [maxLen], rfl, rfl⟩⟩
theorem ord_good {rows : List (List Int)} (h : RowsB rows) (h0 : 0 < rows.length) : GoodM rows.length (ord rows) := mst_good h h0 _
set_option maxHeartbeats 8000000 in
theorem specDfaTrim_any (w : World) (A : Option Addr) (n c : Nat) (A2 : Option Addr) (m c2 : Nat) (rs : List RowV) (bs : List Bool) (h : DfaS w A n A2 m rs bs) (hn : n ≤ 1048576) (hm : m ≤ 1048576) (hr : ∀ r ∈ rs, r.2.1 ≤ 1048576) :
    Calls Try.prog 45 #[dfaV A n c A2 m c2] w (SpecTr w (nums rs) m bs) := by
  have hb0 : Below w.heap.size w ((w.alloc (.cells #[.slice A n c, .slice A2 m c2] 50)).alloc (.cells #[.slice none 0 0, .slice none 0 0] 50)) := ((Below.refl _ _).alloc (Nat.le_refl _) _).alloc (by simp) _
  obtain ⟨W, hW⟩ : ∃ W, ((w.alloc (.cells #[.slice A n c, .slice A2 m c2] 50)).alloc (.cells #[.slice none 0 0, .slice none 0 0] 50)) = W := ⟨_, rfl⟩
  have b0 : W.heap[w.heap.size]? = some (.cells #[.slice A n c, .slice A2 m c2] 50) := by
    rw [← hW, Below.heap_alloc _ _ _ (by simp)]; exact heap_alloc_new _ _
  have b1 : W.heap[w.heap.size + 1]? = some (.cells #[.slice none 0 0, .slice none 0 0] 50) := by
    rw [← hW]
    have := heap_alloc_new (w.alloc (.cells #[.slice A n c, .slice A2 m c2] 50)) (.cells #[.slice none 0 0, .slice none 0 0] 50)
    rwa [World.size_alloc] at this
  have hs0 : W.heap.size = w.heap.size + 1 + 1 := by rw [← hW]; simp
  rw [hW] at hb0
  have HH := hide (h.up hb0)
  have HLEN := Lib.hid (show (nums rs).length = n by rw [nums_len, h.1.len])
  have hV := specDfaValid_any W A n c A2 m c2 rs (unhide HH).1 hn hm hr
  have HB0 := Lib.hid hb0
  have B0 := Lib.hid b0
  have B1 := Lib.hid b1
  have HS0 := Lib.hid hs0
  have HW := Lib.hid hW
  clear h hb0 b0 b1 hs0 hW
  go_enter Try.func45, Try.ntmps45
  go_wp2_with fail
  rw [HW.out]
  refine hV.mono ?_
  rintro r w1 ⟨rfl, hb1⟩
  have hbb1 := HB0.out.trans (hb1.mono HB0.out.size)
  have e1 : w1.heap[w.heap.size + 1]? = some (.cells #[.slice none 0 0, .slice none 0 0] 50) := (hb1.block _ (by have := HS0.out; omega)).trans B1.out
  have x10 : w1.cell? ⟨w.heap.size + 1, 0, none⟩ = some (.slice none 0 0) := by rw [cell_of_row w1 _ 0 _ _ _ e1]; rfl
  have x11 : w1.cell? ⟨w.heap.size + 1, 1, none⟩ = some (.slice none 0 0) := by rw [cell_of_row w1 _ 1 _ _ _ e1]; rfl
  have y10 : w1.frozen? ⟨w.heap.size + 1, 0, none⟩ = false := frozen_of_row _ _ _ _ _ e1
  have y11 : w1.frozen? ⟨w.heap.size + 1, 1, none⟩ = false := frozen_of_row _ _ _ _ _ e1
  have E1 := Lib.hid e1
  clear e1 hV
  rcases hd : dfaB (nums rs) m
  · have HD := Lib.hid hd
    clear hd
    go_wp2
    have hF : ((w1.setCell ⟨w.heap.size + 1, 0, none⟩ (.slice none 0 0)).setCell ⟨w.heap.size + 1, 1, none⟩ (.slice none 0 0)).heap[w.heap.size + 1]? = some (.cells #[.slice none 0 0, .slice none 0 0] 50 (0, 0)) := heap_set (heap_set E1.out _ _) _ _
    refine bodyPost_ret (results_cell_row rfl _ _ (w.heap.size + 1) 50 #[.slice none 0 0, .slice none 0 0] (0, 0) _ rfl hF Try.underlying50 rfl (by kernel_rfl)) rfl ?_
    refine ⟨(hbb1.setCell (by show w.heap.size ≤ w.heap.size + 1; omega) _).setCell (by show w.heap.size ≤ w.heap.size + 1; omega) _, none, 0, 0, none, 0, 0, [], rfl, by omega, rfl, by rw [outR, HD.out]; rfl, (fun x hx => nomatch hx), ?_, ?_⟩
    · exact ⟨⟨rfl, fun h => absurd h (by omega)⟩, fun r hr => nomatch hr⟩
    · rw [outE, HD.out]; exact ⟨rfl, fun h => absurd h (by omega)⟩
  · obtain ⟨hv, h0, h40, hmn⟩ := dfa_good hd
    have HD := Lib.hid hd
    have HV := Lib.hid hv
    rw [HLEN.out] at h0 h40 hmn
    subst hmn
    have HG := Lib.hid (show GoodM m (ord (nums rs)) by have := ord_good hv (by rw [HLEN.out]; exact h0); rwa [HLEN.out] at this)
    clear hd hv x10 x11 y10 y11
    have c0 : w1.cell? ⟨w.heap.size, 0, none⟩ = some (.slice A m c) ∧ w1.cell? ⟨w.heap.size, 1, none⟩ = some (.slice A2 m c2) := by
      have d := (hb1.block w.heap.size (by have := HS0.out; omega)).trans B0.out
      exact ⟨by rw [cell_of_row w1 _ 0 _ _ _ d]; rfl, by rw [cell_of_row w1 _ 1 _ _ _ d]; rfl⟩
    obtain ⟨c00, c01⟩ := c0
    go_wp2_with fail
    refine (l7Order_any w1 A m c A2 m c2 rs ((unhide HH).1.up hb1) h40 h0 HV.out).mono ?_
    rintro r w2 ⟨hb2, ov, rfl, hov⟩
    obtain ⟨O, hO⟩ : ∃ O, ord (nums rs) = O := ⟨_, rfl⟩
    rw [hO] at HG hov
    have HO := Lib.hid hO
    obtain ⟨lo, hlo⟩ : ∃ lo, O.length = lo := ⟨_, rfl⟩
    rw [hlo] at hov
    have HLO := Lib.hid hlo
    have hlo40 : lo ≤ 40 := by have := HG.out.len; omega
    have hW2 : Below W.heap.size W w2 := hb1.trans (hb2.mono hb1.size)
    have D0 := Lib.hid ((hW2.block w.heap.size (by have := HS0.out; omega)).trans B0.out)
    have D1 := Lib.hid ((hW2.block (w.heap.size + 1) (by have := HS0.out; omega)).trans B1.out)
    have hz2 : w.heap.size + 1 + 1 ≤ w2.heap.size := by have := hW2.size; have := HS0.out; omega
    have hbb2 := hbb1.trans (hb2.mono hbb1.size)
    have HW2 := Lib.hid hW2
    have HBB2 := Lib.hid hbb2
    obtain ⟨oA, oc, hov', -, -, -, -⟩ := own_vs hov
    have HOV := hide hov
    obtain ⟨i0, hi0, hz0, hz1, hzz2⟩ := info_parts boolc2_info
    obtain ⟨ti, hi1, hy0, hy1, hy2⟩ := info_parts intz_info
    obtain ⟨tr, hi3, hx0, hx1, hx2⟩ := info_parts rowc_info
    have HUB := hide hi0
    have HUI := hide hi1
    have HUR := hide hi3
    have hb3 : Below w2.heap.size w2 (w2.alloc (.cells #[.slice none 0 0, .slice none 0 0] 50)) := (Below.refl _ _).alloc (Nat.le_refl _) _
    have hT0 : Hid (∃ f nv ev vs, TrO f (w2.alloc (.cells #[.slice none 0 0, .slice none 0 0] 50)) w2.heap.size w2.heap.size 0 0 (nums rs) O bs nv ev vs) :=
      ⟨fun _ => 3, .slice none 0 0, .slice none 0 0, [], ⟨heap_alloc_new _ _, rfl⟩, NextV.nil _ _ _, RowO.nil _ _ _ _ _⟩
    clear hi0 hi1 hi3 hO hlo hb1 hb2 hbb1 hbb2 hW2 hov
    subst hov'
    go_wp2
    go_loopw [5] (fun kv wr => ∃ k : Nat, kv = .int .i64 k ∧ k ≤ lo ∧ Hid (∃ f nv ev vs, TrO f wr w2.heap.size w2.heap.size k k (nums rs) O bs nv ev vs) ∧ Below w2.heap.size w2 wr) (fun kv _ => lo - (intOf kv).toNat)
    case atStart => exact ⟨0, rfl, Nat.zero_le _, hT0, hb3⟩
    case round =>
      rename World => wk
      clear hT0 hb3
      obtain ⟨k, rfl, hk, hT, hbk⟩ := hrel
      by_cases hlt : k < lo
      · obtain ⟨f, nv, ev, vs, hT⟩ := unhide hT
        obtain ⟨s, hs⟩ : ∃ s, O.getD k 0 = s := ⟨_, rfl⟩
        have hsm : s ∈ O := by rw [← hs]; exact mem_getD (by have := HLO.out; omega)
        have hsr := HG.out.2 s hsm
        have HS := Lib.hid hs
        have k0 : (0 : Int) ≤ (k : Int) := Int.natCast_nonneg _
        have k1 : (k : Int) < (lo : Int) := by omega
        have HR0 : Hid (∃ f, TrO f (wk.alloc (.cells #[] 3)) w2.heap.size w2.heap.size k k (nums rs) O bs nv ev vs ∧ RowO f (7 + k) (wk.alloc (.cells #[] 3)) w2.heap.size 3 (.slice (some ⟨wk.heap.size, 0, none⟩) 0 0) 0 ((tPre (nums rs) O k 0).map (Value.int .i64))) :=
          ⟨fset f wk.heap.size (7 + k), hT.keep (World.grownBy_alloc wk _ none) none_r fset_lt, own_zero wk _ _ hbk.size, fun b e => by simp [Value.ownBlock] at e; rw [← e]; exact fset_at⟩
        have hbk0 := hbk.alloc hbk.size (.cells #[] 3)
        clear hs hsm hT
        go_wp2
        go_loopw [6, 7] (fun rv cv wr => ∃ q : Nat, cv = .int .i64 q ∧ q ≤ 3 ∧ Hid (∃ f, TrO f wr w2.heap.size w2.heap.size k k (nums rs) O bs nv ev vs ∧ RowO f (7 + k) wr w2.heap.size 3 rv q ((tPre (nums rs) O k q).map (Value.int .i64))) ∧ Below w2.heap.size w2 wr) (fun _ cv _ => 3 - (intOf cv).toNat)
        case atStart => exact ⟨0, rfl, Nat.zero_le _, HR0, hbk0⟩
        case round =>
          rename World => wj
          clear HR0 hbk0
          obtain ⟨q, rfl, hq, hR, hbj⟩ := hrel
          have hWj : Below W.heap.size W wj := HW2.out.trans (hbj.mono HW2.out.size)
          by_cases hq3 : q < 3
          · obtain ⟨f, hT, hRw⟩ := unhide hR
            obtain ⟨i, b, off, b2, off2, cp, z, hsi, hi, hA, e1, e2, e3, hbW, hb2W⟩ := step_cells (unhide HH).1 HV.out hsr hq3
            subst hsi
            have ho2 := (unhide HOV).kept (bel_gr hbj) (own_or' _)
            obtain ⟨oA', oc', hov2, hoc2, hom2, hvo, hgo⟩ := own_vs ho2
            injection hov2 with q1 _ q3
            subst q1; subst q3
            obtain ⟨go, rfl, -⟩ := hgo (by omega)
            have hko : wj.cell? ⟨go, k, none⟩ = some (.int .i64 (i : Int)) := by
              rw [ho2.cellAt k (by omega), List.getElem?_map]
              have h2 := HS.out
              have hkl : k < O.length := by have := HLO.out; omega
              rw [List.getD_eq_getElem?_getD, List.getElem?_eq_getElem hkl] at h2
              rw [List.getElem?_eq_getElem hkl]
              simp at h2
              simp [h2]
            have hd0 : wj.heap[w.heap.size]? = some (.cells #[.slice A m c, .slice A2 m c2] 50) := (hbj.block _ (by omega)).trans D0.out
            have p0 : wj.cell? ⟨w.heap.size, 0, none⟩ = some (.slice A m c) := by rw [cell_of_row wj _ 0 _ _ _ hd0]; rfl
            have hgo2 : go < w2.heap.size := ((unhide HOV).lt go rfl).2
            have hWz := HW2.out.size
            have e1' := (hWj.cell (p := ⟨b, off + i, none⟩) hbW).trans e1
            have e2' := (hWj.cell (p := ⟨b2, off2 + q, none⟩) hb2W).trans e2
            have hS : ∀ W', Below w2.heap.size wj W' → W'.cell? ⟨w.heap.size, 0, none⟩ = some (.slice A m c) ∧ W'.cell? ⟨go, k, none⟩ = some (.int .i64 (i : Int)) ∧ W'.cell? ⟨b, off + i, none⟩ = some (.slice (some ⟨b2, off2, none⟩) 3 cp) ∧ W'.cell? ⟨b2, off2 + q, none⟩ = some (.int .i64 z) := fun W' h9 =>
              ⟨(h9.cell (p := ⟨w.heap.size, 0, none⟩) (show w.heap.size < w2.heap.size by omega)).trans p0, (h9.cell (p := ⟨go, k, none⟩) hgo2).trans hko, (h9.cell (p := ⟨b, off + i, none⟩) (show b < w2.heap.size by omega)).trans e1', (h9.cell (p := ⟨b2, off2 + q, none⟩) (show b2 < w2.heap.size by omega)).trans e2'⟩
            have hNm := l7Name_any wj.drew (some ⟨go, 0, none⟩) lo oc O z hvo (by omega)
            obtain ⟨x, hx⟩ : ∃ x, nmI O z = x := ⟨_, rfl⟩
            rw [hx] at hNm
            have HST := Lib.hid (show tPre (nums rs) O k (q + 1) = tPre (nums rs) O k q ++ [x] by rw [tPre_snoc, HS.out, e3, hx])
            have hX0 : Below w2.heap.size wj wj.drew := (Below.refl _ _).drew
            have hXA : Below w2.heap.size wj (wj.alloc (.cells #[.int .i64 x] 3)).drew := ((Below.refl _ _).alloc hbj.size _).drew
            have HRA : Hid (RowO f (7 + k) (wj.alloc (.cells #[.int .i64 x] 3)).drew w2.heap.size 3 u6 q ((tPre (nums rs) O k q).map (Value.int .i64))) := hRw.keep (gr_ad wj _) none_r (fun _ _ => rfl)
            have HTA : Hid (TrO f (wj.alloc (.cells #[.int .i64 x] 3)).drew w2.heap.size w2.heap.size k k (nums rs) O bs nv ev vs) := hT.keep (gr_ad wj _) none_r (fun _ _ => rfl)
            have i0' : (0 : Int) ≤ (i : Int) := Int.natCast_nonneg _
            have i1' : (i : Int) < (m : Int) := by omega
            have q0 : (0 : Int) ≤ (q : Int) := Int.natCast_nonneg _
            have q1 : (q : Int) < 3 := by omega
            have hw2z := hbj.size
            clear hT hRw hR ho2 hvo hgo hx e1 e2 e1' e2' e3 p0 hko hd0 hWj hi hbW hb2W hsr hz0 hz1 hzz2 hx0 hx1 hx2 hWz
            subst hA
            go_wp2
            go_region_held3 (fun w' => w'.cell? ⟨w.heap.size, 0, none⟩ = some (.slice (some ⟨b, off, none⟩) m c) ∧ w'.cell? ⟨go, k, none⟩ = some (.int .i64 (i : Int)) ∧ w'.cell? ⟨b, off + i, none⟩ = some (.slice (some ⟨b2, off2, none⟩) 3 cp) ∧ w'.cell? ⟨b2, off2 + q, none⟩ = some (.int .i64 z))
              (first | (refine hS _ ?_; first | exact hX0 | exact hXA | exact hC9))
              (first
                | (go_at_call 79; (with_reducible refine hNm.mono ?_); rintro r w5 ⟨rfl, rfl⟩)
                | (refine step_own_at rfl (.tmp 26) (.tmp 40) 55 rfl w2.heap.size 3 ti (.int .i64 0) 1 8 Try.underlying55 (unhide HUI) hy0 hy1 hy2 rfl (by decide) u6 q ((tPre (nums rs) O k q).map (Value.int .i64)) rfl (unhide HRA).1 ⟨wj.heap.size, 0, none⟩ 1 1 [.int .i64 x] rfl rfl (cell_one_lit wj _ _) (by simp [Value.oneCell']) (by unfold maxLen; omega) (by omega) (by have h9 := hXA.size; simp at h9 ⊢; omega) ?_; intro v9 w9 hown9 hgrow9 hat9; have hC9 := hXA.grown hgrow9 (by have h9 := hXA.size; simp at h9 ⊢; omega) (own_block (unhide HRA).1)))
            all_goals
              go_wp2
              go_roundw
            case rel =>
              have hrole := (unhide HRA).2
              refine ⟨q + 1, by go_num, by omega, Lib.hid ⟨fset f (wj.alloc (.cells #[.int .i64 x] 3)).drew.heap.size (7 + k), (unhide HTA).keep hgrow9 (fun b' e' => by have := hrole b' e'; omega) fset_lt, ?_⟩, hbj.trans hC9⟩
              have h9 := (unhide HRA).app hown9 hat9
              rw [HST.out, List.map_append]
              exact h9
            case measure => simp [intOf]; omega
          · obtain rfl : q = 3 := by omega
            obtain ⟨f, hT, hRw⟩ := unhide hR
            rw [tPre_all] at hRw
            obtain ⟨Ar, cr, hu6, -, -, -, -⟩ := own_vs hRw.1
            subst hu6
            have hw2z := hbj.size
            have hTA := hT.keep (World.grownBy_alloc wj (.cells #[.slice Ar 3 cr] 55) none) none_r (fun _ _ => rfl)
            have hRA := hRw.keep (World.grownBy_alloc wj (.cells #[.slice Ar 3 cr] 55) none) none_r (fun _ _ => rfl)
            have hbA := hbj.alloc hbj.size (.cells #[.slice Ar 3 cr] 55)
            have p0 : wj.cell? ⟨w2.heap.size, 0, none⟩ = some nv := by rw [cell_of_row wj _ 0 _ _ _ hT.1.1]; rfl
            have HTA := hide hTA
            have HRA := hide hRA
            have HBA := Lib.hid hbA
            -- what the region that draws reads
            obtain ⟨i, hsi⟩ : ∃ i : Nat, s = (i : Int) := ⟨s.toNat, by omega⟩
            obtain ⟨bE, offE, v, hA2, hbE, hve, hce⟩ := (unhide HH).2.at (show i < m by omega)
            obtain ⟨x, hx, rfl⟩ : ∃ x, bs[i]? = some x ∧ v = .bool x := by
              rw [List.getElem?_map] at hve
              cases hzz : bs[i]? with
              | none => rw [hzz] at hve; cases hve
              | some z => rw [hzz] at hve; injection hve with hve; exact ⟨z, rfl, hve.symm⟩
            have HER := Lib.hid (show eRow O bs k = x by rw [eRow, HS.out, hsi, Int.toNat_natCast, List.getD_eq_getElem?_getD, hx]; rfl)
            have hgoX : ∃ go, oA = some ⟨go, 0, none⟩ ∧ go < w2.heap.size ∧ w2.cell? ⟨go, k, none⟩ = some (.int .i64 (i : Int)) := by
              obtain ⟨oA', oc', hov2, -, -, -, hgo⟩ := own_vs (unhide HOV)
              injection hov2 with q1 _ q3
              subst q1
              obtain ⟨go, rfl, -⟩ := hgo (by omega)
              refine ⟨go, rfl, ((unhide HOV).lt go rfl).2, ?_⟩
              rw [(unhide HOV).cellAt k (by omega), List.getElem?_map]
              have h2 := HS.out
              have hkl : k < O.length := by have := HLO.out; omega
              rw [List.getD_eq_getElem?_getD, List.getElem?_eq_getElem hkl] at h2
              rw [List.getElem?_eq_getElem hkl]
              simp at h2
              simp [h2, hsi]
            obtain ⟨go, rfl, hgo2, hgo3⟩ := hgoX
            have hWz := HW2.out.size
            have hS : ∀ W', Below w2.heap.size w2 W' → W'.cell? ⟨w.heap.size, 1, none⟩ = some (.slice A2 m c2) ∧ W'.cell? ⟨go, k, none⟩ = some (.int .i64 (i : Int)) ∧ W'.cell? ⟨bE, offE + i, none⟩ = some (.bool x) := fun W' h9 => by
              have d := (h9.block w.heap.size (by omega)).trans D0.out
              exact ⟨by rw [cell_of_row W' _ 1 _ _ _ d]; rfl, (h9.cell (p := ⟨go, k, none⟩) hgo2).trans hgo3, ((HW2.out.trans (h9.mono hWz)).cell (p := ⟨bE, offE + i, none⟩) hbE).trans hce⟩
            have i0' : (0 : Int) ≤ (i : Int) := Int.natCast_nonneg _
            have i1' : (i : Int) < (m : Int) := by omega
            have HI := Lib.hid hsi
            clear hT hRw hR hTA hRA hbA hve hce hx hgo3 hy0 hy1 hy2 hsr hsi
            subst hA2
            go_upto_region 14 with (at_builtin; go_must (refine wpList_append_own_at _ rfl (.tmp 43) (.tmp 45) 44 rfl w2.heap.size 55 tr (.slice none 0 0) 1 24 Try.underlying44 (unhide HUR) hx0 hx1 hx2 rfl (by decide) nv k vs rfl (unhide HTA).2.1.1.1 ⟨wj.heap.size, 0, none⟩ 1 1 [.slice Ar 3 cr] rfl rfl (cell_one_lit _ _ _) (by simp [Value.oneCell']) (by unfold maxLen; omega) (by omega) (by simp; omega) ?_); go_must (intro nv' w9 hown9 hgrow9 _ hat9; obtain ⟨An, cn, hnv9, -, -, -, -⟩ := own_vs hown9; subst hnv9; have hbx9 := ((unhide HTA).1.keep (f' := f) hgrow9 (fun b' e' => by have := (unhide HTA).2.1.1.2 b' e'; omega) (fun _ _ => rfl)).1; have x90 : w9.cell? ⟨w2.heap.size, 0, none⟩ = some nv := (by rw [cell_of_row w9 _ 0 _ _ _ hbx9]; rfl); have y90 : w9.frozen? ⟨w2.heap.size, 0, none⟩ = false := frozen_of_row _ _ _ _ _ hbx9))
            have hT10 := (unhide HTA).next (unhide HRA) rfl hgrow9 hown9 hat9
            have hb9 := HBA.out.grown hgrow9 HBA.out.size (own_block (unhide HTA).2.1.1.1)
            have hb10 : Below w2.heap.size w2 (w9.setCell ⟨w2.heap.size, 0, none⟩ (.slice An (k + 1) cn)) := hb9.setCell (Nat.le_refl _) _
            obtain ⟨w10, h10⟩ : ∃ w10, w9.setCell ⟨w2.heap.size, 0, none⟩ (.slice An (k + 1) cn) = w10 := ⟨_, rfl⟩
            rw [h10] at hT10 hb10 ⊢
            obtain ⟨f10, hf10⟩ : ∃ f10, fset f (wj.alloc (.cells #[.slice Ar 3 cr] 55)).heap.size 5 = f10 := ⟨_, rfl⟩
            obtain ⟨vs10, hvs10⟩ : ∃ vs10, vs ++ [Value.slice Ar 3 cr] = vs10 := ⟨_, rfl⟩
            rw [hf10, hvs10] at hT10
            have hbx10 := hT10.1.1
            have hE10 := hT10.2.2.1
            have hw10 : w2.heap.size + 1 ≤ w10.heap.size := blk_lt hbx10
            have hTB : TrO f10 (w10.alloc (.cells #[.bool x] 4)).drew w2.heap.size w2.heap.size (k + 1) k (nums rs) O bs (.slice An (k + 1) cn) ev vs10 := hT10.keep (gr_ad w10 _) none_r (fun _ _ => rfl)
            have hS2 : ∀ W', Below (w2.heap.size + 1) w10 W' → W'.cell? ⟨w2.heap.size, 1, none⟩ = some ev ∧ W'.cell? ⟨w.heap.size, 1, none⟩ = some (.slice (some ⟨bE, offE, none⟩) m c2) ∧ W'.cell? ⟨go, k, none⟩ = some (.int .i64 (i : Int)) ∧ W'.cell? ⟨bE, offE + i, none⟩ = some (.bool x) := fun W' h9 => by
              have d := (h9.block w2.heap.size (by omega)).trans hbx10
              exact ⟨by rw [cell_of_row W' _ 1 _ _ _ d]; rfl, hS W' (hb10.trans (h9.mono (Nat.le_succ _)))⟩
            have hX0 : Below (w2.heap.size + 1) w10 w10.drew := (Below.refl _ _).drew
            have hXA : Below (w2.heap.size + 1) w10 (w10.alloc (.cells #[.bool x] 4)).drew := ((Below.refl _ _).alloc hw10 _).drew
            have HTB := hide hTB
            have HEB := hide hTB.2.2.1
            have HB10 := Lib.hid hb10
            have hev5 : ∀ b', ev.ownBlock = some b' → w2.heap.size + 1 ≤ b' := fun b' e' => by
              have h7 := hTB.2.2.2 b' e'
              have h8 := own_block hTB.2.2.1 b' e'
              have h6 := hTB.1.2
              have : b' ≠ w2.heap.size := fun e9 => by rw [e9] at h7; omega
              omega
            clear hT10 hb9 hb10 h10 hf10 hvs10 hbx10 hE10 hTB hS hbx9 x90 y90 hgrow9 hown9 hat9 hgo2 hbE hWz hx0 hx1 hx2
            obtain ⟨l00, l01, l02, l03⟩ := hS2 _ hX0
            obtain ⟨l10, l11, l12, l13⟩ := hS2 _ hXA
            go_region_law (first
                | (refine step_own_at rfl (.tmp 49) (.tmp 58) 45 rfl w2.heap.size 4 i0 (.bool false) 1 1 Try.underlying45 (unhide HUB) hz0 hz1 hzz2 rfl (by decide) ev k (((List.range k).map (eRow O bs)).map Value.bool) rfl (unhide HEB) ⟨w10.heap.size, 0, none⟩ 1 1 [.bool x] rfl rfl (cell_one_lit w10 _ _) (by simp [Value.oneCell']) (by unfold maxLen; omega) (by omega) (by have h9 := hXA.size; simp at h9 ⊢; omega) ?_; intro ev' w11 hown11 hgrow11 hat11; obtain ⟨Ae, ce, hev11, -, -, -, -⟩ := own_vs hown11; subst hev11; have hC11 := hXA.grown hgrow11 (by have h9 := hXA.size; simp at h9 ⊢; omega) hev5; have hbx11 := ((unhide HTB).1.keep (f' := f10) hgrow11 (fun b' e' => by have := (unhide HTB).2.2.2 b' e'; omega) (fun _ _ => rfl)).1; have x11 : w11.cell? ⟨w2.heap.size, 1, none⟩ = some ev := (by rw [cell_of_row w11 _ 1 _ _ _ hbx11]; rfl); have y11 : w11.frozen? ⟨w2.heap.size, 1, none⟩ = false := frozen_of_row _ _ _ _ _ hbx11))
            all_goals
              go_wp2
              go_roundw
              case rel =>
                refine ⟨k + 1, by go_num, by omega, Lib.hid ⟨_, _, _, _, (unhide HTB).ends hgrow11 ?_ hat11⟩, (HB10.out.trans (hC11.mono (Nat.le_succ _))).setCell (Nat.le_refl _) _⟩
                rw [HER.out]
                exact hown11
              case measure => simp [intOf]; omega
      · obtain rfl : k = lo := by omega
        obtain ⟨f, nv, ev, vs, hT⟩ := unhide hT
        obtain ⟨AN, cN, rsN, rfl, -, hnums, hRS, hrows⟩ := hT.2.1.rs'
        obtain ⟨AE, cE, rfl, -, -, hVE, hgE⟩ := own_vs hT.2.2.1
        obtain ⟨AN', cN', hnv2, -, -, -, hgN⟩ := own_vs hT.2.1.1.1
        injection hnv2 with q1 _ q3
        subst q1; subst q3
        have p0 : wk.cell? ⟨w2.heap.size, 0, none⟩ = some (.slice AN k cN) := by rw [cell_of_row wk _ 0 _ _ _ hT.1.1]; rfl
        have p1 : wk.cell? ⟨w2.heap.size, 1, none⟩ = some (.slice AE k cE) := by rw [cell_of_row wk _ 1 _ _ _ hT.1.1]; rfl
        have e1 : wk.heap[w.heap.size + 1]? = some (.cells #[.slice none 0 0, .slice none 0 0] 50) := (hbk.block _ (by omega)).trans D1.out
        have x10 : wk.cell? ⟨w.heap.size + 1, 0, none⟩ = some (.slice none 0 0) := by rw [cell_of_row wk _ 0 _ _ _ e1]; rfl
        have x11 : wk.cell? ⟨w.heap.size + 1, 1, none⟩ = some (.slice none 0 0) := by rw [cell_of_row wk _ 1 _ _ _ e1]; rfl
        have y10 : wk.frozen? ⟨w.heap.size + 1, 0, none⟩ = false := frozen_of_row _ _ _ _ _ e1
        have y11 : wk.frozen? ⟨w.heap.size + 1, 1, none⟩ = false := frozen_of_row _ _ _ _ _ e1
        have hbW := HBB2.out.trans (hbk.mono HBB2.out.size)
        have HFIN := Lib.hid (show Below w.heap.size w wk ∧ RS wk wk.heap.size AN k rsN ∧ VS wk wk.heap.size AE k (((List.range k).map (eRow O bs)).map Value.bool) ∧ nums rsN = (List.range k).map (tRow (nums rs) O) from ⟨hbW, hRS, hVE, hnums⟩)
        have HROW := hide hrows
        have HGE := Lib.hid hgE
        have HGN := Lib.hid hgN
        have HE1 := Lib.hid e1
        clear hT hnums hRS hrows hVE hgE hgN e1 hbW
        go_wp2
        have hF : ((wk.setCell ⟨w.heap.size + 1, 0, none⟩ (.slice AN k cN)).setCell ⟨w.heap.size + 1, 1, none⟩ (.slice AE k cE)).heap[w.heap.size + 1]? = some (.cells #[.slice AN k cN, .slice AE k cE] 50 (0, 0)) := heap_set (heap_set HE1.out _ _) _ _
        refine bodyPost_ret (results_cell_row rfl _ _ (w.heap.size + 1) 50 #[.slice AN k cN, .slice AE k cE] (0, 0) _ rfl hF Try.underlying50 rfl (by kernel_rfl)) rfl ?_
        obtain ⟨f1, f2, f3, f4⟩ := HFIN.out
        have hrow3 : ∀ r ∈ rsN, r.2.1 = 3 ∧ ∀ b o, 0 < r.2.1 → r.1 = some ⟨b, o, none⟩ → w2.heap.size ≤ b := by
          intro r hr9
          obtain ⟨j, hj, he⟩ := List.mem_iff_getElem.1 hr9
          obtain ⟨g1, g2⟩ := (unhide HROW) j r (by rw [List.getElem?_eq_getElem hj, he])
          have hin : r.2.2.2 ∈ nums rsN := List.mem_map.2 ⟨r, hr9, rfl⟩
          rw [f4] at hin
          obtain ⟨j2, -, he2⟩ := List.mem_map.1 hin
          refine ⟨by rw [g2, ← he2]; rfl, fun b o h9 e9 => ?_⟩
          obtain ⟨A9, c9, e8, -, -, -, hg9⟩ := own_vs g1.1
          injection e8 with e8
          obtain ⟨g, e7, hge⟩ := hg9 h9
          rw [e8, e7] at e9
          injection e9 with e9
          injection e9 with e9
          omega
        have hne : ∀ b, w2.heap.size ≤ b → b ≠ w.heap.size + 1 := fun b h9 => by omega
        refine ⟨(f1.setCell (by show w.heap.size ≤ w.heap.size + 1; omega) _).setCell (by show w.heap.size ≤ w.heap.size + 1; omega) _, AN, k, cN, AE, k, cE, rsN, rfl, by omega, rfl, ?_, fun x hx => by have := (hrow3 x hx).1; omega, ⟨?_, fun r hr9 => ⟨?_, (f2.2 r hr9).2⟩⟩, ?_⟩
        · rw [f4, outR, HD.out, if_pos rfl, trimR, HO.out, HLO.out]
        · exact (f2.1.setc _ _ (fun b o h9 e9 => hne b (by obtain ⟨g, e7, hge⟩ := HGN.out h9; rw [e7] at e9; injection e9 with e9; injection e9 with e9; omega))).setc _ _ (fun b o h9 e9 => hne b (by obtain ⟨g, e7, hge⟩ := HGN.out h9; rw [e7] at e9; injection e9 with e9; injection e9 with e9; omega))
        · exact ((f2.2 r hr9).1.setc _ _ (fun b o h9 e9 => hne b ((hrow3 r hr9).2 b o h9 e9))).setc _ _ (fun b o h9 e9 => hne b ((hrow3 r hr9).2 b o h9 e9))
        · rw [outE, HD.out, if_pos rfl, trimE, HO.out, HLO.out]
          exact (f3.setc _ _ (fun b o h9 e9 => hne b (by obtain ⟨g, e7, hge⟩ := HGE.out h9; rw [e7] at e9; injection e9 with e9; injection e9 with e9; omega))).setc _ _ (fun b o h9 e9 => hne b (by obtain ⟨g, e7, hge⟩ := HGE.out h9; rw [e7] at e9; injection e9 with e9; injection e9 with e9; omega))
end Go.Proofs.Ytcphbncgkemdoaa
