/-
  Derived expressions: the program's walk.
-/
import Derived.Test.YtadibjjjdbglaaaSimpS2
import Derived.Test.YtadibjjjdbglaaaEmpty2
namespace Go.Proofs.Ytadibjjjdbglaaa
open Go.RowKit
set_option linter.unusedVariables false
set_option maxRecDepth 100000

theorem der_len (lt : Int) (t : Ex) (h : t.sz ≤ 60) : (Ex.der lt t).flat.length ≤ 3800 := by
  have := Ex.der_sz lt t 60 h
  rw [Ex.flat_length]
  have h2 : t.sz * (60 + 3) ≤ 60 * (60 + 3) := Nat.mul_le_mul_right _ h
  omega
theorem simp_len' (t : Ex) (h : t.sz ≤ 60) : t.simp.flat.length ≤ 60 := by rw [Ex.flat_length]; exact Nat.le_trans (Ex.simp_sz t) h
theorem sJoin_len {x y : Ex} (hx : x.flat.length ≤ 3800) (hy : y.flat.length ≤ 3800) : (Ex.sJoin x y).flat.length ≤ 7700 := by
  have := Ex.sJoin_sz x y
  rw [Ex.flat_length] at *
  omega
theorem SL.le {w : World} {B : Nat} {A : Option Addr} {n c m : Nat} {e : List Pt} (h : SL w B A n c e) (hl : e.length ≤ m) : n ≤ m := by have := h.1.1; omega
namespace Ex
theorem der_leaf1 {lt k l : Int} (h : k = 1 ∨ k = 2) : (der lt (leaf k l)).flat = [(1, 0)] := by
  have : ¬ (k = 3 ∧ l = lt) := by rintro ⟨h1, _⟩; omega
  simp only [der, if_neg this]; rfl
theorem der_leaf3 {lt : Int} : (der lt (leaf 3 lt)).flat = [(2, 0)] := by simp [der]; rfl
theorem der_leaf3n {lt l : Int} (h : ¬ l = lt) : (der lt (leaf 3 l)).flat = [(1, 0)] := by
  have : ¬ ((3 : Int) = 3 ∧ l = lt) := by rintro ⟨_, h1⟩; exact h h1
  have e : der lt (leaf 3 l) = none1 := if_neg this
  rw [e]; rfl
theorem der_un7 {lt : Int} {a : Ex} : der lt (un 7 a) = sNot (der lt a) := by simp [der]
theorem der_un8 {lt : Int} {a : Ex} : der lt (un 8 a) = sJoin (der lt a) (simp (un 8 a)) := by simp [der]
theorem der_bin4t {lt : Int} {x y : Ex} (h : x.emp = true) : der lt (bin 4 x y) = sEither (sJoin (der lt x) y.simp) (der lt y) := by simp [der, h]
theorem der_bin4f {lt : Int} {x y : Ex} (h : x.emp = false) : der lt (bin 4 x y) = sJoin (der lt x) y.simp := by simp [der, h]
theorem der_bin {lt k : Int} {x y : Ex} (h : ¬ k = 4) : der lt (bin k x y) = mk k (der lt x) (der lt y) := by simp [der, h]
end Ex
set_option maxHeartbeats 8000000 in
theorem derived_any (lt : Int) (t : Ex) : ∀ (w : World) (A : Option Addr) (n c : Nat) (hg : t.good) (h : SL w w.heap.size A n c t.flat) (hn : n ≤ 60),
    Calls Try.prog 72 #[.slice A n c, .int .i64 lt] w (RetP w (Ex.der lt t).flat) := by
  induction t with
  | leaf kd l =>
    intro w A n c hg h hn
    obtain ⟨b, off, m, rfl, hbB, hnm, hm, hk, hl⟩ := h.1.last
    simp only [Ex.kind, Ex.lett] at hk hl
    have hb0 : Below w.heap.size w (w.alloc (pbox kd l)) := (Below.refl _ _).alloc (Nat.le_refl _) _
    have hops := operands_any _ _ n c _ hg (h.up hb0).1 hn h.2.1 h.2.2.1
    have hbx := heap_alloc_new w (pbox kd l)
    have n1 : 1 ≤ n := by omega
    have HH := hide h
    have HNM := Lib.hid hnm
    have HG := hide hg
    clear h hnm
    have run : ∀ (w1 : World) (hb1 : Below (w.alloc (pbox kd l)).heap.size (w.alloc (pbox kd l)) w1), w1.cell? ⟨w.heap.size, 0, none⟩ = some (.int .i64 kd) ∧ w1.cell? ⟨w.heap.size, 1, none⟩ = some (.int .i64 l) ∧ Below w.heap.size w w1 := fun w1 hb1 => by
      obtain ⟨q1, q2⟩ := box_cells (box_below hbx hb1)
      exact ⟨q1, q2, hb0.trans (hb1.mono hb0.size)⟩
    have RUN := hide run
    clear run hbx hb0
    rcases hg with ⟨rfl | rfl, rfl⟩ | ⟨rfl, h0, h2⟩
    all_goals try
      (go_enter Try.func72, Try.ntmps72
       go_wp2_with fail
       refine hops.mono ?_
       rintro r w1 ⟨rfl, hb⟩
       obtain ⟨c0, c1, hbb⟩ := (unhide RUN) w1 hb
       clear hk hl hops
       go_wp2_with fail
       refine (leaf_any _ 1).mono ?_
       intro r w2 hd
       obtain ⟨A2, n2, c2, rfl, h2, hb2⟩ := (OwnD.ret hd (by simp)).opn
       go_wp2
       go_ret
       rw [Ex.der_leaf1 (by omega)]
       exact RetP.shut h2 (hbb.trans (hb2.mono hbb.size)))
    rcases hll : (l == lt)
    · have HLL := Lib.hid (show ¬ l = lt by simpa using hll)
      go_enter Try.func72, Try.ntmps72
      go_wp2_with fail
      refine hops.mono ?_
      rintro r w1 ⟨rfl, hb⟩
      obtain ⟨c0, c1, hbb⟩ := (unhide RUN) w1 hb
      clear hk hl hops
      go_wp2_with fail
      refine (leaf_any _ 1).mono ?_
      intro r w2 hd
      obtain ⟨A2, n2, c2, rfl, h2, hb2⟩ := (OwnD.ret hd (by simp)).opn
      go_wp2
      go_ret
      rw [Ex.der_leaf3n HLL.out]
      exact RetP.shut h2 (hbb.trans (hb2.mono hbb.size))
    · have hle : l = lt := by simpa using hll
      subst hle
      clear hll
      go_enter Try.func72, Try.ntmps72
      go_wp2_with fail
      refine hops.mono ?_
      rintro r w1 ⟨rfl, hb⟩
      obtain ⟨c0, c1, hbb⟩ := (unhide RUN) w1 hb
      clear hk hl hops
      go_wp2_with fail
      refine (leaf_any _ 2).mono ?_
      intro r w2 hd
      obtain ⟨A2, n2, c2, rfl, h2, hb2⟩ := (OwnD.ret hd (by simp)).opn
      go_wp2
      go_ret
      rw [Ex.der_leaf3]
      exact RetP.shut h2 (hbb.trans (hb2.mono hbb.size))
  | un kd a ih =>
    intro w A n c hg h hn
    obtain ⟨b, off, m, rfl, hbB, hnm, hm, hk, hl⟩ := h.1.last
    obtain ⟨l, hl0⟩ : ∃ l, (Ex.un kd a).lett = l := ⟨_, rfl⟩
    rw [hl0] at hl
    simp only [Ex.kind] at hk
    have hb0 : Below w.heap.size w (w.alloc (pbox kd l)) := (Below.refl _ _).alloc (Nat.le_refl _) _
    have hops := operands_any _ _ n c _ hg (h.up hb0).1 hn h.2.1 h.2.2.1
    have hbx := heap_alloc_new w (pbox kd l)
    have n1 : 1 ≤ n := by omega
    have HH := hide h
    have HNM := Lib.hid hnm
    have hla := h.1.len
    have hcc := h.2.1
    have hcm := h.2.2.1
    have HSZ := Lib.hid (show (Ex.un kd a).sz ≤ 60 by omega)
    simp only [Ex.sz] at hla
    have a1 : a.sz ≤ 60 := by omega
    have a2 : a.sz ≤ c := by omega
    have HA := hide (PS.un h.1)
    have HL := Lib.hid (der_len lt a a1)
    have HG := hide hg
    have hgd := Ex.der_good (c := lt) hg.2
    have HD := hide hgd
    clear h hnm hl0 hgd hla
    have run : ∀ (w1 : World) (hb1 : Below (w.alloc (pbox kd l)).heap.size (w.alloc (pbox kd l)) w1), w1.cell? ⟨w.heap.size, 0, none⟩ = some (.int .i64 kd) ∧ w1.cell? ⟨w.heap.size, 1, none⟩ = some (.int .i64 l) ∧ Below w.heap.size w w1 := fun w1 hb1 => by
      obtain ⟨q1, q2⟩ := box_cells (box_below hbx hb1)
      exact ⟨q1, q2, hb0.trans (hb1.mono hb0.size)⟩
    have RUN := hide run
    clear run hbx hb0
    obtain ⟨hkd, hga⟩ := hg
    rcases hkd with rfl | rfl
    · go_enter Try.func72, Try.ntmps72
      go_wp2_with fail
      refine hops.mono ?_
      rintro r w1 ⟨g, rfl, hgw, hcell, hb⟩
      obtain ⟨c0, c1, hbb⟩ := (unhide RUN) w1 hb
      have hcr : w1.cell? ⟨g, 0, none⟩ = some (.slice (some ⟨b, off, none⟩) a.sz c) := by rw [cell_of_row w1 _ 0 _ _ _ hcell]; rfl
      clear hk hl hops hcell
      go_wp2_with fail
      refine (ih _ _ _ _ hga (SL.tree ((unhide HA).up hbb) a2 hcm) a1).mono ?_
      intro r w2 hd
      obtain ⟨A2, n2, c2, rfl, h2, hb2⟩ := hd.opn
      have hn2 := h2.le HL.out
      have hbb2 := hbb.trans (hb2.mono hbb.size)
      have H2 := hide h2
      clear h2 hd
      go_wp2_with fail
      refine (not_any _ (unhide HD) _ _ _ _ (unhide H2) (by omega)).mono ?_
      intro r w3 hd
      obtain ⟨A3, n3, c3, rfl, h3, hb3⟩ := hd.opn
      go_wp2
      go_ret
      rw [Ex.der_un7]
      exact RetP.shut h3 (hbb2.trans (hb3.mono hbb2.size))
    · go_enter Try.func72, Try.ntmps72
      go_wp2_with fail
      refine hops.mono ?_
      rintro r w1 ⟨g, rfl, hgw, hcell, hb⟩
      obtain ⟨c0, c1, hbb⟩ := (unhide RUN) w1 hb
      have hcr : w1.cell? ⟨g, 0, none⟩ = some (.slice (some ⟨b, off, none⟩) a.sz c) := by rw [cell_of_row w1 _ 0 _ _ _ hcell]; rfl
      clear hk hl hops hcell
      go_wp2_with fail
      refine (ih _ _ _ _ hga (SL.tree ((unhide HA).up hbb) a2 hcm) a1).mono ?_
      intro r w2 hd
      obtain ⟨A2, n2, c2, rfl, h2, hb2⟩ := hd.opn
      have hn2 := h2.le HL.out
      have hbb2 := hbb.trans (hb2.mono hbb.size)
      have H2 := hide h2
      clear h2 hd
      go_wp2_with fail
      refine (simplified_any _ _ _ _ _ (unhide HG) ((unhide HH).up hbb2) hn).mono ?_
      intro r w3 hd
      obtain ⟨A3, n3, c3, rfl, h3, hb3⟩ := hd.opn
      have hn3 := h3.le (simp_len' _ HSZ.out)
      have hbb3 := hbb2.trans (hb3.mono hbb2.size)
      have H3 := hide h3
      have H23 := hide ((unhide H2).up hb3)
      clear h3 hd
      go_wp2_with fail
      refine (joined_any _ _ _ _ _ _ _ _ _ (unhide H23) (unhide H3) (by omega) (by omega)).mono ?_
      intro r w4 hd
      obtain ⟨A4, n4, c4, rfl, h4, hb4⟩ := hd.opn
      go_wp2
      go_ret
      rw [Ex.der_un8]
      exact RetP.shut h4 (hbb3.trans (hb4.mono hbb3.size))
  | bin kd x y ihx ihy =>
    intro w A n c hg h hn
    obtain ⟨b, off, m, rfl, hbB, hnm, hm, hk, hl⟩ := h.1.last
    obtain ⟨l, hl0⟩ : ∃ l, (Ex.bin kd x y).lett = l := ⟨_, rfl⟩
    rw [hl0] at hl
    simp only [Ex.kind] at hk
    have hb0 : Below w.heap.size w (w.alloc (pbox kd l)) := (Below.refl _ _).alloc (Nat.le_refl _) _
    have hops := operands_any _ _ n c _ hg (h.up hb0).1 hn h.2.1 h.2.2.1
    have hbx := heap_alloc_new w (pbox kd l)
    have n1 : 1 ≤ n := by omega
    have HH := hide h
    have HNM := Lib.hid hnm
    have hla := h.1.len
    have hcc := h.2.1
    have hcm := h.2.2.1
    simp only [Ex.sz] at hla
    have a1 : x.sz ≤ 60 := by omega
    have a2 : x.sz ≤ c := by omega
    have a3 : y.sz ≤ 60 := by omega
    have a4 : y.sz ≤ c - x.sz := by omega
    have a5 : c - x.sz ≤ maxLen := by omega
    have HA := hide (PS.bin h.1)
    have LX := Lib.hid (der_len lt x a1)
    have LY := Lib.hid (der_len lt y a3)
    have LS := Lib.hid (simp_len' y a3)
    have LJ := Lib.hid (sJoin_len (der_len lt x a1) (Nat.le_trans (simp_len' y a3) (by omega)))
    have HG := hide hg
    clear h hnm hl0 hla
    have run : ∀ (w1 : World) (hb1 : Below (w.alloc (pbox kd l)).heap.size (w.alloc (pbox kd l)) w1), w1.cell? ⟨w.heap.size, 0, none⟩ = some (.int .i64 kd) ∧ w1.cell? ⟨w.heap.size, 1, none⟩ = some (.int .i64 l) ∧ Below w.heap.size w w1 ∧ w.heap.size < w1.heap.size := fun w1 hb1 => by
      obtain ⟨q1, q2⟩ := box_cells (box_below hbx hb1)
      exact ⟨q1, q2, hb0.trans (hb1.mono hb0.size), box_lt (box_below hbx hb1)⟩
    have RUN := hide run
    clear run hbx hb0
    obtain ⟨hkd, hgx, hgy⟩ := hg
    have hkk : kd = 4 ∨ ((kd == 4) = false ∧ (kd == 1) = false ∧ (kd == 2) = false ∧ (kd == 3) = false ∧ (kd == 7) = false ∧ (kd == 8) = false) := by rcases hkd with rfl | rfl | rfl <;> decide
    rcases hkk with rfl | ⟨k4, k1, k2, k3, k7, k8⟩
    · obtain ⟨E, hE⟩ : ∃ E, x.emp = E := ⟨_, rfl⟩
      have HE := Lib.hid hE
      clear hE hkd
      go_enter Try.func72, Try.ntmps72
      go_wp2_with fail
      refine hops.mono ?_
      rintro r w1 ⟨g, b', o', hA, rfl, hgw, hcell, hb⟩
      injection hA with hA
      injection hA with hA1 hA2
      subst hA1; subst hA2
      obtain ⟨c0, c1, hbb, hpl⟩ := (unhide RUN) w1 hb
      have hg1 : g < w1.heap.size := (Array.getElem?_eq_some_iff.1 hcell).1
      have hcr : w1.cell? ⟨g, 0, none⟩ = some (.slice (some ⟨b, off, none⟩) x.sz c) := by rw [cell_of_row w1 _ 0 _ _ _ hcell]; rfl
      have hcr2 : w1.cell? ⟨g, 1, none⟩ = some (.slice (some ⟨b, off + x.sz * 2, none⟩) y.sz (c - x.sz)) := by rw [cell_of_row w1 _ 1 _ _ _ hcell]; rfl
      have hS : ∀ W, Below w1.heap.size w1 W → W.cell? ⟨g, 0, none⟩ = some (.slice (some ⟨b, off, none⟩) x.sz c) ∧ W.cell? ⟨g, 1, none⟩ = some (.slice (some ⟨b, off + x.sz * 2, none⟩) y.sz (c - x.sz)) := fun W hW => ⟨(hW.cell (p := ⟨g, 0, none⟩) hg1).trans hcr, (hW.cell (p := ⟨g, 1, none⟩) hg1).trans hcr2⟩
      have SX : ∀ W, Below w1.heap.size w1 W → SL W W.heap.size (some ⟨b, off, none⟩) x.sz c x.flat := fun W hW => SL.tree (((unhide HA).1.up hbb).up hW) a2 hcm
      have SY : ∀ W, Below w1.heap.size w1 W → SL W W.heap.size (some ⟨b, off + x.sz * 2, none⟩) y.sz (c - x.sz) y.flat := fun W hW => SL.tree (((unhide HA).2.up hbb).up hW) a4 a5
      have BD : Below w1.heap.size w1 w1.drew := (Below.refl _ _).drew
      have le1 : ∀ (N : Nat), N ≤ 3800 → N ≤ 100000 := fun N h => by omega
      have le2 : ∀ (N : Nat), N ≤ 60 → N ≤ 100000 := fun N h => by omega
      clear hcell hk hl hops
      go_wp2
      go_region_held3 (fun w' => w'.cell? ⟨g, 0, none⟩ = some (.slice (some ⟨b, off, none⟩) x.sz c) ∧ w'.cell? ⟨g, 1, none⟩ = some (.slice (some ⟨b, off + x.sz * 2, none⟩) y.sz (c - x.sz)))
        (first
          | (refine hS _ ?_; exact BD)
          | (refine hS _ ?_; exact bx)
          | (refine hS _ ?_; exact by_)
          | (refine hS _ ?_; exact bm))
        (first
          | (go_at_call 72; (with_reducible refine (ihx _ _ _ _ hgx (SX _ BD) a1).mono ?_); intro r wx hd; obtain ⟨A1, N1, c1', rfl, h1, hbx⟩ := hd.opn; have hn1 := le1 _ (h1.le LX.out); have bx := BD.trans (hbx.mono BD.size); clear hd)
          | (go_at_call 52; (with_reducible refine (simplified_any y _ _ _ _ hgy (SY _ bx) a3).mono ?_); intro r wy hd; obtain ⟨A2, N2, c2, rfl, h2, hby⟩ := hd.opn; have hn2 := le2 _ (h2.le LS.out); have by_ := bx.trans (hby.mono bx.size); clear hd)
          | (go_at_call 96; (with_reducible refine (joined_any (Ex.der lt x) y.simp _ _ _ _ _ _ _ (SL.up h1 hby) h2 hn1 hn2).mono ?_); intro r wm hd; obtain ⟨A3, N3, c3, rfl, h3, hbm⟩ := hd.opn; have bm := by_.trans (hbm.mono by_.size); clear hd))
      have hn3 := h3.le LJ.out
      obtain ⟨cm0, cm1⟩ := hS _ bm
      have H3 := hide h3
      have hbbm := hbb.trans (bm.mono hbb.size)
      clear h1 h2 h3 hbx hby hbm bx by_
      go_wp2_with fail
      refine (hasEmpty_any _ _ _ _ x hgx (SX _ bm).1 (by omega) a2 hcm).mono ?_
      rintro r w5 ⟨rfl, hb5⟩
      have bm5 := bm.trans (hb5.mono bm.size)
      obtain ⟨d0, d1⟩ := hS _ bm5
      have hbb5 := hbb.trans (bm5.mono hbb.size)
      rw [HE.out]
      cases E
      · go_wp2
        go_ret
        rw [Ex.der_bin4f HE.out]
        exact RetP.shut ((unhide H3).up hb5) hbb5
      · go_wp2_with fail
        refine (ihy _ _ _ _ hgy (SY _ bm5) a3).mono ?_
        intro r w6 hd
        obtain ⟨A6, n6, c6, rfl, h6, hb6⟩ := hd.opn
        have hn6 := h6.le LY.out
        have hbb6 := hbb5.trans (hb6.mono hbb5.size)
        have H6 := hide h6
        have H36 := hide (((unhide H3).up hb5).up hb6)
        clear h6 hd
        go_wp2_with fail
        refine (either_any _ _ _ _ _ _ _ _ _ (unhide H36) (unhide H6) (by omega) (by omega)).mono ?_
        intro r w7 hd
        obtain ⟨A7, n7, c7, rfl, h7, hb7⟩ := hd.opn
        go_wp2
        go_ret
        rw [Ex.der_bin4t HE.out]
        exact RetP.shut h7 (hbb6.trans (hb7.mono hbb6.size))
    · have K4 := Lib.hid (show ¬ kd = 4 by simpa using k4)
      clear hkd
      go_enter Try.func72, Try.ntmps72
      go_wp2_with fail
      refine hops.mono ?_
      rintro r w1 ⟨g, b', o', hA, rfl, hgw, hcell, hb⟩
      injection hA with hA
      injection hA with hA1 hA2
      subst hA1; subst hA2
      obtain ⟨c0, c1, hbb, hpl⟩ := (unhide RUN) w1 hb
      have hg1 : g < w1.heap.size := (Array.getElem?_eq_some_iff.1 hcell).1
      have hcr : w1.cell? ⟨g, 0, none⟩ = some (.slice (some ⟨b, off, none⟩) x.sz c) := by rw [cell_of_row w1 _ 0 _ _ _ hcell]; rfl
      have hcr2 : w1.cell? ⟨g, 1, none⟩ = some (.slice (some ⟨b, off + x.sz * 2, none⟩) y.sz (c - x.sz)) := by rw [cell_of_row w1 _ 1 _ _ _ hcell]; rfl
      have hS : ∀ W, Below w1.heap.size w1 W → W.cell? ⟨g, 0, none⟩ = some (.slice (some ⟨b, off, none⟩) x.sz c) ∧ W.cell? ⟨g, 1, none⟩ = some (.slice (some ⟨b, off + x.sz * 2, none⟩) y.sz (c - x.sz)) ∧ W.cell? ⟨w.heap.size, 0, none⟩ = some (.int .i64 kd) := fun W hW => ⟨(hW.cell (p := ⟨g, 0, none⟩) hg1).trans hcr, (hW.cell (p := ⟨g, 1, none⟩) hg1).trans hcr2, (hW.cell (p := ⟨w.heap.size, 0, none⟩) hpl).trans c0⟩
      have SX : ∀ W, Below w1.heap.size w1 W → SL W W.heap.size (some ⟨b, off, none⟩) x.sz c x.flat := fun W hW => SL.tree (((unhide HA).1.up hbb).up hW) a2 hcm
      have SY : ∀ W, Below w1.heap.size w1 W → SL W W.heap.size (some ⟨b, off + x.sz * 2, none⟩) y.sz (c - x.sz) y.flat := fun W hW => SL.tree (((unhide HA).2.up hbb).up hW) a4 a5
      have BD : Below w1.heap.size w1 w1.drew := (Below.refl _ _).drew
      have le1 : ∀ (N : Nat), N ≤ 3800 → N ≤ 100000 := fun N h => by omega
      clear hcell hk hl hops
      go_wp2
      go_region_held3 (fun w' => w'.cell? ⟨g, 0, none⟩ = some (.slice (some ⟨b, off, none⟩) x.sz c) ∧ w'.cell? ⟨g, 1, none⟩ = some (.slice (some ⟨b, off + x.sz * 2, none⟩) y.sz (c - x.sz)) ∧ w'.cell? ⟨w.heap.size, 0, none⟩ = some (.int .i64 kd))
        (first
          | (refine hS _ ?_; exact BD)
          | (refine hS _ ?_; exact bx)
          | (refine hS _ ?_; exact by_)
          | (refine hS _ ?_; exact bm))
        (first
          | (go_at_call 72; (with_reducible refine (ihx _ _ _ _ hgx (SX _ BD) a1).mono ?_); intro r wx hd; obtain ⟨A1, N1, c1', rfl, h1, hbx⟩ := hd.opn; have hn1 := le1 _ (h1.le LX.out); have bx := BD.trans (hbx.mono BD.size); clear hd)
          | (go_at_call 72; (with_reducible refine (ihy _ _ _ _ hgy (SY _ bx) a3).mono ?_); intro r wy hd; obtain ⟨A2, N2, c2, rfl, h2, hby⟩ := hd.opn; have hn2 := le1 _ (h2.le LY.out); have by_ := bx.trans (hby.mono bx.size); clear hd)
          | (go_at_call 84; (with_reducible refine (made_any kd (Ex.der lt x) (Ex.der lt y) _ _ _ _ _ _ _ (SL.up h1 hby) h2 hn1 hn2).mono ?_); intro r wm hd; obtain ⟨A3, N3, c3, rfl, h3, hbm⟩ := hd.opn; have bm := by_.trans (hbm.mono by_.size); clear hd))
      go_wp2
      go_ret
      rw [Ex.der_bin K4.out]
      exact RetP.shut h3 (hbb.trans (bm.mono hbb.size))
end Go.Proofs.Ytadibjjjdbglaaa
