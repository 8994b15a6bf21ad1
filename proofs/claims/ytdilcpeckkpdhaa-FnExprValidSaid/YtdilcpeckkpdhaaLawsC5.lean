/-
  The walk of the law on first operands.
-/
import Derived.Test.YtdilcpeckkpdhaaLawsC4
import Derived.Test.YtdilcpeckkpdhaaStepP
namespace Go.Proofs.Ytdilcpeckkpdhaa
open Go.RowKit
set_option linter.unusedVariables false
set_option maxRecDepth 100000

theorem own_empty3 (W : World) (o : Obj) (t : TypeId) : ((W.alloc o).alloc (.cells #[] t)).drew.ownsRow W.heap.size t 2 (.slice (some ⟨W.heap.size + 1, 0, none⟩) 0 0) 0 [] := by
  have h := own_empty (W.alloc o) W.heap.size t (by simp)
  rw [World.size_alloc] at h
  exact h.drew
theorem heap_two (W : World) (o p : Obj) : ((W.alloc o).alloc p).drew.heap[W.heap.size + 1]? = some p := by
  have := heap_alloc_new (W.alloc o) p
  rw [World.size_alloc] at this
  exact this
theorem heap_first (W : World) (p o : Obj) : ((W.alloc p).alloc o).drew.heap[W.heap.size]? = some p :=
  (Below.heap_alloc (W.alloc p) o W.heap.size (by simp)).trans (heap_alloc_new W p)
theorem ne_own1 (g : Nat) : (Value.slice (some ⟨g, 0, none⟩) 0 0).ownBlock ≠ some (g + 1) := by simp [Value.ownBlock]
theorem ne_own2 (g : Nat) : (Value.slice (some ⟨g + 1, 0, none⟩) 0 0).ownBlock ≠ some g := by simp [Value.ownBlock]
theorem own_new {w : World} {base n size : Nat} {t : TypeId} {v : Value} {xs : List Value} (h : w.ownsRow base t size v n xs) : v.ownBlock ≠ some w.heap.size := by
  intro e; have := (h.lt _ e).2; omega
theorem PS_box {w : World} {g : Nat} {k l : Int} {t : TypeId} {fr : Nat × Nat} (h : w.heap[g]? = some (.cells #[.int .i64 k, .int .i64 l] t fr)) : PS w w.heap.size (some ⟨g, 0, none⟩) 1 [(k, l)] := by
  refine ⟨rfl, fun _ => ⟨_, _, rfl, box_lt h, fun i k' l' hi => ?_⟩⟩
  have : i = 0 := by have := (List.getElem?_eq_some_iff.1 hi).1; simp at this; exact this
  subst this
  simp only [List.getElem?_cons_zero, Option.some.injEq] at hi
  injection hi with h1 h2
  subst h1; subst h2
  have := box_cells h
  exact ⟨by simpa using this.1, by simpa using this.2⟩
theorem nomA {g m c : Nat} : (some (⟨g, 0, none⟩ : Addr)) = none → m = 0 ∧ c = 0 := fun h => nomatch h
theorem opd0_shape {t : Ex} {x : List Pt} (hg : t.good) (hs : t.sz ≤ 60) (hx : OpR 0 t.flat x) : x = [] ∨ exprB x = true := by
  have h1 := OpR.tree hg hs hx
  subst h1
  cases t with
  | leaf k l => exact .inl (by simp [Ex.opd])
  | un k u =>
    simp only [Ex.sz] at hs
    exact .inr (by have := exprB_flat hg.2 (by omega); simpa [Ex.opd] using this)
  | bin k u v =>
    simp only [Ex.sz] at hs
    exact .inr (by have := exprB_flat hg.2.1 (by omega); simpa [Ex.opd] using this)
theorem opds_join {t : Ex} {x y : List Pt} (hg : t.good) (hs : t.sz ≤ 60) (hx : OpR 0 t.flat x) (hy : OpR 1 t.flat y) : [] ++ x ++ y ++ [(t.kind, t.lett)] = t.flat := by
  have h1 := OpR.tree hg hs hx
  have h2 := OpR.tree hg hs hy
  subst h1; subst h2
  cases t <;> simp [Ex.opd, Ex.flat, Ex.kind, Ex.lett]

set_option maxHeartbeats 8000000 in
theorem wFnFirstOperand (A : Option Addr) (n c : Nat) (w : World) (hw : BytesIn w A n c) : Calls Try.prog 10 #[.slice A n c] w (Yes w) := by
  obtain ⟨hnc, hcm, hcode⟩ := hw
  unfold maxLen at hcm
  have HC := hide hcode
  clear hcode
  by_cases hn : 1048576 < n
  · go_enter Try.func10, Try.ntmps10
    go_wp2
    go_ret
    exact ⟨rfl, Below.refl _ _⟩
  · go_enter Try.func10, Try.ntmps10
    go_wp2_with fail
    refine (dFirstOperand_any w n c A _ (unhide HC) (Nat.le_refl _) hnc (by omega)).mono ?_
    rintro r w1 ⟨e, A1, n1, c1, rfl, hl, hsl, hb1⟩
    have HLN := Lib.hid hsl.1.1
    have HS := hide hsl
    clear hsl
    go_wp2_with fail
    refine (implFirst_all _ _ _ _ e (unhide HS).1 (unhide HS).2.1 (unhide HS).2.2.1).mono ?_
    rintro r w2 ⟨x, hx, hd2⟩
    have hxl := hx.len
    obtain ⟨A2, c2, rfl, hslx, -, hb2⟩ := hd2.sl (by omega)
    have hbb2 := hb1.trans (hb2.mono hb1.size)
    have HS2 := hide ((unhide HS).up hb2)
    have HX := hide hslx
    clear hslx hd2
    go_wp2_with fail
    refine (specFirst_all _ _ _ _ e (unhide HS2).1 (by omega) (unhide HS).2.1 (unhide HS).2.2.1).mono ?_
    rintro r w3 ⟨y, hy, hd3⟩
    obtain rfl := OpR.uniq hx hy
    obtain ⟨Ay, cy, rfl, hsly, -, hb3⟩ := hd3.sl (by omega)
    have hbb3 := hbb2.trans (hb3.mono hbb2.size)
    have HS3 := hide ((unhide HS2).up hb3)
    have HX3 := hide ((unhide HX).up hb3)
    have HY := hide hsly
    clear hsly hd3 hy
    go_wp2_with fail
    refine (sameParts_any _ _ _ _ _ _ _ x x (unhide HX3).1 (unhide HY).1 (by omega) (by omega)).mono ?_
    rintro r w4 ⟨rfl, hb4⟩
    have hdd : decide (x = x) = true := by simp
    rw [hdd]
    clear hdd HY
    have hbb4 := hbb3.trans (hb4.mono hbb3.size)
    have HS4 := hide ((unhide HS3).up hb4)
    have HX4 := hide ((unhide HX3).up hb4)
    go_wp2_with fail
    refine (specExprValid_any _ _ _ _ e (unhide HS4).1 (by omega)).mono ?_
    rintro r w5 ⟨rfl, hb5⟩
    have hbb5 := hbb4.trans (hb5.mono hbb4.size)
    have HS5 := hide ((unhide HS4).up hb5)
    have HX5 := hide ((unhide HX4).up hb5)
    rcases hv : exprB e
    · have hy0 : x = [] := OpR.uniq hx (.inl ⟨hv, rfl⟩)
      subst hy0
      go_wp2_with fail
      refine (alive_any _).mono ?_
      rintro r w6 ⟨rfl, rfl⟩
      go_wp2
      go_ret
      exact ⟨rfl, hbb5⟩
    obtain ⟨t, hg, hf, hs⟩ := exprB_iff.1 hv
    have HF := Lib.hid hf
    have HXR := Lib.hid hx
    clear hv hx hf
    go_wp2_with fail
    refine (implSecond_all _ _ _ _ e (unhide HS5).1 (unhide HS).2.1 (unhide HS).2.2.1).mono ?_
    rintro r w7 ⟨y, hy, hd7⟩
    have hyl := hy.len
    obtain ⟨A7, c7, rfl, hsly, -, hb7⟩ := hd7.sl (by omega)
    have hbb7 := hbb5.trans (hb7.mono hbb5.size)
    have HS7 := hide ((unhide HS5).up hb7)
    have HA := hide ((unhide HX5).up hb7)
    have HB := hide hsly
    have HYR := Lib.hid hy
    clear hsly hd7 hy
    have hps := (unhide HS7).1
    rw [← HF.out] at hps
    obtain ⟨b, off, m, hA1, hbB, hnm, hm, hk, hlt⟩ := hps.last
    subst hA1
    have HNM := Lib.hid hnm
    have i0 : (0 : Int) ≤ (m : Int) := Int.natCast_nonneg _
    have i1 : (m : Int) < (n1 : Int) := by omega
    have n1' : 1 ≤ n1 := by omega
    have hwm : IntKind.i64.wrap (m : Int) = m := IntWalk.i64_in _ (by omega)
    have hwn : IntKind.i64.wrap ((n1 : Int) - 1) = m := by rw [hm]; exact hwm
    have HJ := Lib.hid (opds_join hg hs (by rw [HF.out]; exact HXR.out) (by rw [HF.out]; exact HYR.out))
    have HX0 := Lib.hid (opd0_shape hg hs (by rw [HF.out]; exact HXR.out))
    obtain ⟨K, hK⟩ : ∃ K, t.kind = K := ⟨_, rfl⟩
    obtain ⟨L, hL⟩ : ∃ L, t.lett = L := ⟨_, rfl⟩
    rw [hK] at hk HJ
    rw [hL] at hlt HJ
    have hS : ∀ W', Below w7.heap.size w7 W' → W'.cell? ⟨b, off + m * 2, none⟩ = some (.int .i64 K) ∧ W'.cell? ⟨b, off + m * 2 + 1, none⟩ = some (.int .i64 L) := fun W' h => ⟨(h.cell (p := ⟨b, off + m * 2, none⟩) hbB).trans hk, (h.cell (p := ⟨b, off + m * 2 + 1, none⟩) hbB).trans hlt⟩
    have SA : ∀ W', Below w7.heap.size w7 W' → PS W' W'.heap.size A2 x.length x := fun W' h => (unhide HA).1.up h
    have SB : ∀ W', Below w7.heap.size w7 W' → PS W' W'.heap.size A7 y.length y := fun W' h => (unhide HB).1.up h
    have hna : 0 + x.length ≤ 1000000000 := by omega
    have hnb : 0 + x.length + y.length ≤ 1000000000 := by omega
    have hnp : 0 + x.length + y.length + 1 ≤ 1000000000 := by omega
    clear hnm hK hL hps HC HXR HYR
    go_wp2_with fail
    have E1 : Below w7.heap.size w7 (w7.alloc (.cells #[] 36)).drew := ((Below.refl _ _).alloc (Nat.le_refl _) _).drew
    have E2 : Below w7.heap.size w7 ((w7.alloc (.cells #[] 36)).alloc (pbox K L)).drew := (((Below.refl _ _).alloc (Nat.le_refl _) _).alloc (le_alloc (Nat.le_refl _)) _).drew
    have E3 : Below w7.heap.size w7 ((w7.alloc (pbox K L)).alloc (.cells #[] 36)).drew := (((Below.refl _ _).alloc (Nat.le_refl _) _).alloc (le_alloc (Nat.le_refl _)) _).drew
    have OE1 : (w7.alloc (.cells #[] 36)).drew.ownsRow w7.heap.size 36 2 (.slice (some ⟨w7.heap.size, 0, none⟩) 0 0) 0 (flatV []) := (own_empty w7 _ _ (Nat.le_refl _)).drew
    have OE2 : ((w7.alloc (.cells #[] 36)).alloc (pbox K L)).drew.ownsRow w7.heap.size 36 2 (.slice (some ⟨w7.heap.size, 0, none⟩) 0 0) 0 (flatV []) := ((own_empty w7 _ _ (Nat.le_refl _)).alloc _).drew
    have OE3 : ((w7.alloc (pbox K L)).alloc (.cells #[] 36)).drew.ownsRow w7.heap.size 36 2 (.slice (some ⟨w7.heap.size + 1, 0, none⟩) 0 0) 0 (flatV []) := own_empty3 w7 _ _
    have PB2 := heap_two w7 (.cells #[] 36) (pbox K L)
    have PB3 := heap_first w7 (pbox K L) (.cells #[] 36)
    obtain ⟨hW0, hW1⟩ := hS w7 (Below.refl _ _)
    go_region_held3 (fun w' => w'.cell? ⟨b, off + m * 2, none⟩ = some (.int .i64 K) ∧ w'.cell? ⟨b, off + m * 2 + 1, none⟩ = some (.int .i64 L))
      (first
        | (refine hS _ ?_; exact (Below.refl _ _).drew)
        | (refine hS _ ?_; exact ((Below.refl _ _).alloc (Nat.le_refl _) _).drew)
        | (refine hS _ ?_; exact (((Below.refl _ _).alloc (Nat.le_refl _) _).alloc (le_alloc (Nat.le_refl _)) _).drew)
        | (refine hS _ ?_; exact hC1)
        | (refine hS _ ?_; exact hC1.alloc hC1.size _)
        | (refine hS _ ?_; exact hC2)
        | (refine hS _ ?_; exact hC2.alloc hC2.size _)
        | (refine hS _ ?_; exact hC3))
      (first
        | (refine step_append_parts_at rfl (.tmp 30) (.tmp 31) rfl w7.heap.size _ (.slice (some ⟨w7.heap.size, 0, none⟩) 0 0) 0 [] rfl OE1 A2 x.length c2 x rfl (unhide HA).2.2.2 (SA _ E1) hna E1.size ?_; intro v1 u1 hown1 hgrow1 hat1; have hC1 := E1.grown hgrow1 E1.size (own_block OE1); have hn1 := own_new hown1)
        | (refine step_append_parts_at rfl (.tmp 30) (.tmp 31) rfl w7.heap.size _ (.slice (some ⟨w7.heap.size, 0, none⟩) 0 0) 0 [] rfl OE2 A2 x.length c2 x rfl (unhide HA).2.2.2 (SA _ E2) hna E2.size ?_; intro v1 u1 hown1 hgrow1 hat1; have hC1 := E2.grown hgrow1 E2.size (own_block OE2); have hP1 := box_keep PB2 hgrow1 (ne_own1 _); have hne1 := ne_next (ne_own1 _) hat1 (box_lt PB2))
        | (refine step_append_parts_at rfl (.tmp 30) (.tmp 31) rfl w7.heap.size _ (.slice (some ⟨w7.heap.size + 1, 0, none⟩) 0 0) 0 [] rfl OE3 A2 x.length c2 x rfl (unhide HA).2.2.2 (SA _ E3) hna E3.size ?_; intro v1 u1 hown1 hgrow1 hat1; have hC1 := E3.grown hgrow1 E3.size (own_block OE3); have hP1 := box_keep PB3 hgrow1 (ne_own2 _); have hne1 := ne_next (ne_own2 _) hat1 (box_lt PB3))
        | (refine step_append_parts_at rfl (.tmp 32) (.tmp 33) rfl w7.heap.size _ v1 (0 + x.length) ([] ++ x) rfl hown1 A7 y.length c7 y rfl (unhide HB).2.2.2 (SB _ hC1) hnb hC1.size ?_; intro v2 u2 hown2 hgrow2 hat2; have hC2 := hC1.grown hgrow2 hC1.size (own_block hown1))
        | (refine step_append_parts_at rfl (.tmp 32) (.tmp 33) rfl w7.heap.size _ v1 (0 + x.length) ([] ++ x) rfl (hown1.alloc _) A7 y.length c7 y rfl (unhide HB).2.2.2 (SB _ (hC1.alloc hC1.size _)) hnb (le_alloc hC1.size) ?_; intro v2 u2 hown2 hgrow2 hat2; have hC2 := (hC1.alloc hC1.size _).grown hgrow2 (le_alloc hC1.size) (own_block hown1); have hP2 := box_keep (heap_alloc_new u1 _) hgrow2 hn1)
        | (refine step_append_parts_at rfl (.tmp 34) (.tmp 41) rfl w7.heap.size (u2.heap.size + 1) v2 (0 + x.length + y.length) ([] ++ x ++ y) rfl (hown2.alloc _) (some ⟨u2.heap.size, 0, none⟩) 1 1 [(K, L)] rfl nomA (PS.one _ _ _ _ _ (Nat.lt_succ_self _)) hnp (le_alloc hC2.size) ?_; intro v3 u3 hown3 hgrow3 hat3; have hC3 := (hC2.alloc hC2.size _).grown hgrow3 (le_alloc hC2.size) (own_block hown2))
        | (refine step_append_parts_at rfl (.tmp 34) (.tmp 41) rfl w7.heap.size u2.heap.size v2 (0 + x.length + y.length) ([] ++ x ++ y) rfl hown2 (some ⟨u1.heap.size, 0, none⟩) 1 1 [(K, L)] rfl nomA (PS_box hP2) hnp hC2.size ?_; intro v3 u3 hown3 hgrow3 hat3; have hC3 := hC2.grown hgrow3 hC2.size (own_block hown2))
        | (refine step_append_parts_at rfl (.tmp 34) (.tmp 41) rfl w7.heap.size u2.heap.size v2 (0 + x.length + y.length) ([] ++ x ++ y) rfl hown2 (some ⟨w7.heap.size + 1, 0, none⟩) 1 1 [(K, L)] rfl nomA (PS_box (box_keep hP1 hgrow2 hne1)) hnp hC2.size ?_; intro v3 u3 hown3 hgrow3 hat3; have hC3 := hC2.grown hgrow3 hC2.size (own_block hown2))
        | (refine step_append_parts_at rfl (.tmp 34) (.tmp 41) rfl w7.heap.size u2.heap.size v2 (0 + x.length + y.length) ([] ++ x ++ y) rfl hown2 (some ⟨w7.heap.size, 0, none⟩) 1 1 [(K, L)] rfl nomA (PS_box (box_keep hP1 hgrow2 hne1)) hnp hC2.size ?_; intro v3 u3 hown3 hgrow3 hat3; have hC3 := hC2.grown hgrow3 hC2.size (own_block hown2)))
    all_goals
      obtain ⟨N, hN⟩ : ∃ N, 0 + x.length + y.length + 1 = N := ⟨_, rfl⟩
      have hN9 : N ≤ 1000000000 := by omega
      rw [hN] at hown3
      have HNN := Lib.hid hN
      clear hN
      obtain ⟨A9, c9, hv9, hs9⟩ := SL_own hown3 (by unfold maxLen; omega)
      subst hv9
      have HO := hide hs9
      have hj : [] ++ x ++ y ++ [(K, L)] = e := HJ.out.trans HF.out
      rw [hj] at HO
      have hbb9 := hbb7.trans (hC3.mono hbb7.size)
      have HS9 := hide ((unhide HS7).up hC3)
      have HX9 := hide ((unhide HA).up hC3)
      clear hs9 hj hown3
      go_wp2_with fail
      refine (sameParts_any _ _ _ _ _ _ _ e e (unhide HO).1 (unhide HS9).1 (by omega) (by omega)).mono ?_
      rintro r w10 ⟨rfl, hb10⟩
      have hdd : decide (e = e) = true := by simp
      rw [hdd]
      clear hdd
      have hbb10 := hbb9.trans (hb10.mono hbb9.size)
      have HX10 := hide ((unhide HX9).up hb10)
      by_cases hx0 : x = []
      · subst hx0
        go_wp2
        go_ret
        exact ⟨rfl, hbb10⟩
      · have hx1 : 0 < x.length := List.length_pos_iff.2 hx0
        go_wp2_with fail
        refine (implExprValid_any _ _ _ _ x (unhide HX10).1).mono ?_
        rintro r w11 ⟨rfl, hb11⟩
        rw [HX0.out.resolve_left hx0]
        go_wp2
        go_ret
        exact ⟨rfl, hbb10.trans (hb11.mono hbb10.size)⟩
end Go.Proofs.Ytdilcpeckkpdhaa

