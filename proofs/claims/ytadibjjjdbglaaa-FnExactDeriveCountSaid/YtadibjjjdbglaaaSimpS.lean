/-
  Simplified operations: the reference's walk.
-/
import Derived.Test.YtadibjjjdbglaaaSimpW3
import Derived.Test.YtadibjjjdbglaaaStepP
namespace Go.Proofs.Ytadibjjjdbglaaa
open Go.RowKit
set_option linter.unusedVariables false
set_option maxRecDepth 100000

theorem own_empty3 (W : World) (o : Obj) (t : TypeId) : ((W.alloc o).alloc (.cells #[] t)).drew.ownsRow W.heap.size t 2 (.slice (some ⟨W.heap.size + 1, 0, none⟩) 0 0) 0 [] := by
  have h := own_empty (W.alloc o) W.heap.size t (by simp)
  rw [World.size_alloc] at h
  exact h.drew
theorem heap_two (W : World) (o p : Obj) : ((W.alloc o).alloc p).drew.heap[W.heap.size + 1]? = some p := by
  have := heap_alloc_new (W.alloc o) p
  rw [World.size_alloc] at this
  exact this
theorem heap_first (W : World) (p o : Obj) : ((W.alloc p).alloc o).drew.heap[W.heap.size]? = some p :=
  (Below.heap_alloc (W.alloc p) o W.heap.size (by simp)).trans (heap_alloc_new W p)
theorem ne_own1 (g : Nat) : (Value.slice (some ⟨g, 0, none⟩) 0 0).ownBlock ≠ some (g + 1) := by simp [Value.ownBlock]
theorem ne_own2 (g : Nat) : (Value.slice (some ⟨g + 1, 0, none⟩) 0 0).ownBlock ≠ some g := by simp [Value.ownBlock]
theorem own_new {w : World} {base n size : Nat} {t : TypeId} {v : Value} {xs : List Value} (h : w.ownsRow base t size v n xs) : v.ownBlock ≠ some w.heap.size := by
  intro e; have := (h.lt _ e).2; omega
theorem PS_box {w : World} {g : Nat} {k l : Int} {t : TypeId} {fr : Nat × Nat} (h : w.heap[g]? = some (.cells #[.int .i64 k, .int .i64 l] t fr)) : PS w w.heap.size (some ⟨g, 0, none⟩) 1 [(k, l)] := by
  refine ⟨rfl, fun _ => ⟨_, _, rfl, box_lt h, fun i k' l' hi => ?_⟩⟩
  have : i = 0 := by have := (List.getElem?_eq_some_iff.1 hi).1; simp at this; exact this
  subst this
  simp only [List.getElem?_cons_zero, Option.some.injEq] at hi
  injection hi with h1 h2
  subst h1; subst h2
  have := box_cells h
  exact ⟨by simpa using this.1, by simpa using this.2⟩
theorem nomA {g m c : Nat} : (some (⟨g, 0, none⟩ : Addr)) = none → m = 0 ∧ c = 0 := fun h => nomatch h
theorem SL_box {w : World} {g : Nat} {k l : Int} {t : TypeId} {fr : Nat × Nat} (h : w.heap[g]? = some (.cells #[.int .i64 k, .int .i64 l] t fr)) : SL w w.heap.size (some ⟨g, 0, none⟩) 1 1 [(k, l)] :=
  ⟨PS_box h, Nat.le_refl _, by simp [maxLen], fun h => nomatch h⟩
theorem ret_eq {w w' : World} {x y : List Pt} {r : Ending} (h : x = y) (k : RetP w y r w') : RetP w x r w' := h ▸ k
theorem mk_end {w W w3 : World} {ea eb : List Pt} {p : Pt} {v3 : Value} {na nb : Nat} (hbW : Below w.heap.size w W) (h : w3.ownsRow W.heap.size 45 2 v3 (0 + na + nb + 1) (flatV ([] ++ ea ++ eb ++ [p]))) (hC : Below W.heap.size W w3) : OwnD w (ea ++ eb ++ [p]) (.returned v3) w3 := by
  have h1 := own_base h hbW.size
  rw [← own_len h] at h1
  exact ⟨v3, rfl, by simpa using h1, hbW.trans (hC.mono hbW.size)⟩
set_option maxHeartbeats 4000000 in
/-- A leaf: nothing is simplified. -/
theorem l5Make_leaf (w : World) (kd l : Int) (hkd : kd = 1 ∨ kd = 2 ∨ kd = 3) (Aa Ab : Option Addr) (ca cb : Nat) (ha : SL w w.heap.size Aa 0 ca []) (hb0 : SL w w.heap.size Ab 0 cb []) :
    Calls Try.prog 85 #[part kd l, .slice Aa 0 ca, .slice Ab 0 cb] w (OwnD w [(kd, l)]) := by
  have hk4 : (kd == 4) = false := by rcases hkd with rfl | rfl | rfl <;> decide
  have hk5 : (kd == 5) = false := by rcases hkd with rfl | rfl | rfl <;> decide
  have hk6 : (kd == 6) = false := by rcases hkd with rfl | rfl | rfl <;> decide
  have hk7 : (kd == 7) = false := by rcases hkd with rfl | rfl | rfl <;> decide
  have hk8 : (kd == 8) = false := by rcases hkd with rfl | rfl | rfl <;> decide


  have HA := hide ha
  have HB := hide hb0
  have hbox := heap_alloc_new w (pbox kd l)
  have hbW0 : Below w.heap.size w (((w.alloc (pbox kd l)).alloc (pbox 1 0)).alloc (pbox 2 0)) := (((Below.refl _ _).alloc (Nat.le_refl _) _).alloc (by simp) _).alloc (by simp; omega) _
  have hbx0 : (((w.alloc (pbox kd l)).alloc (pbox 1 0)).alloc (pbox 2 0)).heap[w.heap.size]? = some (pbox kd l) := (Below.heap_alloc _ _ _ (by simp; omega)).trans ((Below.heap_alloc _ _ _ (by simp)).trans hbox)
  clear hkd ha hb0 hbox
  go_enter Try.func85, Try.ntmps85
  go_wp2_with fail
  generalize hWe : ((w.alloc (pbox kd l)).alloc (pbox 1 0)).alloc (pbox 2 0) = W at *
  clear hWe
  have hbW := hbW0
  have hS : ∀ W', Below W.heap.size W W' → W'.cell? ⟨w.heap.size, 0, none⟩ = some (.int .i64 kd) ∧ W'.cell? ⟨w.heap.size, 1, none⟩ = some (.int .i64 l) := fun W' h => box_cells (box_below hbx0 h)
  have SA : ∀ W', Below W.heap.size W W' → PS W' W'.heap.size Aa 0 [] := fun _ _ => PS.nil
  have SB : ∀ W', Below W.heap.size W W' → PS W' W'.heap.size Ab 0 [] := fun _ _ => PS.nil
  obtain ⟨na, hna0⟩ : ∃ na, na = 0 := ⟨0, rfl⟩
  have hna : 0 + 0 ≤ 1000000000 := by omega
  have hnb : 0 + 0 + 0 ≤ 1000000000 := by omega
  have hnp : 0 + 0 + 0 + 1 ≤ 1000000000 := by omega
  clear hbx0 hbW0
  have E1 : Below W.heap.size W (W.alloc (.cells #[] 45)).drew := ((Below.refl _ _).alloc (Nat.le_refl _) _).drew
  have E2 : Below W.heap.size W ((W.alloc (.cells #[] 45)).alloc (pbox kd l)).drew := (((Below.refl _ _).alloc (Nat.le_refl _) _).alloc (le_alloc (Nat.le_refl _)) _).drew
  have E3 : Below W.heap.size W ((W.alloc (pbox kd l)).alloc (.cells #[] 45)).drew := (((Below.refl _ _).alloc (Nat.le_refl _) _).alloc (le_alloc (Nat.le_refl _)) _).drew
  have OE1 : (W.alloc (.cells #[] 45)).drew.ownsRow W.heap.size 45 2 (.slice (some ⟨W.heap.size, 0, none⟩) 0 0) 0 (flatV []) := (own_empty W _ _ (Nat.le_refl _)).drew
  have OE2 : ((W.alloc (.cells #[] 45)).alloc (pbox kd l)).drew.ownsRow W.heap.size 45 2 (.slice (some ⟨W.heap.size, 0, none⟩) 0 0) 0 (flatV []) := ((own_empty W _ _ (Nat.le_refl _)).alloc _).drew
  have OE3 : ((W.alloc (pbox kd l)).alloc (.cells #[] 45)).drew.ownsRow W.heap.size 45 2 (.slice (some ⟨W.heap.size + 1, 0, none⟩) 0 0) 0 (flatV []) := own_empty3 W _ _
  have PB2 := heap_two W (.cells #[] 45) (pbox kd l)
  have PB3 := heap_first W (pbox kd l) (.cells #[] 45)
  obtain ⟨hW0, hW1⟩ := hS W (Below.refl _ _)
  go_region_held3 (fun w' => w'.cell? ⟨w.heap.size, 0, none⟩ = some (.int .i64 kd) ∧ w'.cell? ⟨w.heap.size, 1, none⟩ = some (.int .i64 l))
    (first
      | (refine hS _ ?_; exact (Below.refl _ _).drew)
      | (refine hS _ ?_; exact ((Below.refl _ _).alloc (Nat.le_refl _) _).drew)
      | (refine hS _ ?_; exact (((Below.refl _ _).alloc (Nat.le_refl _) _).alloc (le_alloc (Nat.le_refl _)) _).drew)
      | (refine hS _ ?_; exact hC1)
      | (refine hS _ ?_; exact hC1.alloc hC1.size _)
      | (refine hS _ ?_; exact hC2)
      | (refine hS _ ?_; exact hC2.alloc hC2.size _)
      | (refine hS _ ?_; exact hC3))
    (first
      | (refine step_append_parts_at rfl (.tmp 98) (.tmp 99) rfl W.heap.size _ (.slice (some ⟨W.heap.size, 0, none⟩) 0 0) 0 [] rfl OE1 Aa 0 ca [] rfl (unhide HA).2.2.2 (SA _ E1) hna E1.size ?_; intro v1 w1 hown1 hgrow1 hat1; have hC1 := E1.grown hgrow1 E1.size (own_block OE1); have hn1 := own_new hown1)
      | (refine step_append_parts_at rfl (.tmp 98) (.tmp 99) rfl W.heap.size _ (.slice (some ⟨W.heap.size, 0, none⟩) 0 0) 0 [] rfl OE2 Aa 0 ca [] rfl (unhide HA).2.2.2 (SA _ E2) hna E2.size ?_; intro v1 w1 hown1 hgrow1 hat1; have hC1 := E2.grown hgrow1 E2.size (own_block OE2); have hP1 := box_keep PB2 hgrow1 (ne_own1 _); have hne1 := ne_next (ne_own1 _) hat1 (box_lt PB2))
      | (refine step_append_parts_at rfl (.tmp 98) (.tmp 99) rfl W.heap.size _ (.slice (some ⟨W.heap.size + 1, 0, none⟩) 0 0) 0 [] rfl OE3 Aa 0 ca [] rfl (unhide HA).2.2.2 (SA _ E3) hna E3.size ?_; intro v1 w1 hown1 hgrow1 hat1; have hC1 := E3.grown hgrow1 E3.size (own_block OE3); have hP1 := box_keep PB3 hgrow1 (ne_own2 _); have hne1 := ne_next (ne_own2 _) hat1 (box_lt PB3))
      | (refine step_append_parts_at rfl (.tmp 100) (.tmp 101) rfl W.heap.size _ v1 (0 + 0) ([] ++ []) rfl hown1 Ab 0 cb [] rfl (unhide HB).2.2.2 (SB _ hC1) hnb hC1.size ?_; intro v2 w2 hown2 hgrow2 hat2; have hC2 := hC1.grown hgrow2 hC1.size (own_block hown1))
      | (refine step_append_parts_at rfl (.tmp 100) (.tmp 101) rfl W.heap.size _ v1 (0 + 0) ([] ++ []) rfl (hown1.alloc _) Ab 0 cb [] rfl (unhide HB).2.2.2 (SB _ (hC1.alloc hC1.size _)) hnb (le_alloc hC1.size) ?_; intro v2 w2 hown2 hgrow2 hat2; have hC2 := (hC1.alloc hC1.size _).grown hgrow2 (le_alloc hC1.size) (own_block hown1); have hP2 := box_keep (heap_alloc_new w1 _) hgrow2 hn1)
      | (refine step_append_parts_at rfl (.tmp 102) (.tmp 104) rfl W.heap.size (w2.heap.size + 1) v2 (0 + 0 + 0) ([] ++ [] ++ []) rfl (hown2.alloc _) (some ⟨w2.heap.size, 0, none⟩) 1 1 [(kd, l)] rfl nomA (PS.one _ _ _ _ _ (Nat.lt_succ_self _)) hnp (le_alloc hC2.size) ?_; intro v3 w3 hown3 hgrow3 hat3; have hC3 := (hC2.alloc hC2.size _).grown hgrow3 (le_alloc hC2.size) (own_block hown2))
      | (refine step_append_parts_at rfl (.tmp 102) (.tmp 104) rfl W.heap.size w2.heap.size v2 (0 + 0 + 0) ([] ++ [] ++ []) rfl hown2 (some ⟨w1.heap.size, 0, none⟩) 1 1 [(kd, l)] rfl nomA (PS_box hP2) hnp hC2.size ?_; intro v3 w3 hown3 hgrow3 hat3; have hC3 := hC2.grown hgrow3 hC2.size (own_block hown2))
      | (refine step_append_parts_at rfl (.tmp 102) (.tmp 104) rfl W.heap.size w2.heap.size v2 (0 + 0 + 0) ([] ++ [] ++ []) rfl hown2 (some ⟨W.heap.size + 1, 0, none⟩) 1 1 [(kd, l)] rfl nomA (PS_box (box_keep hP1 hgrow2 hne1)) hnp hC2.size ?_; intro v3 w3 hown3 hgrow3 hat3; have hC3 := hC2.grown hgrow3 hC2.size (own_block hown2))
      | (refine step_append_parts_at rfl (.tmp 102) (.tmp 104) rfl W.heap.size w2.heap.size v2 (0 + 0 + 0) ([] ++ [] ++ []) rfl hown2 (some ⟨W.heap.size, 0, none⟩) 1 1 [(kd, l)] rfl nomA (PS_box (box_keep hP1 hgrow2 hne1)) hnp hC2.size ?_; intro v3 w3 hown3 hgrow3 hat3; have hC3 := hC2.grown hgrow3 hC2.size (own_block hown2)))
  all_goals
    go_wp2
    go_ret
    exact mk_end (v3 := v3) (ea := []) (eb := []) (na := 0) (nb := 0) hbW hown3 hC3
set_option maxHeartbeats 8000000 in
theorem l5Make_4 (x y : Ex) (w : World) (Ax Ay : Option Addr) (nx cx ny cy : Nat) (hx : SL w w.heap.size Ax nx cx x.flat) (hy : SL w w.heap.size Ay ny cy y.flat) (n1 : nx ≤ 100000) (n2 : ny ≤ 100000) :
    Calls Try.prog 85 #[part 4 0, .slice Ax nx cx, .slice Ay ny cy] w (RetP w (Ex.sJoin x y).flat) := by
  have hbox := heap_alloc_new w (pbox 4 0)
  have hbW0 : Below w.heap.size w (((w.alloc (pbox 4 0)).alloc (pbox 1 0)).alloc (pbox 2 0)) := (((Below.refl _ _).alloc (Nat.le_refl _) _).alloc (by simp) _).alloc (by simp; omega) _
  have hbx0 : (((w.alloc (pbox 4 0)).alloc (pbox 1 0)).alloc (pbox 2 0)).heap[w.heap.size]? = some (pbox 4 0) := (Below.heap_alloc _ _ _ (by simp; omega)).trans ((Below.heap_alloc _ _ _ (by simp)).trans hbox)
  have hbn0 : (((w.alloc (pbox 4 0)).alloc (pbox 1 0)).alloc (pbox 2 0)).heap[w.heap.size + 1]? = some (pbox 1 0) := (Below.heap_alloc _ _ _ (by simp)).trans (by have := heap_alloc_new (w.alloc (pbox 4 0)) (pbox 1 0); rwa [World.size_alloc] at this)
  have HX := hide (hx.up hbW0)
  have HY := hide (hy.up hbW0)
  have HBX := hide hbx0
  have HBN := hide hbn0
  clear hx hy hbox hbx0 hbn0
  rcases hKx1 : x.isK 1
  · have Kx1 := Lib.hid hKx1
    clear hKx1
    rcases hKy1 : y.isK 1
    · have Ky1 := Lib.hid hKy1
      clear hKy1
      rcases hKx2 : x.isK 2
      · have Kx2 := Lib.hid hKx2
        clear hKx2
        rcases hKy2 : y.isK 2
        · have Ky2 := Lib.hid hKy2
          clear hKy2
          go_enter Try.func85, Try.ntmps85
          go_wp2_with fail
          generalize hWe : ((w.alloc (pbox 4 0)).alloc (pbox 1 0)).alloc (pbox 2 0) = W at *
          clear hWe
          have hbW := hbW0
          refine (l5Is_any x _ _ _ _ 1 (unhide HX).1 (by omega)).mono ?_
          rintro r w' ⟨rfl, rfl⟩
          rw [Kx1.out]
          go_wp2_with fail
          refine (l5Is_any y _ _ _ _ 1 (unhide HY).1 (by omega)).mono ?_
          rintro r w' ⟨rfl, rfl⟩
          rw [Ky1.out]
          go_wp2_with fail
          refine (l5Is_any x _ _ _ _ 2 (unhide HX).1 (by omega)).mono ?_
          rintro r w' ⟨rfl, rfl⟩
          rw [Kx2.out]
          go_wp2_with fail
          refine (l5Is_any y _ _ _ _ 2 (unhide HY).1 (by omega)).mono ?_
          rintro r w' ⟨rfl, rfl⟩
          rw [Ky2.out]
          go_wp2
          have hS : ∀ W', Below W.heap.size W W' → W'.cell? ⟨w.heap.size, 0, none⟩ = some (.int .i64 4) ∧ W'.cell? ⟨w.heap.size, 1, none⟩ = some (.int .i64 0) := fun W' h => box_cells (box_below (unhide HBX) h)
          have SA : ∀ W', Below W.heap.size W W' → PS W' W'.heap.size Ax nx x.flat := fun W' h => (unhide HX).1.up h
          have SB : ∀ W', Below W.heap.size W W' → PS W' W'.heap.size Ay ny y.flat := fun W' h => (unhide HY).1.up h
          have hna : 0 + nx ≤ 1000000000 := by omega
          have hnb : 0 + nx + ny ≤ 1000000000 := by omega
          have hnp : 0 + nx + ny + 1 ≤ 1000000000 := by omega
          have E1 : Below W.heap.size W (W.alloc (.cells #[] 45)).drew := ((Below.refl _ _).alloc (Nat.le_refl _) _).drew
          have E2 : Below W.heap.size W ((W.alloc (.cells #[] 45)).alloc (pbox 4 0)).drew := (((Below.refl _ _).alloc (Nat.le_refl _) _).alloc (le_alloc (Nat.le_refl _)) _).drew
          have E3 : Below W.heap.size W ((W.alloc (pbox 4 0)).alloc (.cells #[] 45)).drew := (((Below.refl _ _).alloc (Nat.le_refl _) _).alloc (le_alloc (Nat.le_refl _)) _).drew
          have OE1 : (W.alloc (.cells #[] 45)).drew.ownsRow W.heap.size 45 2 (.slice (some ⟨W.heap.size, 0, none⟩) 0 0) 0 (flatV []) := (own_empty W _ _ (Nat.le_refl _)).drew
          have OE2 : ((W.alloc (.cells #[] 45)).alloc (pbox 4 0)).drew.ownsRow W.heap.size 45 2 (.slice (some ⟨W.heap.size, 0, none⟩) 0 0) 0 (flatV []) := ((own_empty W _ _ (Nat.le_refl _)).alloc _).drew
          have OE3 : ((W.alloc (pbox 4 0)).alloc (.cells #[] 45)).drew.ownsRow W.heap.size 45 2 (.slice (some ⟨W.heap.size + 1, 0, none⟩) 0 0) 0 (flatV []) := own_empty3 W _ _
          have PB2 := heap_two W (.cells #[] 45) (pbox 4 0)
          have PB3 := heap_first W (pbox 4 0) (.cells #[] 45)
          obtain ⟨hW0, hW1⟩ := hS W (Below.refl _ _)
          go_region_held3 (fun w' => w'.cell? ⟨w.heap.size, 0, none⟩ = some (.int .i64 4) ∧ w'.cell? ⟨w.heap.size, 1, none⟩ = some (.int .i64 0))
            (first
              | (refine hS _ ?_; exact (Below.refl _ _).drew)
              | (refine hS _ ?_; exact ((Below.refl _ _).alloc (Nat.le_refl _) _).drew)
              | (refine hS _ ?_; exact (((Below.refl _ _).alloc (Nat.le_refl _) _).alloc (le_alloc (Nat.le_refl _)) _).drew)
              | (refine hS _ ?_; exact hC1)
              | (refine hS _ ?_; exact hC1.alloc hC1.size _)
              | (refine hS _ ?_; exact hC2)
              | (refine hS _ ?_; exact hC2.alloc hC2.size _)
              | (refine hS _ ?_; exact hC3))
            (first
              | (refine step_append_parts_at rfl (.tmp 98) (.tmp 99) rfl W.heap.size _ (.slice (some ⟨W.heap.size, 0, none⟩) 0 0) 0 [] rfl OE1 Ax nx cx x.flat rfl (unhide HX).2.2.2 (SA _ E1) hna E1.size ?_; intro v1 w1 hown1 hgrow1 hat1; have hC1 := E1.grown hgrow1 E1.size (own_block OE1); have hn1 := own_new hown1)
              | (refine step_append_parts_at rfl (.tmp 98) (.tmp 99) rfl W.heap.size _ (.slice (some ⟨W.heap.size, 0, none⟩) 0 0) 0 [] rfl OE2 Ax nx cx x.flat rfl (unhide HX).2.2.2 (SA _ E2) hna E2.size ?_; intro v1 w1 hown1 hgrow1 hat1; have hC1 := E2.grown hgrow1 E2.size (own_block OE2); have hP1 := box_keep PB2 hgrow1 (ne_own1 _); have hne1 := ne_next (ne_own1 _) hat1 (box_lt PB2))
              | (refine step_append_parts_at rfl (.tmp 98) (.tmp 99) rfl W.heap.size _ (.slice (some ⟨W.heap.size + 1, 0, none⟩) 0 0) 0 [] rfl OE3 Ax nx cx x.flat rfl (unhide HX).2.2.2 (SA _ E3) hna E3.size ?_; intro v1 w1 hown1 hgrow1 hat1; have hC1 := E3.grown hgrow1 E3.size (own_block OE3); have hP1 := box_keep PB3 hgrow1 (ne_own2 _); have hne1 := ne_next (ne_own2 _) hat1 (box_lt PB3))
              | (refine step_append_parts_at rfl (.tmp 100) (.tmp 101) rfl W.heap.size _ v1 (0 + nx) ([] ++ x.flat) rfl hown1 Ay ny cy y.flat rfl (unhide HY).2.2.2 (SB _ hC1) hnb hC1.size ?_; intro v2 w2 hown2 hgrow2 hat2; have hC2 := hC1.grown hgrow2 hC1.size (own_block hown1))
              | (refine step_append_parts_at rfl (.tmp 100) (.tmp 101) rfl W.heap.size _ v1 (0 + nx) ([] ++ x.flat) rfl (hown1.alloc _) Ay ny cy y.flat rfl (unhide HY).2.2.2 (SB _ (hC1.alloc hC1.size _)) hnb (le_alloc hC1.size) ?_; intro v2 w2 hown2 hgrow2 hat2; have hC2 := (hC1.alloc hC1.size _).grown hgrow2 (le_alloc hC1.size) (own_block hown1); have hP2 := box_keep (heap_alloc_new w1 _) hgrow2 hn1)
              | (refine step_append_parts_at rfl (.tmp 102) (.tmp 104) rfl W.heap.size (w2.heap.size + 1) v2 (0 + nx + ny) ([] ++ x.flat ++ y.flat) rfl (hown2.alloc _) (some ⟨w2.heap.size, 0, none⟩) 1 1 [(4, 0)] rfl nomA (PS.one _ _ _ _ _ (Nat.lt_succ_self _)) hnp (le_alloc hC2.size) ?_; intro v3 w3 hown3 hgrow3 hat3; have hC3 := (hC2.alloc hC2.size _).grown hgrow3 (le_alloc hC2.size) (own_block hown2))
              | (refine step_append_parts_at rfl (.tmp 102) (.tmp 104) rfl W.heap.size w2.heap.size v2 (0 + nx + ny) ([] ++ x.flat ++ y.flat) rfl hown2 (some ⟨w1.heap.size, 0, none⟩) 1 1 [(4, 0)] rfl nomA (PS_box hP2) hnp hC2.size ?_; intro v3 w3 hown3 hgrow3 hat3; have hC3 := hC2.grown hgrow3 hC2.size (own_block hown2))
              | (refine step_append_parts_at rfl (.tmp 102) (.tmp 104) rfl W.heap.size w2.heap.size v2 (0 + nx + ny) ([] ++ x.flat ++ y.flat) rfl hown2 (some ⟨W.heap.size + 1, 0, none⟩) 1 1 [(4, 0)] rfl nomA (PS_box (box_keep hP1 hgrow2 hne1)) hnp hC2.size ?_; intro v3 w3 hown3 hgrow3 hat3; have hC3 := hC2.grown hgrow3 hC2.size (own_block hown2))
              | (refine step_append_parts_at rfl (.tmp 102) (.tmp 104) rfl W.heap.size w2.heap.size v2 (0 + nx + ny) ([] ++ x.flat ++ y.flat) rfl hown2 (some ⟨W.heap.size, 0, none⟩) 1 1 [(4, 0)] rfl nomA (PS_box (box_keep hP1 hgrow2 hne1)) hnp hC2.size ?_; intro v3 w3 hown3 hgrow3 hat3; have hC3 := hC2.grown hgrow3 hC2.size (own_block hown2)))
          all_goals
            go_wp2
            go_ret
            exact ret_eq (by rw [Ex.sJoin_4 Kx1.out Ky1.out Kx2.out Ky2.out]; simp [Ex.flat]) ((mk_end (v3 := v3) (ea := x.flat) (eb := y.flat) (na := nx) (nb := ny) hbW hown3 hC3).ret (by simp; have h7 := (unhide HX).1.1; have h8 := (unhide HY).1.1; omega))
        · have Ky2 := Lib.hid hKy2
          clear hKy2
          go_enter Try.func85, Try.ntmps85
          go_wp2_with fail
          generalize hWe : ((w.alloc (pbox 4 0)).alloc (pbox 1 0)).alloc (pbox 2 0) = W at *
          clear hWe
          have hbW := hbW0
          refine (l5Is_any x _ _ _ _ 1 (unhide HX).1 (by omega)).mono ?_
          rintro r w' ⟨rfl, rfl⟩
          rw [Kx1.out]
          go_wp2_with fail
          refine (l5Is_any y _ _ _ _ 1 (unhide HY).1 (by omega)).mono ?_
          rintro r w' ⟨rfl, rfl⟩
          rw [Ky1.out]
          go_wp2_with fail
          refine (l5Is_any x _ _ _ _ 2 (unhide HX).1 (by omega)).mono ?_
          rintro r w' ⟨rfl, rfl⟩
          rw [Kx2.out]
          go_wp2_with fail
          refine (l5Is_any y _ _ _ _ 2 (unhide HY).1 (by omega)).mono ?_
          rintro r w' ⟨rfl, rfl⟩
          rw [Ky2.out]
          go_wp2
          go_ret
          rw [Ex.sJoin_3 Kx1.out Ky1.out Kx2.out Ky2.out]
          exact RetP.shut (unhide HX) hbW
      · have Kx2 := Lib.hid hKx2
        clear hKx2
        go_enter Try.func85, Try.ntmps85
        go_wp2_with fail
        generalize hWe : ((w.alloc (pbox 4 0)).alloc (pbox 1 0)).alloc (pbox 2 0) = W at *
        clear hWe
        have hbW := hbW0
        refine (l5Is_any x _ _ _ _ 1 (unhide HX).1 (by omega)).mono ?_
        rintro r w' ⟨rfl, rfl⟩
        rw [Kx1.out]
        go_wp2_with fail
        refine (l5Is_any y _ _ _ _ 1 (unhide HY).1 (by omega)).mono ?_
        rintro r w' ⟨rfl, rfl⟩
        rw [Ky1.out]
        go_wp2_with fail
        refine (l5Is_any x _ _ _ _ 2 (unhide HX).1 (by omega)).mono ?_
        rintro r w' ⟨rfl, rfl⟩
        rw [Kx2.out]
        go_wp2
        go_ret
        rw [Ex.sJoin_2 Kx1.out Ky1.out Kx2.out]
        exact RetP.shut (unhide HY) hbW
    · have Ky1 := Lib.hid hKy1
      clear hKy1
      go_enter Try.func85, Try.ntmps85
      go_wp2_with fail
      generalize hWe : ((w.alloc (pbox 4 0)).alloc (pbox 1 0)).alloc (pbox 2 0) = W at *
      clear hWe
      have hbW := hbW0
      refine (l5Is_any x _ _ _ _ 1 (unhide HX).1 (by omega)).mono ?_
      rintro r w' ⟨rfl, rfl⟩
      rw [Kx1.out]
      go_wp2_with fail
      refine (l5Is_any y _ _ _ _ 1 (unhide HY).1 (by omega)).mono ?_
      rintro r w' ⟨rfl, rfl⟩
      rw [Ky1.out]
      go_wp2
      go_ret
      rw [Ex.sJoin_1 (.inr Ky1.out)]
      exact RetP.shut (SL_box (unhide HBN)) hbW
  · have Kx1 := Lib.hid hKx1
    clear hKx1
    go_enter Try.func85, Try.ntmps85
    go_wp2_with fail
    generalize hWe : ((w.alloc (pbox 4 0)).alloc (pbox 1 0)).alloc (pbox 2 0) = W at *
    clear hWe
    have hbW := hbW0
    refine (l5Is_any x _ _ _ _ 1 (unhide HX).1 (by omega)).mono ?_
    rintro r w' ⟨rfl, rfl⟩
    rw [Kx1.out]
    go_wp2
    go_ret
    rw [Ex.sJoin_1 (.inl Kx1.out)]
    exact RetP.shut (SL_box (unhide HBN)) hbW
set_option maxHeartbeats 8000000 in
theorem l5Make_5 (x y : Ex) (w : World) (Ax Ay : Option Addr) (nx cx ny cy : Nat) (hx : SL w w.heap.size Ax nx cx x.flat) (hy : SL w w.heap.size Ay ny cy y.flat) (n1 : nx ≤ 100000) (n2 : ny ≤ 100000) :
    Calls Try.prog 85 #[part 5 0, .slice Ax nx cx, .slice Ay ny cy] w (RetP w (Ex.sEither x y).flat) := by
  have hbox := heap_alloc_new w (pbox 5 0)
  have hbW0 : Below w.heap.size w (((w.alloc (pbox 5 0)).alloc (pbox 1 0)).alloc (pbox 2 0)) := (((Below.refl _ _).alloc (Nat.le_refl _) _).alloc (by simp) _).alloc (by simp; omega) _
  have hbx0 : (((w.alloc (pbox 5 0)).alloc (pbox 1 0)).alloc (pbox 2 0)).heap[w.heap.size]? = some (pbox 5 0) := (Below.heap_alloc _ _ _ (by simp; omega)).trans ((Below.heap_alloc _ _ _ (by simp)).trans hbox)
  have hbn0 : (((w.alloc (pbox 5 0)).alloc (pbox 1 0)).alloc (pbox 2 0)).heap[w.heap.size + 1]? = some (pbox 1 0) := (Below.heap_alloc _ _ _ (by simp)).trans (by have := heap_alloc_new (w.alloc (pbox 5 0)) (pbox 1 0); rwa [World.size_alloc] at this)
  have HX := hide (hx.up hbW0)
  have HY := hide (hy.up hbW0)
  have HBX := hide hbx0
  have HBN := hide hbn0
  clear hx hy hbox hbx0 hbn0
  rcases hKx1 : x.isK 1
  · have Kx1 := Lib.hid hKx1
    clear hKx1
    rcases hKQ : decide (x.flat = y.flat)
    · have KQ := Lib.hid hKQ
      clear hKQ
      rcases hKy1 : y.isK 1
      · have Ky1 := Lib.hid hKy1
        clear hKy1
        go_enter Try.func85, Try.ntmps85
        go_wp2_with fail
        generalize hWe : ((w.alloc (pbox 5 0)).alloc (pbox 1 0)).alloc (pbox 2 0) = W at *
        clear hWe
        have hbW := hbW0
        refine (l5Is_any x _ _ _ _ 1 (unhide HX).1 (by omega)).mono ?_
        rintro r w' ⟨rfl, rfl⟩
        rw [Kx1.out]
        go_wp2_with fail
        refine (l5Same_any _ _ _ _ _ _ _ x.flat y.flat (unhide HX).1 (unhide HY).1 (by omega) (by omega)).mono ?_
        rintro r w1 ⟨rfl, hb⟩
        rw [KQ.out]
        go_wp2_with fail
        refine (l5Is_any y _ _ _ _ 1 ((unhide HY).up hb).1 (by omega)).mono ?_
        rintro r w' ⟨rfl, rfl⟩
        rw [Ky1.out]
        go_wp2
        have hbW := hbW.trans (hb.mono hbW.size)
        replace HX := hide ((unhide HX).up hb)
        replace HY := hide ((unhide HY).up hb)
        replace HBX := hide (box_below (unhide HBX) hb)
        clear HBN hbW0
        have hS : ∀ W', Below w1.heap.size w1 W' → W'.cell? ⟨w.heap.size, 0, none⟩ = some (.int .i64 5) ∧ W'.cell? ⟨w.heap.size, 1, none⟩ = some (.int .i64 0) := fun W' h => box_cells (box_below (unhide HBX) h)
        have SA : ∀ W', Below w1.heap.size w1 W' → PS W' W'.heap.size Ax nx x.flat := fun W' h => (unhide HX).1.up h
        have SB : ∀ W', Below w1.heap.size w1 W' → PS W' W'.heap.size Ay ny y.flat := fun W' h => (unhide HY).1.up h
        have hna : 0 + nx ≤ 1000000000 := by omega
        have hnb : 0 + nx + ny ≤ 1000000000 := by omega
        have hnp : 0 + nx + ny + 1 ≤ 1000000000 := by omega
        have E1 : Below w1.heap.size w1 (w1.alloc (.cells #[] 45)).drew := ((Below.refl _ _).alloc (Nat.le_refl _) _).drew
        have E2 : Below w1.heap.size w1 ((w1.alloc (.cells #[] 45)).alloc (pbox 5 0)).drew := (((Below.refl _ _).alloc (Nat.le_refl _) _).alloc (le_alloc (Nat.le_refl _)) _).drew
        have E3 : Below w1.heap.size w1 ((w1.alloc (pbox 5 0)).alloc (.cells #[] 45)).drew := (((Below.refl _ _).alloc (Nat.le_refl _) _).alloc (le_alloc (Nat.le_refl _)) _).drew
        have OE1 : (w1.alloc (.cells #[] 45)).drew.ownsRow w1.heap.size 45 2 (.slice (some ⟨w1.heap.size, 0, none⟩) 0 0) 0 (flatV []) := (own_empty w1 _ _ (Nat.le_refl _)).drew
        have OE2 : ((w1.alloc (.cells #[] 45)).alloc (pbox 5 0)).drew.ownsRow w1.heap.size 45 2 (.slice (some ⟨w1.heap.size, 0, none⟩) 0 0) 0 (flatV []) := ((own_empty w1 _ _ (Nat.le_refl _)).alloc _).drew
        have OE3 : ((w1.alloc (pbox 5 0)).alloc (.cells #[] 45)).drew.ownsRow w1.heap.size 45 2 (.slice (some ⟨w1.heap.size + 1, 0, none⟩) 0 0) 0 (flatV []) := own_empty3 w1 _ _
        have PB2 := heap_two w1 (.cells #[] 45) (pbox 5 0)
        have PB3 := heap_first w1 (pbox 5 0) (.cells #[] 45)
        obtain ⟨hW0, hW1⟩ := hS w1 (Below.refl _ _)
        go_region_held3 (fun w' => w'.cell? ⟨w.heap.size, 0, none⟩ = some (.int .i64 5) ∧ w'.cell? ⟨w.heap.size, 1, none⟩ = some (.int .i64 0))
          (first
            | (refine hS _ ?_; exact (Below.refl _ _).drew)
            | (refine hS _ ?_; exact ((Below.refl _ _).alloc (Nat.le_refl _) _).drew)
            | (refine hS _ ?_; exact (((Below.refl _ _).alloc (Nat.le_refl _) _).alloc (le_alloc (Nat.le_refl _)) _).drew)
            | (refine hS _ ?_; exact hC1)
            | (refine hS _ ?_; exact hC1.alloc hC1.size _)
            | (refine hS _ ?_; exact hC2)
            | (refine hS _ ?_; exact hC2.alloc hC2.size _)
            | (refine hS _ ?_; exact hC3))
          (first
            | (refine step_append_parts_at rfl (.tmp 98) (.tmp 99) rfl w1.heap.size _ (.slice (some ⟨w1.heap.size, 0, none⟩) 0 0) 0 [] rfl OE1 Ax nx cx x.flat rfl (unhide HX).2.2.2 (SA _ E1) hna E1.size ?_; intro v1 v1w hown1 hgrow1 hat1; have hC1 := E1.grown hgrow1 E1.size (own_block OE1); have hn1 := own_new hown1)
            | (refine step_append_parts_at rfl (.tmp 98) (.tmp 99) rfl w1.heap.size _ (.slice (some ⟨w1.heap.size, 0, none⟩) 0 0) 0 [] rfl OE2 Ax nx cx x.flat rfl (unhide HX).2.2.2 (SA _ E2) hna E2.size ?_; intro v1 v1w hown1 hgrow1 hat1; have hC1 := E2.grown hgrow1 E2.size (own_block OE2); have hP1 := box_keep PB2 hgrow1 (ne_own1 _); have hne1 := ne_next (ne_own1 _) hat1 (box_lt PB2))
            | (refine step_append_parts_at rfl (.tmp 98) (.tmp 99) rfl w1.heap.size _ (.slice (some ⟨w1.heap.size + 1, 0, none⟩) 0 0) 0 [] rfl OE3 Ax nx cx x.flat rfl (unhide HX).2.2.2 (SA _ E3) hna E3.size ?_; intro v1 v1w hown1 hgrow1 hat1; have hC1 := E3.grown hgrow1 E3.size (own_block OE3); have hP1 := box_keep PB3 hgrow1 (ne_own2 _); have hne1 := ne_next (ne_own2 _) hat1 (box_lt PB3))
            | (refine step_append_parts_at rfl (.tmp 100) (.tmp 101) rfl w1.heap.size _ v1 (0 + nx) ([] ++ x.flat) rfl hown1 Ay ny cy y.flat rfl (unhide HY).2.2.2 (SB _ hC1) hnb hC1.size ?_; intro v2 v2w hown2 hgrow2 hat2; have hC2 := hC1.grown hgrow2 hC1.size (own_block hown1))
            | (refine step_append_parts_at rfl (.tmp 100) (.tmp 101) rfl w1.heap.size _ v1 (0 + nx) ([] ++ x.flat) rfl (hown1.alloc _) Ay ny cy y.flat rfl (unhide HY).2.2.2 (SB _ (hC1.alloc hC1.size _)) hnb (le_alloc hC1.size) ?_; intro v2 v2w hown2 hgrow2 hat2; have hC2 := (hC1.alloc hC1.size _).grown hgrow2 (le_alloc hC1.size) (own_block hown1); have hP2 := box_keep (heap_alloc_new v1w _) hgrow2 hn1)
            | (refine step_append_parts_at rfl (.tmp 102) (.tmp 104) rfl w1.heap.size (v2w.heap.size + 1) v2 (0 + nx + ny) ([] ++ x.flat ++ y.flat) rfl (hown2.alloc _) (some ⟨v2w.heap.size, 0, none⟩) 1 1 [(5, 0)] rfl nomA (PS.one _ _ _ _ _ (Nat.lt_succ_self _)) hnp (le_alloc hC2.size) ?_; intro v3 v3w hown3 hgrow3 hat3; have hC3 := (hC2.alloc hC2.size _).grown hgrow3 (le_alloc hC2.size) (own_block hown2))
            | (refine step_append_parts_at rfl (.tmp 102) (.tmp 104) rfl w1.heap.size v2w.heap.size v2 (0 + nx + ny) ([] ++ x.flat ++ y.flat) rfl hown2 (some ⟨v1w.heap.size, 0, none⟩) 1 1 [(5, 0)] rfl nomA (PS_box hP2) hnp hC2.size ?_; intro v3 v3w hown3 hgrow3 hat3; have hC3 := hC2.grown hgrow3 hC2.size (own_block hown2))
            | (refine step_append_parts_at rfl (.tmp 102) (.tmp 104) rfl w1.heap.size v2w.heap.size v2 (0 + nx + ny) ([] ++ x.flat ++ y.flat) rfl hown2 (some ⟨w1.heap.size + 1, 0, none⟩) 1 1 [(5, 0)] rfl nomA (PS_box (box_keep hP1 hgrow2 hne1)) hnp hC2.size ?_; intro v3 v3w hown3 hgrow3 hat3; have hC3 := hC2.grown hgrow3 hC2.size (own_block hown2))
            | (refine step_append_parts_at rfl (.tmp 102) (.tmp 104) rfl w1.heap.size v2w.heap.size v2 (0 + nx + ny) ([] ++ x.flat ++ y.flat) rfl hown2 (some ⟨w1.heap.size, 0, none⟩) 1 1 [(5, 0)] rfl nomA (PS_box (box_keep hP1 hgrow2 hne1)) hnp hC2.size ?_; intro v3 v3w hown3 hgrow3 hat3; have hC3 := hC2.grown hgrow3 hC2.size (own_block hown2)))
        all_goals
          go_wp2
          go_ret
          exact ret_eq (by rw [Ex.sEither_3 Kx1.out (of_decide_eq_false KQ.out) Ky1.out]; simp [Ex.flat]) ((mk_end (v3 := v3) (ea := x.flat) (eb := y.flat) (na := nx) (nb := ny) hbW hown3 hC3).ret (by simp; have h7 := (unhide HX).1.1; have h8 := (unhide HY).1.1; omega))
      · have Ky1 := Lib.hid hKy1
        clear hKy1
        go_enter Try.func85, Try.ntmps85
        go_wp2_with fail
        generalize hWe : ((w.alloc (pbox 5 0)).alloc (pbox 1 0)).alloc (pbox 2 0) = W at *
        clear hWe
        have hbW := hbW0
        refine (l5Is_any x _ _ _ _ 1 (unhide HX).1 (by omega)).mono ?_
        rintro r w' ⟨rfl, rfl⟩
        rw [Kx1.out]
        go_wp2_with fail
        refine (l5Same_any _ _ _ _ _ _ _ x.flat y.flat (unhide HX).1 (unhide HY).1 (by omega) (by omega)).mono ?_
        rintro r w1 ⟨rfl, hb⟩
        rw [KQ.out]
        go_wp2_with fail
        refine (l5Is_any y _ _ _ _ 1 ((unhide HY).up hb).1 (by omega)).mono ?_
        rintro r w' ⟨rfl, rfl⟩
        rw [Ky1.out]
        go_wp2
        go_ret
        rw [Ex.sEither_2 Kx1.out (of_decide_eq_false KQ.out) Ky1.out]
        exact RetP.shut ((unhide HX).up hb) (hbW.trans (hb.mono hbW.size))
    · have KQ := Lib.hid hKQ
      clear hKQ
      go_enter Try.func85, Try.ntmps85
      go_wp2_with fail
      generalize hWe : ((w.alloc (pbox 5 0)).alloc (pbox 1 0)).alloc (pbox 2 0) = W at *
      clear hWe
      have hbW := hbW0
      refine (l5Is_any x _ _ _ _ 1 (unhide HX).1 (by omega)).mono ?_
      rintro r w' ⟨rfl, rfl⟩
      rw [Kx1.out]
      go_wp2_with fail
      refine (l5Same_any _ _ _ _ _ _ _ x.flat y.flat (unhide HX).1 (unhide HY).1 (by omega) (by omega)).mono ?_
      rintro r w1 ⟨rfl, hb⟩
      rw [KQ.out]
      go_wp2
      go_ret
      rw [Ex.sEither_1 (.inr (of_decide_eq_true KQ.out))]
      exact RetP.shut ((unhide HY).up hb) (hbW.trans (hb.mono hbW.size))
  · have Kx1 := Lib.hid hKx1
    clear hKx1
    go_enter Try.func85, Try.ntmps85
    go_wp2_with fail
    generalize hWe : ((w.alloc (pbox 5 0)).alloc (pbox 1 0)).alloc (pbox 2 0) = W at *
    clear hWe
    have hbW := hbW0
    refine (l5Is_any x _ _ _ _ 1 (unhide HX).1 (by omega)).mono ?_
    rintro r w' ⟨rfl, rfl⟩
    rw [Kx1.out]
    go_wp2
    go_ret
    rw [Ex.sEither_1 (.inl Kx1.out)]
    exact RetP.shut (unhide HY) hbW
set_option maxHeartbeats 8000000 in
theorem l5Make_6 (x y : Ex) (w : World) (Ax Ay : Option Addr) (nx cx ny cy : Nat) (hx : SL w w.heap.size Ax nx cx x.flat) (hy : SL w w.heap.size Ay ny cy y.flat) (n1 : nx ≤ 100000) (n2 : ny ≤ 100000) :
    Calls Try.prog 85 #[part 6 0, .slice Ax nx cx, .slice Ay ny cy] w (RetP w (Ex.sBoth x y).flat) := by
  have hbox := heap_alloc_new w (pbox 6 0)
  have hbW0 : Below w.heap.size w (((w.alloc (pbox 6 0)).alloc (pbox 1 0)).alloc (pbox 2 0)) := (((Below.refl _ _).alloc (Nat.le_refl _) _).alloc (by simp) _).alloc (by simp; omega) _
  have hbx0 : (((w.alloc (pbox 6 0)).alloc (pbox 1 0)).alloc (pbox 2 0)).heap[w.heap.size]? = some (pbox 6 0) := (Below.heap_alloc _ _ _ (by simp; omega)).trans ((Below.heap_alloc _ _ _ (by simp)).trans hbox)
  have hbn0 : (((w.alloc (pbox 6 0)).alloc (pbox 1 0)).alloc (pbox 2 0)).heap[w.heap.size + 1]? = some (pbox 1 0) := (Below.heap_alloc _ _ _ (by simp)).trans (by have := heap_alloc_new (w.alloc (pbox 6 0)) (pbox 1 0); rwa [World.size_alloc] at this)
  have HX := hide (hx.up hbW0)
  have HY := hide (hy.up hbW0)
  have HBX := hide hbx0
  have HBN := hide hbn0
  clear hx hy hbox hbx0 hbn0
  rcases hKx1 : x.isK 1
  · have Kx1 := Lib.hid hKx1
    clear hKx1
    rcases hKy1 : y.isK 1
    · have Ky1 := Lib.hid hKy1
      clear hKy1
      rcases hKQ : decide (x.flat = y.flat)
      · have KQ := Lib.hid hKQ
        clear hKQ
        go_enter Try.func85, Try.ntmps85
        go_wp2_with fail
        generalize hWe : ((w.alloc (pbox 6 0)).alloc (pbox 1 0)).alloc (pbox 2 0) = W at *
        clear hWe
        have hbW := hbW0
        refine (l5Is_any x _ _ _ _ 1 (unhide HX).1 (by omega)).mono ?_
        rintro r w' ⟨rfl, rfl⟩
        rw [Kx1.out]
        go_wp2_with fail
        refine (l5Is_any y _ _ _ _ 1 (unhide HY).1 (by omega)).mono ?_
        rintro r w' ⟨rfl, rfl⟩
        rw [Ky1.out]
        go_wp2_with fail
        refine (l5Same_any _ _ _ _ _ _ _ x.flat y.flat (unhide HX).1 (unhide HY).1 (by omega) (by omega)).mono ?_
        rintro r w1 ⟨rfl, hb⟩
        rw [KQ.out]
        go_wp2
        have hbW := hbW.trans (hb.mono hbW.size)
        replace HX := hide ((unhide HX).up hb)
        replace HY := hide ((unhide HY).up hb)
        replace HBX := hide (box_below (unhide HBX) hb)
        clear HBN hbW0
        have hS : ∀ W', Below w1.heap.size w1 W' → W'.cell? ⟨w.heap.size, 0, none⟩ = some (.int .i64 6) ∧ W'.cell? ⟨w.heap.size, 1, none⟩ = some (.int .i64 0) := fun W' h => box_cells (box_below (unhide HBX) h)
        have SA : ∀ W', Below w1.heap.size w1 W' → PS W' W'.heap.size Ax nx x.flat := fun W' h => (unhide HX).1.up h
        have SB : ∀ W', Below w1.heap.size w1 W' → PS W' W'.heap.size Ay ny y.flat := fun W' h => (unhide HY).1.up h
        have hna : 0 + nx ≤ 1000000000 := by omega
        have hnb : 0 + nx + ny ≤ 1000000000 := by omega
        have hnp : 0 + nx + ny + 1 ≤ 1000000000 := by omega
        have E1 : Below w1.heap.size w1 (w1.alloc (.cells #[] 45)).drew := ((Below.refl _ _).alloc (Nat.le_refl _) _).drew
        have E2 : Below w1.heap.size w1 ((w1.alloc (.cells #[] 45)).alloc (pbox 6 0)).drew := (((Below.refl _ _).alloc (Nat.le_refl _) _).alloc (le_alloc (Nat.le_refl _)) _).drew
        have E3 : Below w1.heap.size w1 ((w1.alloc (pbox 6 0)).alloc (.cells #[] 45)).drew := (((Below.refl _ _).alloc (Nat.le_refl _) _).alloc (le_alloc (Nat.le_refl _)) _).drew
        have OE1 : (w1.alloc (.cells #[] 45)).drew.ownsRow w1.heap.size 45 2 (.slice (some ⟨w1.heap.size, 0, none⟩) 0 0) 0 (flatV []) := (own_empty w1 _ _ (Nat.le_refl _)).drew
        have OE2 : ((w1.alloc (.cells #[] 45)).alloc (pbox 6 0)).drew.ownsRow w1.heap.size 45 2 (.slice (some ⟨w1.heap.size, 0, none⟩) 0 0) 0 (flatV []) := ((own_empty w1 _ _ (Nat.le_refl _)).alloc _).drew
        have OE3 : ((w1.alloc (pbox 6 0)).alloc (.cells #[] 45)).drew.ownsRow w1.heap.size 45 2 (.slice (some ⟨w1.heap.size + 1, 0, none⟩) 0 0) 0 (flatV []) := own_empty3 w1 _ _
        have PB2 := heap_two w1 (.cells #[] 45) (pbox 6 0)
        have PB3 := heap_first w1 (pbox 6 0) (.cells #[] 45)
        obtain ⟨hW0, hW1⟩ := hS w1 (Below.refl _ _)
        go_region_held3 (fun w' => w'.cell? ⟨w.heap.size, 0, none⟩ = some (.int .i64 6) ∧ w'.cell? ⟨w.heap.size, 1, none⟩ = some (.int .i64 0))
          (first
            | (refine hS _ ?_; exact (Below.refl _ _).drew)
            | (refine hS _ ?_; exact ((Below.refl _ _).alloc (Nat.le_refl _) _).drew)
            | (refine hS _ ?_; exact (((Below.refl _ _).alloc (Nat.le_refl _) _).alloc (le_alloc (Nat.le_refl _)) _).drew)
            | (refine hS _ ?_; exact hC1)
            | (refine hS _ ?_; exact hC1.alloc hC1.size _)
            | (refine hS _ ?_; exact hC2)
            | (refine hS _ ?_; exact hC2.alloc hC2.size _)
            | (refine hS _ ?_; exact hC3))
          (first
            | (refine step_append_parts_at rfl (.tmp 98) (.tmp 99) rfl w1.heap.size _ (.slice (some ⟨w1.heap.size, 0, none⟩) 0 0) 0 [] rfl OE1 Ax nx cx x.flat rfl (unhide HX).2.2.2 (SA _ E1) hna E1.size ?_; intro v1 v1w hown1 hgrow1 hat1; have hC1 := E1.grown hgrow1 E1.size (own_block OE1); have hn1 := own_new hown1)
            | (refine step_append_parts_at rfl (.tmp 98) (.tmp 99) rfl w1.heap.size _ (.slice (some ⟨w1.heap.size, 0, none⟩) 0 0) 0 [] rfl OE2 Ax nx cx x.flat rfl (unhide HX).2.2.2 (SA _ E2) hna E2.size ?_; intro v1 v1w hown1 hgrow1 hat1; have hC1 := E2.grown hgrow1 E2.size (own_block OE2); have hP1 := box_keep PB2 hgrow1 (ne_own1 _); have hne1 := ne_next (ne_own1 _) hat1 (box_lt PB2))
            | (refine step_append_parts_at rfl (.tmp 98) (.tmp 99) rfl w1.heap.size _ (.slice (some ⟨w1.heap.size + 1, 0, none⟩) 0 0) 0 [] rfl OE3 Ax nx cx x.flat rfl (unhide HX).2.2.2 (SA _ E3) hna E3.size ?_; intro v1 v1w hown1 hgrow1 hat1; have hC1 := E3.grown hgrow1 E3.size (own_block OE3); have hP1 := box_keep PB3 hgrow1 (ne_own2 _); have hne1 := ne_next (ne_own2 _) hat1 (box_lt PB3))
            | (refine step_append_parts_at rfl (.tmp 100) (.tmp 101) rfl w1.heap.size _ v1 (0 + nx) ([] ++ x.flat) rfl hown1 Ay ny cy y.flat rfl (unhide HY).2.2.2 (SB _ hC1) hnb hC1.size ?_; intro v2 v2w hown2 hgrow2 hat2; have hC2 := hC1.grown hgrow2 hC1.size (own_block hown1))
            | (refine step_append_parts_at rfl (.tmp 100) (.tmp 101) rfl w1.heap.size _ v1 (0 + nx) ([] ++ x.flat) rfl (hown1.alloc _) Ay ny cy y.flat rfl (unhide HY).2.2.2 (SB _ (hC1.alloc hC1.size _)) hnb (le_alloc hC1.size) ?_; intro v2 v2w hown2 hgrow2 hat2; have hC2 := (hC1.alloc hC1.size _).grown hgrow2 (le_alloc hC1.size) (own_block hown1); have hP2 := box_keep (heap_alloc_new v1w _) hgrow2 hn1)
            | (refine step_append_parts_at rfl (.tmp 102) (.tmp 104) rfl w1.heap.size (v2w.heap.size + 1) v2 (0 + nx + ny) ([] ++ x.flat ++ y.flat) rfl (hown2.alloc _) (some ⟨v2w.heap.size, 0, none⟩) 1 1 [(6, 0)] rfl nomA (PS.one _ _ _ _ _ (Nat.lt_succ_self _)) hnp (le_alloc hC2.size) ?_; intro v3 v3w hown3 hgrow3 hat3; have hC3 := (hC2.alloc hC2.size _).grown hgrow3 (le_alloc hC2.size) (own_block hown2))
            | (refine step_append_parts_at rfl (.tmp 102) (.tmp 104) rfl w1.heap.size v2w.heap.size v2 (0 + nx + ny) ([] ++ x.flat ++ y.flat) rfl hown2 (some ⟨v1w.heap.size, 0, none⟩) 1 1 [(6, 0)] rfl nomA (PS_box hP2) hnp hC2.size ?_; intro v3 v3w hown3 hgrow3 hat3; have hC3 := hC2.grown hgrow3 hC2.size (own_block hown2))
            | (refine step_append_parts_at rfl (.tmp 102) (.tmp 104) rfl w1.heap.size v2w.heap.size v2 (0 + nx + ny) ([] ++ x.flat ++ y.flat) rfl hown2 (some ⟨w1.heap.size + 1, 0, none⟩) 1 1 [(6, 0)] rfl nomA (PS_box (box_keep hP1 hgrow2 hne1)) hnp hC2.size ?_; intro v3 v3w hown3 hgrow3 hat3; have hC3 := hC2.grown hgrow3 hC2.size (own_block hown2))
            | (refine step_append_parts_at rfl (.tmp 102) (.tmp 104) rfl w1.heap.size v2w.heap.size v2 (0 + nx + ny) ([] ++ x.flat ++ y.flat) rfl hown2 (some ⟨w1.heap.size, 0, none⟩) 1 1 [(6, 0)] rfl nomA (PS_box (box_keep hP1 hgrow2 hne1)) hnp hC2.size ?_; intro v3 v3w hown3 hgrow3 hat3; have hC3 := hC2.grown hgrow3 hC2.size (own_block hown2)))
        all_goals
          go_wp2
          go_ret
          exact ret_eq (by rw [Ex.sBoth_3 Kx1.out Ky1.out (of_decide_eq_false KQ.out)]; simp [Ex.flat]) ((mk_end (v3 := v3) (ea := x.flat) (eb := y.flat) (na := nx) (nb := ny) hbW hown3 hC3).ret (by simp; have h7 := (unhide HX).1.1; have h8 := (unhide HY).1.1; omega))
      · have KQ := Lib.hid hKQ
        clear hKQ
        go_enter Try.func85, Try.ntmps85
        go_wp2_with fail
        generalize hWe : ((w.alloc (pbox 6 0)).alloc (pbox 1 0)).alloc (pbox 2 0) = W at *
        clear hWe
        have hbW := hbW0
        refine (l5Is_any x _ _ _ _ 1 (unhide HX).1 (by omega)).mono ?_
        rintro r w' ⟨rfl, rfl⟩
        rw [Kx1.out]
        go_wp2_with fail
        refine (l5Is_any y _ _ _ _ 1 (unhide HY).1 (by omega)).mono ?_
        rintro r w' ⟨rfl, rfl⟩
        rw [Ky1.out]
        go_wp2_with fail
        refine (l5Same_any _ _ _ _ _ _ _ x.flat y.flat (unhide HX).1 (unhide HY).1 (by omega) (by omega)).mono ?_
        rintro r w1 ⟨rfl, hb⟩
        rw [KQ.out]
        go_wp2
        go_ret
        rw [Ex.sBoth_2 Kx1.out Ky1.out (of_decide_eq_true KQ.out)]
        exact RetP.shut ((unhide HX).up hb) (hbW.trans (hb.mono hbW.size))
    · have Ky1 := Lib.hid hKy1
      clear hKy1
      go_enter Try.func85, Try.ntmps85
      go_wp2_with fail
      generalize hWe : ((w.alloc (pbox 6 0)).alloc (pbox 1 0)).alloc (pbox 2 0) = W at *
      clear hWe
      have hbW := hbW0
      refine (l5Is_any x _ _ _ _ 1 (unhide HX).1 (by omega)).mono ?_
      rintro r w' ⟨rfl, rfl⟩
      rw [Kx1.out]
      go_wp2_with fail
      refine (l5Is_any y _ _ _ _ 1 (unhide HY).1 (by omega)).mono ?_
      rintro r w' ⟨rfl, rfl⟩
      rw [Ky1.out]
      go_wp2
      go_ret
      rw [Ex.sBoth_1 (.inr Ky1.out)]
      exact RetP.shut (SL_box (unhide HBN)) hbW
  · have Kx1 := Lib.hid hKx1
    clear hKx1
    go_enter Try.func85, Try.ntmps85
    go_wp2_with fail
    generalize hWe : ((w.alloc (pbox 6 0)).alloc (pbox 1 0)).alloc (pbox 2 0) = W at *
    clear hWe
    have hbW := hbW0
    refine (l5Is_any x _ _ _ _ 1 (unhide HX).1 (by omega)).mono ?_
    rintro r w' ⟨rfl, rfl⟩
    rw [Kx1.out]
    go_wp2
    go_ret
    rw [Ex.sBoth_1 (.inl Kx1.out)]
    exact RetP.shut (SL_box (unhide HBN)) hbW
end Go.Proofs.Ytadibjjjdbglaaa

