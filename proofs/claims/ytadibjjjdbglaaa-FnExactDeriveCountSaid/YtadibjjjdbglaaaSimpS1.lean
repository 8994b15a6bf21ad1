/-
  Simplified operations with one operand: the reference's walk.
-/
import Derived.Test.YtadibjjjdbglaaaSimpS
namespace Go.Proofs.Ytadibjjjdbglaaa
open Go.RowKit
set_option linter.unusedVariables false
set_option maxRecDepth 100000

theorem kind_ne {k K j : Int} (h : k = K) (hK : (K == j) = false) : ¬ k = j := by subst h; simpa using hK
theorem kind_eq {k K j : Int} (h : k = K) (hK : (K == j) = true) : k = j := by subst h; simpa using hK
set_option maxHeartbeats 8000000 in
theorem l5Make_7 (x : Ex) (hg : x.good) (w : World) (Ax Ay : Option Addr) (nx cx cy : Nat) (hx : SL w w.heap.size Ax nx cx x.flat) (hy : SL w w.heap.size Ay 0 cy []) (n1 : nx ≤ 100000) :
    Calls Try.prog 85 #[part 7 0, .slice Ax nx cx, .slice Ay 0 cy] w (RetP w (Ex.sNot x).flat) := by
  have hbox := heap_alloc_new w (pbox 7 0)
  have hbW0 : Below w.heap.size w (((w.alloc (pbox 7 0)).alloc (pbox 1 0)).alloc (pbox 2 0)) := (((Below.refl _ _).alloc (Nat.le_refl _) _).alloc (by simp) _).alloc (by simp; omega) _
  have hbx0 : (((w.alloc (pbox 7 0)).alloc (pbox 1 0)).alloc (pbox 2 0)).heap[w.heap.size]? = some (pbox 7 0) := (Below.heap_alloc _ _ _ (by simp; omega)).trans ((Below.heap_alloc _ _ _ (by simp)).trans hbox)
  have hbn0 : (((w.alloc (pbox 7 0)).alloc (pbox 1 0)).alloc (pbox 2 0)).heap[w.heap.size + 1 + 1]? = some (pbox 2 0) := by have := heap_alloc_new ((w.alloc (pbox 7 0)).alloc (pbox 1 0)) (pbox 2 0); rwa [World.size_alloc, World.size_alloc] at this
  have HX := hide (hx.up hbW0)
  have HY := hide (hy.up hbW0)
  have HBX := hide hbx0
  have HBN := hide hbn0
  obtain ⟨b, off, m, hAx, hbB, hnm, hm, hk, hl⟩ := hx.1.last
  subst hAx
  obtain ⟨K, hK⟩ : ∃ K, x.kind = K := ⟨_, rfl⟩
  rw [hK] at hk
  have hk0 := (hbW0.cell (p := ⟨b, off + m * 2, none⟩) hbB).trans hk
  have HKK := Lib.hid hK
  have nn1 : 1 ≤ nx := by omega
  clear hx hy hbox hbx0 hbn0 hnm hK hl
  rcases hKE : (K == 7)
  · have KE := Lib.hid hKE
    go_enter Try.func85, Try.ntmps85
    go_wp2
    generalize hWe : ((w.alloc (pbox 7 0)).alloc (pbox 1 0)).alloc (pbox 2 0) = W at *
    clear hWe
    have hbW := hbW0
    have hS : ∀ W', Below W.heap.size W W' → W'.cell? ⟨w.heap.size, 0, none⟩ = some (.int .i64 7) ∧ W'.cell? ⟨w.heap.size, 1, none⟩ = some (.int .i64 0) := fun W' h => box_cells (box_below (unhide HBX) h)
    have SA : ∀ W', Below W.heap.size W W' → PS W' W'.heap.size (some ⟨b, off, none⟩) nx x.flat := fun W' h => (unhide HX).1.up h
    have SB : ∀ W', Below W.heap.size W W' → PS W' W'.heap.size Ay 0 [] := fun W' h => PS.nil
    have hna : 0 + nx ≤ 1000000000 := by omega
    have hnb : 0 + nx + 0 ≤ 1000000000 := by omega
    have hnp : 0 + nx + 0 + 1 ≤ 1000000000 := by omega
    have E1 : Below W.heap.size W (W.alloc (.cells #[] 45)).drew := ((Below.refl _ _).alloc (Nat.le_refl _) _).drew
    have E2 : Below W.heap.size W ((W.alloc (.cells #[] 45)).alloc (pbox 7 0)).drew := (((Below.refl _ _).alloc (Nat.le_refl _) _).alloc (le_alloc (Nat.le_refl _)) _).drew
    have E3 : Below W.heap.size W ((W.alloc (pbox 7 0)).alloc (.cells #[] 45)).drew := (((Below.refl _ _).alloc (Nat.le_refl _) _).alloc (le_alloc (Nat.le_refl _)) _).drew
    have OE1 : (W.alloc (.cells #[] 45)).drew.ownsRow W.heap.size 45 2 (.slice (some ⟨W.heap.size, 0, none⟩) 0 0) 0 (flatV []) := (own_empty W _ _ (Nat.le_refl _)).drew
    have OE2 : ((W.alloc (.cells #[] 45)).alloc (pbox 7 0)).drew.ownsRow W.heap.size 45 2 (.slice (some ⟨W.heap.size, 0, none⟩) 0 0) 0 (flatV []) := ((own_empty W _ _ (Nat.le_refl _)).alloc _).drew
    have OE3 : ((W.alloc (pbox 7 0)).alloc (.cells #[] 45)).drew.ownsRow W.heap.size 45 2 (.slice (some ⟨W.heap.size + 1, 0, none⟩) 0 0) 0 (flatV []) := own_empty3 W _ _
    have PB2 := heap_two W (.cells #[] 45) (pbox 7 0)
    have PB3 := heap_first W (pbox 7 0) (.cells #[] 45)
    obtain ⟨hW0, hW1⟩ := hS W (Below.refl _ _)
    go_region_held3 (fun w' => w'.cell? ⟨w.heap.size, 0, none⟩ = some (.int .i64 7) ∧ w'.cell? ⟨w.heap.size, 1, none⟩ = some (.int .i64 0))
      (first
        | (refine hS _ ?_; exact (Below.refl _ _).drew)
        | (refine hS _ ?_; exact ((Below.refl _ _).alloc (Nat.le_refl _) _).drew)
        | (refine hS _ ?_; exact (((Below.refl _ _).alloc (Nat.le_refl _) _).alloc (le_alloc (Nat.le_refl _)) _).drew)
        | (refine hS _ ?_; exact hC1)
        | (refine hS _ ?_; exact hC1.alloc hC1.size _)
        | (refine hS _ ?_; exact hC2)
        | (refine hS _ ?_; exact hC2.alloc hC2.size _)
        | (refine hS _ ?_; exact hC3))
      (first
        | (refine step_append_parts_at rfl (.tmp 98) (.tmp 99) rfl W.heap.size _ (.slice (some ⟨W.heap.size, 0, none⟩) 0 0) 0 [] rfl OE1 (some ⟨b, off, none⟩) nx cx x.flat rfl (unhide HX).2.2.2 (SA _ E1) hna E1.size ?_; intro v1 w1 hown1 hgrow1 hat1; have hC1 := E1.grown hgrow1 E1.size (own_block OE1); have hn1 := own_new hown1)
        | (refine step_append_parts_at rfl (.tmp 98) (.tmp 99) rfl W.heap.size _ (.slice (some ⟨W.heap.size, 0, none⟩) 0 0) 0 [] rfl OE2 (some ⟨b, off, none⟩) nx cx x.flat rfl (unhide HX).2.2.2 (SA _ E2) hna E2.size ?_; intro v1 w1 hown1 hgrow1 hat1; have hC1 := E2.grown hgrow1 E2.size (own_block OE2); have hP1 := box_keep PB2 hgrow1 (ne_own1 _); have hne1 := ne_next (ne_own1 _) hat1 (box_lt PB2))
        | (refine step_append_parts_at rfl (.tmp 98) (.tmp 99) rfl W.heap.size _ (.slice (some ⟨W.heap.size + 1, 0, none⟩) 0 0) 0 [] rfl OE3 (some ⟨b, off, none⟩) nx cx x.flat rfl (unhide HX).2.2.2 (SA _ E3) hna E3.size ?_; intro v1 w1 hown1 hgrow1 hat1; have hC1 := E3.grown hgrow1 E3.size (own_block OE3); have hP1 := box_keep PB3 hgrow1 (ne_own2 _); have hne1 := ne_next (ne_own2 _) hat1 (box_lt PB3))
        | (refine step_append_parts_at rfl (.tmp 100) (.tmp 101) rfl W.heap.size _ v1 (0 + nx) ([] ++ x.flat) rfl hown1 Ay 0 cy [] rfl (unhide HY).2.2.2 (SB _ hC1) hnb hC1.size ?_; intro v2 w2 hown2 hgrow2 hat2; have hC2 := hC1.grown hgrow2 hC1.size (own_block hown1))
        | (refine step_append_parts_at rfl (.tmp 100) (.tmp 101) rfl W.heap.size _ v1 (0 + nx) ([] ++ x.flat) rfl (hown1.alloc _) Ay 0 cy [] rfl (unhide HY).2.2.2 (SB _ (hC1.alloc hC1.size _)) hnb (le_alloc hC1.size) ?_; intro v2 w2 hown2 hgrow2 hat2; have hC2 := (hC1.alloc hC1.size _).grown hgrow2 (le_alloc hC1.size) (own_block hown1); have hP2 := box_keep (heap_alloc_new w1 _) hgrow2 hn1)
        | (refine step_append_parts_at rfl (.tmp 102) (.tmp 104) rfl W.heap.size (w2.heap.size + 1) v2 (0 + nx + 0) ([] ++ x.flat ++ []) rfl (hown2.alloc _) (some ⟨w2.heap.size, 0, none⟩) 1 1 [(7, 0)] rfl nomA (PS.one _ _ _ _ _ (Nat.lt_succ_self _)) hnp (le_alloc hC2.size) ?_; intro v3 w3 hown3 hgrow3 hat3; have hC3 := (hC2.alloc hC2.size _).grown hgrow3 (le_alloc hC2.size) (own_block hown2))
        | (refine step_append_parts_at rfl (.tmp 102) (.tmp 104) rfl W.heap.size w2.heap.size v2 (0 + nx + 0) ([] ++ x.flat ++ []) rfl hown2 (some ⟨w1.heap.size, 0, none⟩) 1 1 [(7, 0)] rfl nomA (PS_box hP2) hnp hC2.size ?_; intro v3 w3 hown3 hgrow3 hat3; have hC3 := hC2.grown hgrow3 hC2.size (own_block hown2))
        | (refine step_append_parts_at rfl (.tmp 102) (.tmp 104) rfl W.heap.size w2.heap.size v2 (0 + nx + 0) ([] ++ x.flat ++ []) rfl hown2 (some ⟨W.heap.size + 1, 0, none⟩) 1 1 [(7, 0)] rfl nomA (PS_box (box_keep hP1 hgrow2 hne1)) hnp hC2.size ?_; intro v3 w3 hown3 hgrow3 hat3; have hC3 := hC2.grown hgrow3 hC2.size (own_block hown2))
        | (refine step_append_parts_at rfl (.tmp 102) (.tmp 104) rfl W.heap.size w2.heap.size v2 (0 + nx + 0) ([] ++ x.flat ++ []) rfl hown2 (some ⟨W.heap.size, 0, none⟩) 1 1 [(7, 0)] rfl nomA (PS_box (box_keep hP1 hgrow2 hne1)) hnp hC2.size ?_; intro v3 w3 hown3 hgrow3 hat3; have hC3 := hC2.grown hgrow3 hC2.size (own_block hown2)))
    all_goals
      go_wp2
      go_ret
      exact ret_eq (by rw [Ex.sNot_2 (kind_ne HKK.out KE.out)]; simp [Ex.flat]) ((mk_end (v3 := v3) (ea := x.flat) (eb := []) (na := nx) (nb := 0) hbW hown3 hC3).ret (by simp; have h7 := (unhide HX).1.1; omega))
  · have KE := Lib.hid hKE
    have h7 := kind_eq HKK.out hKE
    obtain ⟨a, rfl⟩ := Ex.kind7 hg h7
    have hla := (unhide HX).1.len
    simp only [Ex.sz] at hla
    have hcc := (unhide HX).2.1
    have hcm := (unhide HX).2.2.1
    unfold maxLen at hcm
    have hma : m = a.sz := by omega
    subst hma
    have b1 : (a.sz : Int) ≤ (cx : Int) := by omega
    have HA := hide (SL.tree (PS.un (unhide HX).1) (by omega) (unhide HX).2.2.1)
    clear hla h7
    go_enter Try.func85, Try.ntmps85
    go_wp2
    go_ret
    rw [Ex.sNot_1 (kind_eq HKK.out KE.out)]
    exact RetP.shut (unhide HA) hbW0
set_option maxHeartbeats 8000000 in
theorem l5Make_8 (x : Ex) (hg : x.good) (w : World) (Ax Ay : Option Addr) (nx cx cy : Nat) (hx : SL w w.heap.size Ax nx cx x.flat) (hy : SL w w.heap.size Ay 0 cy []) (n1 : nx ≤ 100000) :
    Calls Try.prog 85 #[part 8 0, .slice Ax nx cx, .slice Ay 0 cy] w (RetP w (Ex.sStar x).flat) := by
  have hbox := heap_alloc_new w (pbox 8 0)
  have hbW0 : Below w.heap.size w (((w.alloc (pbox 8 0)).alloc (pbox 1 0)).alloc (pbox 2 0)) := (((Below.refl _ _).alloc (Nat.le_refl _) _).alloc (by simp) _).alloc (by simp; omega) _
  have hbx0 : (((w.alloc (pbox 8 0)).alloc (pbox 1 0)).alloc (pbox 2 0)).heap[w.heap.size]? = some (pbox 8 0) := (Below.heap_alloc _ _ _ (by simp; omega)).trans ((Below.heap_alloc _ _ _ (by simp)).trans hbox)
  have hbn0 : (((w.alloc (pbox 8 0)).alloc (pbox 1 0)).alloc (pbox 2 0)).heap[w.heap.size + 1 + 1]? = some (pbox 2 0) := by have := heap_alloc_new ((w.alloc (pbox 8 0)).alloc (pbox 1 0)) (pbox 2 0); rwa [World.size_alloc, World.size_alloc] at this
  have HX := hide (hx.up hbW0)
  have HY := hide (hy.up hbW0)
  have HBX := hide hbx0
  have HBN := hide hbn0
  obtain ⟨b, off, m, hAx, hbB, hnm, hm, hk, hl⟩ := hx.1.last
  subst hAx
  obtain ⟨K, hK⟩ : ∃ K, x.kind = K := ⟨_, rfl⟩
  rw [hK] at hk
  have hk0 := (hbW0.cell (p := ⟨b, off + m * 2, none⟩) hbB).trans hk
  have HKK := Lib.hid hK
  have nn1 : 1 ≤ nx := by omega
  clear hx hy hbox hbx0 hbn0 hnm hK hl
  rcases hKx1 : x.isK 1
  · have Kx1 := Lib.hid hKx1
    clear hKx1
    rcases hKx2 : x.isK 2
    · have Kx2 := Lib.hid hKx2
      clear hKx2
      rcases hKE8 : (K == 8)
      · have KE8 := Lib.hid hKE8
        clear hKE8
        have hKE8' := KE8.out
        go_enter Try.func85, Try.ntmps85
        go_wp2_with fail
        generalize hWe : ((w.alloc (pbox 8 0)).alloc (pbox 1 0)).alloc (pbox 2 0) = W at *
        clear hWe
        have hbW := hbW0
        refine (l5Is_any x _ _ _ _ 1 (unhide HX).1 (by omega)).mono ?_
        rintro r w' ⟨rfl, rfl⟩
        rw [Kx1.out]
        go_wp2_with fail
        refine (l5Is_any x _ _ _ _ 2 (unhide HX).1 (by omega)).mono ?_
        rintro r w' ⟨rfl, rfl⟩
        rw [Kx2.out]
        go_wp2
        clear hk0 hKE8'
        have hS : ∀ W', Below W.heap.size W W' → W'.cell? ⟨w.heap.size, 0, none⟩ = some (.int .i64 8) ∧ W'.cell? ⟨w.heap.size, 1, none⟩ = some (.int .i64 0) := fun W' h => box_cells (box_below (unhide HBX) h)
        have SA : ∀ W', Below W.heap.size W W' → PS W' W'.heap.size (some ⟨b, off, none⟩) nx x.flat := fun W' h => (unhide HX).1.up h
        have SB : ∀ W', Below W.heap.size W W' → PS W' W'.heap.size Ay 0 [] := fun W' h => PS.nil
        have hna : 0 + nx ≤ 1000000000 := by omega
        have hnb : 0 + nx + 0 ≤ 1000000000 := by omega
        have hnp : 0 + nx + 0 + 1 ≤ 1000000000 := by omega
        have E1 : Below W.heap.size W (W.alloc (.cells #[] 45)).drew := ((Below.refl _ _).alloc (Nat.le_refl _) _).drew
        have E2 : Below W.heap.size W ((W.alloc (.cells #[] 45)).alloc (pbox 8 0)).drew := (((Below.refl _ _).alloc (Nat.le_refl _) _).alloc (le_alloc (Nat.le_refl _)) _).drew
        have E3 : Below W.heap.size W ((W.alloc (pbox 8 0)).alloc (.cells #[] 45)).drew := (((Below.refl _ _).alloc (Nat.le_refl _) _).alloc (le_alloc (Nat.le_refl _)) _).drew
        have OE1 : (W.alloc (.cells #[] 45)).drew.ownsRow W.heap.size 45 2 (.slice (some ⟨W.heap.size, 0, none⟩) 0 0) 0 (flatV []) := (own_empty W _ _ (Nat.le_refl _)).drew
        have OE2 : ((W.alloc (.cells #[] 45)).alloc (pbox 8 0)).drew.ownsRow W.heap.size 45 2 (.slice (some ⟨W.heap.size, 0, none⟩) 0 0) 0 (flatV []) := ((own_empty W _ _ (Nat.le_refl _)).alloc _).drew
        have OE3 : ((W.alloc (pbox 8 0)).alloc (.cells #[] 45)).drew.ownsRow W.heap.size 45 2 (.slice (some ⟨W.heap.size + 1, 0, none⟩) 0 0) 0 (flatV []) := own_empty3 W _ _
        have PB2 := heap_two W (.cells #[] 45) (pbox 8 0)
        have PB3 := heap_first W (pbox 8 0) (.cells #[] 45)
        obtain ⟨hW0, hW1⟩ := hS W (Below.refl _ _)
        go_region_held3 (fun w' => w'.cell? ⟨w.heap.size, 0, none⟩ = some (.int .i64 8) ∧ w'.cell? ⟨w.heap.size, 1, none⟩ = some (.int .i64 0))
          (first
            | (refine hS _ ?_; exact (Below.refl _ _).drew)
            | (refine hS _ ?_; exact ((Below.refl _ _).alloc (Nat.le_refl _) _).drew)
            | (refine hS _ ?_; exact (((Below.refl _ _).alloc (Nat.le_refl _) _).alloc (le_alloc (Nat.le_refl _)) _).drew)
            | (refine hS _ ?_; exact hC1)
            | (refine hS _ ?_; exact hC1.alloc hC1.size _)
            | (refine hS _ ?_; exact hC2)
            | (refine hS _ ?_; exact hC2.alloc hC2.size _)
            | (refine hS _ ?_; exact hC3))
          (first
            | (refine step_append_parts_at rfl (.tmp 98) (.tmp 99) rfl W.heap.size _ (.slice (some ⟨W.heap.size, 0, none⟩) 0 0) 0 [] rfl OE1 (some ⟨b, off, none⟩) nx cx x.flat rfl (unhide HX).2.2.2 (SA _ E1) hna E1.size ?_; intro v1 w1 hown1 hgrow1 hat1; have hC1 := E1.grown hgrow1 E1.size (own_block OE1); have hn1 := own_new hown1)
            | (refine step_append_parts_at rfl (.tmp 98) (.tmp 99) rfl W.heap.size _ (.slice (some ⟨W.heap.size, 0, none⟩) 0 0) 0 [] rfl OE2 (some ⟨b, off, none⟩) nx cx x.flat rfl (unhide HX).2.2.2 (SA _ E2) hna E2.size ?_; intro v1 w1 hown1 hgrow1 hat1; have hC1 := E2.grown hgrow1 E2.size (own_block OE2); have hP1 := box_keep PB2 hgrow1 (ne_own1 _); have hne1 := ne_next (ne_own1 _) hat1 (box_lt PB2))
            | (refine step_append_parts_at rfl (.tmp 98) (.tmp 99) rfl W.heap.size _ (.slice (some ⟨W.heap.size + 1, 0, none⟩) 0 0) 0 [] rfl OE3 (some ⟨b, off, none⟩) nx cx x.flat rfl (unhide HX).2.2.2 (SA _ E3) hna E3.size ?_; intro v1 w1 hown1 hgrow1 hat1; have hC1 := E3.grown hgrow1 E3.size (own_block OE3); have hP1 := box_keep PB3 hgrow1 (ne_own2 _); have hne1 := ne_next (ne_own2 _) hat1 (box_lt PB3))
            | (refine step_append_parts_at rfl (.tmp 100) (.tmp 101) rfl W.heap.size _ v1 (0 + nx) ([] ++ x.flat) rfl hown1 Ay 0 cy [] rfl (unhide HY).2.2.2 (SB _ hC1) hnb hC1.size ?_; intro v2 w2 hown2 hgrow2 hat2; have hC2 := hC1.grown hgrow2 hC1.size (own_block hown1))
            | (refine step_append_parts_at rfl (.tmp 100) (.tmp 101) rfl W.heap.size _ v1 (0 + nx) ([] ++ x.flat) rfl (hown1.alloc _) Ay 0 cy [] rfl (unhide HY).2.2.2 (SB _ (hC1.alloc hC1.size _)) hnb (le_alloc hC1.size) ?_; intro v2 w2 hown2 hgrow2 hat2; have hC2 := (hC1.alloc hC1.size _).grown hgrow2 (le_alloc hC1.size) (own_block hown1); have hP2 := box_keep (heap_alloc_new w1 _) hgrow2 hn1)
            | (refine step_append_parts_at rfl (.tmp 102) (.tmp 104) rfl W.heap.size (w2.heap.size + 1) v2 (0 + nx + 0) ([] ++ x.flat ++ []) rfl (hown2.alloc _) (some ⟨w2.heap.size, 0, none⟩) 1 1 [(8, 0)] rfl nomA (PS.one _ _ _ _ _ (Nat.lt_succ_self _)) hnp (le_alloc hC2.size) ?_; intro v3 w3 hown3 hgrow3 hat3; have hC3 := (hC2.alloc hC2.size _).grown hgrow3 (le_alloc hC2.size) (own_block hown2))
            | (refine step_append_parts_at rfl (.tmp 102) (.tmp 104) rfl W.heap.size w2.heap.size v2 (0 + nx + 0) ([] ++ x.flat ++ []) rfl hown2 (some ⟨w1.heap.size, 0, none⟩) 1 1 [(8, 0)] rfl nomA (PS_box hP2) hnp hC2.size ?_; intro v3 w3 hown3 hgrow3 hat3; have hC3 := hC2.grown hgrow3 hC2.size (own_block hown2))
            | (refine step_append_parts_at rfl (.tmp 102) (.tmp 104) rfl W.heap.size w2.heap.size v2 (0 + nx + 0) ([] ++ x.flat ++ []) rfl hown2 (some ⟨W.heap.size + 1, 0, none⟩) 1 1 [(8, 0)] rfl nomA (PS_box (box_keep hP1 hgrow2 hne1)) hnp hC2.size ?_; intro v3 w3 hown3 hgrow3 hat3; have hC3 := hC2.grown hgrow3 hC2.size (own_block hown2))
            | (refine step_append_parts_at rfl (.tmp 102) (.tmp 104) rfl W.heap.size w2.heap.size v2 (0 + nx + 0) ([] ++ x.flat ++ []) rfl hown2 (some ⟨W.heap.size, 0, none⟩) 1 1 [(8, 0)] rfl nomA (PS_box (box_keep hP1 hgrow2 hne1)) hnp hC2.size ?_; intro v3 w3 hown3 hgrow3 hat3; have hC3 := hC2.grown hgrow3 hC2.size (own_block hown2)))
        all_goals
          go_wp2
          go_ret
          exact ret_eq (by rw [Ex.sStar_3 Kx1.out Kx2.out (kind_ne HKK.out KE8.out)]; simp [Ex.flat]) ((mk_end (v3 := v3) (ea := x.flat) (eb := []) (na := nx) (nb := 0) hbW hown3 hC3).ret (by simp; have h7 := (unhide HX).1.1; omega))
      · have KE8 := Lib.hid hKE8
        clear hKE8
        have hKE8' := KE8.out
        go_enter Try.func85, Try.ntmps85
        go_wp2_with fail
        generalize hWe : ((w.alloc (pbox 8 0)).alloc (pbox 1 0)).alloc (pbox 2 0) = W at *
        clear hWe
        have hbW := hbW0
        refine (l5Is_any x _ _ _ _ 1 (unhide HX).1 (by omega)).mono ?_
        rintro r w' ⟨rfl, rfl⟩
        rw [Kx1.out]
        go_wp2_with fail
        refine (l5Is_any x _ _ _ _ 2 (unhide HX).1 (by omega)).mono ?_
        rintro r w' ⟨rfl, rfl⟩
        rw [Kx2.out]
        go_wp2
        go_ret
        rw [Ex.sStar_2 Kx1.out Kx2.out (kind_eq HKK.out KE8.out)]
        exact RetP.shut (unhide HX) hbW
    · have Kx2 := Lib.hid hKx2
      clear hKx2
      go_enter Try.func85, Try.ntmps85
      go_wp2_with fail
      generalize hWe : ((w.alloc (pbox 8 0)).alloc (pbox 1 0)).alloc (pbox 2 0) = W at *
      clear hWe
      have hbW := hbW0
      refine (l5Is_any x _ _ _ _ 1 (unhide HX).1 (by omega)).mono ?_
      rintro r w' ⟨rfl, rfl⟩
      rw [Kx1.out]
      go_wp2_with fail
      refine (l5Is_any x _ _ _ _ 2 (unhide HX).1 (by omega)).mono ?_
      rintro r w' ⟨rfl, rfl⟩
      rw [Kx2.out]
      go_wp2
      go_ret
      rw [Ex.sStar_1 (.inr Kx2.out)]
      exact RetP.shut (SL_box (unhide HBN)) hbW
  · have Kx1 := Lib.hid hKx1
    clear hKx1
    go_enter Try.func85, Try.ntmps85
    go_wp2_with fail
    generalize hWe : ((w.alloc (pbox 8 0)).alloc (pbox 1 0)).alloc (pbox 2 0) = W at *
    clear hWe
    have hbW := hbW0
    refine (l5Is_any x _ _ _ _ 1 (unhide HX).1 (by omega)).mono ?_
    rintro r w' ⟨rfl, rfl⟩
    rw [Kx1.out]
    go_wp2
    go_ret
    rw [Ex.sStar_1 (.inl Kx1.out)]
    exact RetP.shut (SL_box (unhide HBN)) hbW
end Go.Proofs.Ytadibjjjdbglaaa

