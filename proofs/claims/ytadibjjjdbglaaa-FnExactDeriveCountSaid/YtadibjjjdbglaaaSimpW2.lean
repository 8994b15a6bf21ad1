/-
  Simplified operations: the program's walks.
-/
import Derived.Test.YtadibjjjdbglaaaSimpW
namespace Go.Proofs.Ytadibjjjdbglaaa
open Go.RowKit
set_option linter.unusedVariables false
set_option maxRecDepth 100000

namespace Ex
theorem sJoin_1 {x y : Ex} (h : x.isK 1 = true ∨ y.isK 1 = true) : (sJoin x y).flat = [(1, 0)] := by rw [sJoin, if_pos h]; rfl
theorem sJoin_2 {x y : Ex} (h1 : x.isK 1 = false) (h2 : y.isK 1 = false) (h3 : x.isK 2 = true) : (sJoin x y).flat = y.flat := by simp [sJoin, h1, h2, h3]
theorem sJoin_3 {x y : Ex} (h1 : x.isK 1 = false) (h2 : y.isK 1 = false) (h3 : x.isK 2 = false) (h4 : y.isK 2 = true) : (sJoin x y).flat = x.flat := by simp [sJoin, h1, h2, h3, h4]
theorem sJoin_4 {x y : Ex} (h1 : x.isK 1 = false) (h2 : y.isK 1 = false) (h3 : x.isK 2 = false) (h4 : y.isK 2 = false) : (sJoin x y).flat = (bin 4 x y).flat := by simp [sJoin, h1, h2, h3, h4]
theorem sEither_1 {x y : Ex} (h : x.isK 1 = true ∨ x.flat = y.flat) : (sEither x y).flat = y.flat := by rw [sEither, if_pos h]
theorem sEither_2 {x y : Ex} (h1 : x.isK 1 = false) (h2 : ¬ x.flat = y.flat) (h3 : y.isK 1 = true) : (sEither x y).flat = x.flat := by simp [sEither, h1, h2, h3]
theorem sEither_3 {x y : Ex} (h1 : x.isK 1 = false) (h2 : ¬ x.flat = y.flat) (h3 : y.isK 1 = false) : (sEither x y).flat = (bin 5 x y).flat := by simp [sEither, h1, h2, h3]
theorem sBoth_1 {x y : Ex} (h : x.isK 1 = true ∨ y.isK 1 = true) : (sBoth x y).flat = [(1, 0)] := by rw [sBoth, if_pos h]; rfl
theorem sBoth_2 {x y : Ex} (h1 : x.isK 1 = false) (h2 : y.isK 1 = false) (h3 : x.flat = y.flat) : (sBoth x y).flat = x.flat := by simp [sBoth, h1, h2, h3]
theorem sBoth_3 {x y : Ex} (h1 : x.isK 1 = false) (h2 : y.isK 1 = false) (h3 : ¬ x.flat = y.flat) : (sBoth x y).flat = (bin 6 x y).flat := by simp [sBoth, h1, h2, h3]
theorem sStar_1 {x : Ex} (h : x.isK 1 = true ∨ x.isK 2 = true) : (sStar x).flat = [(2, 0)] := by rw [sStar, if_pos h]; rfl
theorem sStar_2 {x : Ex} (h1 : x.isK 1 = false) (h2 : x.isK 2 = false) (h3 : x.kind = 8) : (sStar x).flat = x.flat := by simp [sStar, h1, h2, h3]
theorem sStar_3 {x : Ex} (h1 : x.isK 1 = false) (h2 : x.isK 2 = false) (h3 : ¬ x.kind = 8) : (sStar x).flat = (un 8 x).flat := by simp [sStar, h1, h2, h3]
theorem sNot_1 {x : Ex} (h : x.kind = 7) : (sNot x).flat = x.child.flat := by rw [sNot, if_pos h]
theorem sNot_2 {x : Ex} (h : ¬ x.kind = 7) : (sNot x).flat = (un 7 x).flat := by rw [sNot, if_neg h]
theorem flat_bin {Ax Ay : Option Addr} {nx cx ny cy : Nat} {x y : Ex} {k : Int} : (bin k x y).flat = cats [(Ax, nx, cx, x.flat), (Ay, ny, cy, y.flat)] ++ [(k, 0)] := by simp [flat, cats]
theorem flat_un {Ax : Option Addr} {nx cx : Nat} {x : Ex} {k : Int} : (un k x).flat = cats [(Ax, nx, cx, x.flat)] ++ [(k, 0)] := by simp [flat, cats]
end Ex
theorem RowS.one {W : World} {g : Nat} {A1 : Option Addr} {N1 c1 : Nat} {e1 : List Pt} {t : TypeId} {fr : Nat × Nat} (hrow : W.heap[g]? = some (.cells #[.slice A1 N1 c1] t fr)) (h1 : SL W W.heap.size A1 N1 c1 e1) :
    ∀ W', Below W.heap.size W W' → RowS W' W'.heap.size (some ⟨g, 0, none⟩) 1 [(A1, N1, c1, e1)] := fun W' hW' =>
  ⟨rfl, fun _ => ⟨g, 0, rfl, by have := hW'.size; have := (Array.getElem?_eq_some_iff.1 hrow).1; omega, fun i A n c e hi => by
    have hlt := (List.getElem?_eq_some_iff.1 hi).1
    have hr := (hW'.block g (Array.getElem?_eq_some_iff.1 hrow).1).trans hrow
    have : i = 0 := by simp at hlt; omega
    subst this
    simp only [List.getElem?_cons_zero, Option.some.injEq, Prod.mk.injEq] at hi
    obtain ⟨rfl, rfl, rfl, rfl⟩ := hi
    exact ⟨by rw [cell_of_row W' _ _ _ _ _ hr]; rfl, h1.up hW'⟩⟩⟩
set_option maxHeartbeats 2000000 in
theorem joined_any (x y : Ex) (w : World) (Ax Ay : Option Addr) (nx cx ny cy : Nat) (hx : SL w w.heap.size Ax nx cx x.flat) (hy : SL w w.heap.size Ay ny cy y.flat) (n1 : nx ≤ 100000) (n2 : ny ≤ 100000) :
    Calls Try.prog 96 #[.slice Ax nx cx, .slice Ay ny cy] w (RetP w (Ex.sJoin x y).flat) := by
  have Hx := hide hx
  have Hy := hide hy
  have HCT := Lib.hid (show (cats [(Ax, nx, cx, x.flat), (Ay, ny, cy, y.flat)]).length = nx + ny by simp [cats]; rw [hx.1.1, hy.1.1])
  clear hx hy
  rcases hKx1 : x.isK 1
  · have Kx1 := Lib.hid hKx1
    clear hKx1
    rcases hKy1 : y.isK 1
    · have Ky1 := Lib.hid hKy1
      clear hKy1
      rcases hKx2 : x.isK 2
      · have Kx2 := Lib.hid hKx2
        clear hKx2
        rcases hKy2 : y.isK 2
        · have Ky2 := Lib.hid hKy2
          clear hKy2
          go_enter Try.func96, Try.ntmps96
          go_wp2_with fail
          refine (isKind_any x _ _ _ _ 1 (unhide Hx).1 (by omega)).mono ?_
          rintro r w' ⟨rfl, rfl⟩
          rw [Kx1.out]
          go_wp2_with fail
          refine (isKind_any y _ _ _ _ 1 (unhide Hy).1 (by omega)).mono ?_
          rintro r w' ⟨rfl, rfl⟩
          rw [Ky1.out]
          go_wp2_with fail
          refine (isKind_any x _ _ _ _ 2 (unhide Hx).1 (by omega)).mono ?_
          rintro r w' ⟨rfl, rfl⟩
          rw [Kx2.out]
          go_wp2_with fail
          refine (isKind_any y _ _ _ _ 2 (unhide Hy).1 (by omega)).mono ?_
          rintro r w' ⟨rfl, rfl⟩
          rw [Ky2.out]
          go_wp2_with fail
          have hrow := heap_alloc_new w (.cells #[.slice Ax nx cx, .slice Ay ny cy] 23)
          refine (operation_any _ _ 2 2 [(Ax, nx, cx, x.flat), (Ay, ny, cy, y.flat)] 4 (RowS.two hrow ((unhide Hx).up ((Below.refl _ _).alloc (Nat.le_refl _) _)) ((unhide Hy).up ((Below.refl _ _).alloc (Nat.le_refl _) _)) _ (Below.refl _ _)) (by omega) (by rw [HCT.out]; omega)).mono ?_
          intro r w9 hd
          obtain ⟨X, hX⟩ : ∃ X, cats [(Ax, nx, cx, x.flat), (Ay, ny, cy, y.flat)] ++ [(4, 0)] = X := ⟨_, rfl⟩
          have hXl : X.length ≤ 1000000 := by rw [← hX, List.length_append, HCT.out]; simp; omega
          rw [hX] at hd
          have HX := Lib.hid hX
          clear hX
          obtain ⟨A9, c9, rfl, h9, -, hb9⟩ := hd.sl (by omega)
          go_wp2
          go_ret
          rw [Ex.sJoin_4 Kx1.out Ky1.out Kx2.out Ky2.out]
          rw [Ex.flat_bin (Ax := Ax) (Ay := Ay) (nx := nx) (cx := cx) (ny := ny) (cy := cy), HX.out]
          exact RetP.behind ((Below.refl _ _).alloc (Nat.le_refl _) _) ⟨A9, c9, rfl, h9, hb9⟩
        · have Ky2 := Lib.hid hKy2
          clear hKy2
          go_enter Try.func96, Try.ntmps96
          go_wp2_with fail
          refine (isKind_any x _ _ _ _ 1 (unhide Hx).1 (by omega)).mono ?_
          rintro r w' ⟨rfl, rfl⟩
          rw [Kx1.out]
          go_wp2_with fail
          refine (isKind_any y _ _ _ _ 1 (unhide Hy).1 (by omega)).mono ?_
          rintro r w' ⟨rfl, rfl⟩
          rw [Ky1.out]
          go_wp2_with fail
          refine (isKind_any x _ _ _ _ 2 (unhide Hx).1 (by omega)).mono ?_
          rintro r w' ⟨rfl, rfl⟩
          rw [Kx2.out]
          go_wp2_with fail
          refine (isKind_any y _ _ _ _ 2 (unhide Hy).1 (by omega)).mono ?_
          rintro r w' ⟨rfl, rfl⟩
          rw [Ky2.out]
          go_wp2
          go_ret
          rw [Ex.sJoin_3 Kx1.out Ky1.out Kx2.out Ky2.out]
          exact RetP.of (unhide Hx) (Below.refl _ _)
      · have Kx2 := Lib.hid hKx2
        clear hKx2
        go_enter Try.func96, Try.ntmps96
        go_wp2_with fail
        refine (isKind_any x _ _ _ _ 1 (unhide Hx).1 (by omega)).mono ?_
        rintro r w' ⟨rfl, rfl⟩
        rw [Kx1.out]
        go_wp2_with fail
        refine (isKind_any y _ _ _ _ 1 (unhide Hy).1 (by omega)).mono ?_
        rintro r w' ⟨rfl, rfl⟩
        rw [Ky1.out]
        go_wp2_with fail
        refine (isKind_any x _ _ _ _ 2 (unhide Hx).1 (by omega)).mono ?_
        rintro r w' ⟨rfl, rfl⟩
        rw [Kx2.out]
        go_wp2
        go_ret
        rw [Ex.sJoin_2 Kx1.out Ky1.out Kx2.out]
        exact RetP.of (unhide Hy) (Below.refl _ _)
    · have Ky1 := Lib.hid hKy1
      clear hKy1
      go_enter Try.func96, Try.ntmps96
      go_wp2_with fail
      refine (isKind_any x _ _ _ _ 1 (unhide Hx).1 (by omega)).mono ?_
      rintro r w' ⟨rfl, rfl⟩
      rw [Kx1.out]
      go_wp2_with fail
      refine (isKind_any y _ _ _ _ 1 (unhide Hy).1 (by omega)).mono ?_
      rintro r w' ⟨rfl, rfl⟩
      rw [Ky1.out]
      go_wp2_with fail
      refine (leaf_any _ 1).mono ?_
      intro r w9 hd
      obtain ⟨A9, c9, rfl, h9, -, hb9⟩ := hd.sl (by simp)
      go_wp2
      go_ret
      rw [Ex.sJoin_1 (.inr Ky1.out)]
      exact ⟨A9, c9, rfl, h9, hb9⟩
  · have Kx1 := Lib.hid hKx1
    clear hKx1
    go_enter Try.func96, Try.ntmps96
    go_wp2_with fail
    refine (isKind_any x _ _ _ _ 1 (unhide Hx).1 (by omega)).mono ?_
    rintro r w' ⟨rfl, rfl⟩
    rw [Kx1.out]
    go_wp2_with fail
    refine (leaf_any _ 1).mono ?_
    intro r w9 hd
    obtain ⟨A9, c9, rfl, h9, -, hb9⟩ := hd.sl (by simp)
    go_wp2
    go_ret
    rw [Ex.sJoin_1 (.inl Kx1.out)]
    exact ⟨A9, c9, rfl, h9, hb9⟩
set_option maxHeartbeats 2000000 in
theorem either_any (x y : Ex) (w : World) (Ax Ay : Option Addr) (nx cx ny cy : Nat) (hx : SL w w.heap.size Ax nx cx x.flat) (hy : SL w w.heap.size Ay ny cy y.flat) (n1 : nx ≤ 100000) (n2 : ny ≤ 100000) :
    Calls Try.prog 98 #[.slice Ax nx cx, .slice Ay ny cy] w (RetP w (Ex.sEither x y).flat) := by
  have Hx := hide hx
  have Hy := hide hy
  have HCT := Lib.hid (show (cats [(Ax, nx, cx, x.flat), (Ay, ny, cy, y.flat)]).length = nx + ny by simp [cats]; rw [hx.1.1, hy.1.1])
  clear hx hy
  rcases hKx1 : x.isK 1
  · have Kx1 := Lib.hid hKx1
    clear hKx1
    rcases hKQ : decide (x.flat = y.flat)
    · have KQ := Lib.hid hKQ
      clear hKQ
      rcases hKy1 : y.isK 1
      · have Ky1 := Lib.hid hKy1
        clear hKy1
        go_enter Try.func98, Try.ntmps98
        go_wp2_with fail
        refine (isKind_any x _ _ _ _ 1 (unhide Hx).1 (by omega)).mono ?_
        rintro r w' ⟨rfl, rfl⟩
        rw [Kx1.out]
        go_wp2_with fail
        refine (equal_any _ _ _ _ _ _ _ x.flat y.flat (unhide Hx).1 (unhide Hy).1 (by omega) (by omega)).mono ?_
        rintro r w1 ⟨rfl, hb⟩
        rw [KQ.out]
        go_wp2_with fail
        refine (isKind_any y _ _ _ _ 1 ((unhide Hy).up hb).1 (by omega)).mono ?_
        rintro r w' ⟨rfl, rfl⟩
        rw [Ky1.out]
        go_wp2_with fail
        have hrow := heap_alloc_new w1 (.cells #[.slice Ax nx cx, .slice Ay ny cy] 23)
        refine (operation_any _ _ 2 2 [(Ax, nx, cx, x.flat), (Ay, ny, cy, y.flat)] 5 (RowS.two hrow ((unhide Hx).up (hb.alloc hb.size _)) ((unhide Hy).up (hb.alloc hb.size _)) _ (Below.refl _ _)) (by omega) (by rw [HCT.out]; omega)).mono ?_
        intro r w9 hd
        obtain ⟨X, hX⟩ : ∃ X, cats [(Ax, nx, cx, x.flat), (Ay, ny, cy, y.flat)] ++ [(5, 0)] = X := ⟨_, rfl⟩
        have hXl : X.length ≤ 1000000 := by rw [← hX, List.length_append, HCT.out]; simp; omega
        rw [hX] at hd
        have HX := Lib.hid hX
        clear hX
        obtain ⟨A9, c9, rfl, h9, -, hb9⟩ := hd.sl (by omega)
        go_wp2
        go_ret
        rw [Ex.sEither_3 Kx1.out (of_decide_eq_false KQ.out) Ky1.out]
        rw [Ex.flat_bin (Ax := Ax) (Ay := Ay) (nx := nx) (cx := cx) (ny := ny) (cy := cy), HX.out]
        exact RetP.behind (hb.alloc hb.size _) ⟨A9, c9, rfl, h9, hb9⟩
      · have Ky1 := Lib.hid hKy1
        clear hKy1
        go_enter Try.func98, Try.ntmps98
        go_wp2_with fail
        refine (isKind_any x _ _ _ _ 1 (unhide Hx).1 (by omega)).mono ?_
        rintro r w' ⟨rfl, rfl⟩
        rw [Kx1.out]
        go_wp2_with fail
        refine (equal_any _ _ _ _ _ _ _ x.flat y.flat (unhide Hx).1 (unhide Hy).1 (by omega) (by omega)).mono ?_
        rintro r w1 ⟨rfl, hb⟩
        rw [KQ.out]
        go_wp2_with fail
        refine (isKind_any y _ _ _ _ 1 ((unhide Hy).up hb).1 (by omega)).mono ?_
        rintro r w' ⟨rfl, rfl⟩
        rw [Ky1.out]
        go_wp2
        go_ret
        rw [Ex.sEither_2 Kx1.out (of_decide_eq_false KQ.out) Ky1.out]
        exact RetP.of (unhide Hx) hb
    · have KQ := Lib.hid hKQ
      clear hKQ
      go_enter Try.func98, Try.ntmps98
      go_wp2_with fail
      refine (isKind_any x _ _ _ _ 1 (unhide Hx).1 (by omega)).mono ?_
      rintro r w' ⟨rfl, rfl⟩
      rw [Kx1.out]
      go_wp2_with fail
      refine (equal_any _ _ _ _ _ _ _ x.flat y.flat (unhide Hx).1 (unhide Hy).1 (by omega) (by omega)).mono ?_
      rintro r w1 ⟨rfl, hb⟩
      rw [KQ.out]
      go_wp2
      go_ret
      rw [Ex.sEither_1 (.inr (of_decide_eq_true KQ.out))]
      exact RetP.of (unhide Hy) hb
  · have Kx1 := Lib.hid hKx1
    clear hKx1
    go_enter Try.func98, Try.ntmps98
    go_wp2_with fail
    refine (isKind_any x _ _ _ _ 1 (unhide Hx).1 (by omega)).mono ?_
    rintro r w' ⟨rfl, rfl⟩
    rw [Kx1.out]
    go_wp2
    go_ret
    rw [Ex.sEither_1 (.inl Kx1.out)]
    exact RetP.of (unhide Hy) (Below.refl _ _)
set_option maxHeartbeats 2000000 in
theorem both_any (x y : Ex) (w : World) (Ax Ay : Option Addr) (nx cx ny cy : Nat) (hx : SL w w.heap.size Ax nx cx x.flat) (hy : SL w w.heap.size Ay ny cy y.flat) (n1 : nx ≤ 100000) (n2 : ny ≤ 100000) :
    Calls Try.prog 105 #[.slice Ax nx cx, .slice Ay ny cy] w (RetP w (Ex.sBoth x y).flat) := by
  have Hx := hide hx
  have Hy := hide hy
  have HCT := Lib.hid (show (cats [(Ax, nx, cx, x.flat), (Ay, ny, cy, y.flat)]).length = nx + ny by simp [cats]; rw [hx.1.1, hy.1.1])
  clear hx hy
  rcases hKx1 : x.isK 1
  · have Kx1 := Lib.hid hKx1
    clear hKx1
    rcases hKy1 : y.isK 1
    · have Ky1 := Lib.hid hKy1
      clear hKy1
      rcases hKQ : decide (x.flat = y.flat)
      · have KQ := Lib.hid hKQ
        clear hKQ
        go_enter Try.func105, Try.ntmps105
        go_wp2_with fail
        refine (isKind_any x _ _ _ _ 1 (unhide Hx).1 (by omega)).mono ?_
        rintro r w' ⟨rfl, rfl⟩
        rw [Kx1.out]
        go_wp2_with fail
        refine (isKind_any y _ _ _ _ 1 (unhide Hy).1 (by omega)).mono ?_
        rintro r w' ⟨rfl, rfl⟩
        rw [Ky1.out]
        go_wp2_with fail
        refine (equal_any _ _ _ _ _ _ _ x.flat y.flat (unhide Hx).1 (unhide Hy).1 (by omega) (by omega)).mono ?_
        rintro r w1 ⟨rfl, hb⟩
        rw [KQ.out]
        go_wp2_with fail
        have hrow := heap_alloc_new w1 (.cells #[.slice Ax nx cx, .slice Ay ny cy] 23)
        refine (operation_any _ _ 2 2 [(Ax, nx, cx, x.flat), (Ay, ny, cy, y.flat)] 6 (RowS.two hrow ((unhide Hx).up (hb.alloc hb.size _)) ((unhide Hy).up (hb.alloc hb.size _)) _ (Below.refl _ _)) (by omega) (by rw [HCT.out]; omega)).mono ?_
        intro r w9 hd
        obtain ⟨X, hX⟩ : ∃ X, cats [(Ax, nx, cx, x.flat), (Ay, ny, cy, y.flat)] ++ [(6, 0)] = X := ⟨_, rfl⟩
        have hXl : X.length ≤ 1000000 := by rw [← hX, List.length_append, HCT.out]; simp; omega
        rw [hX] at hd
        have HX := Lib.hid hX
        clear hX
        obtain ⟨A9, c9, rfl, h9, -, hb9⟩ := hd.sl (by omega)
        go_wp2
        go_ret
        rw [Ex.sBoth_3 Kx1.out Ky1.out (of_decide_eq_false KQ.out)]
        rw [Ex.flat_bin (Ax := Ax) (Ay := Ay) (nx := nx) (cx := cx) (ny := ny) (cy := cy), HX.out]
        exact RetP.behind (hb.alloc hb.size _) ⟨A9, c9, rfl, h9, hb9⟩
      · have KQ := Lib.hid hKQ
        clear hKQ
        go_enter Try.func105, Try.ntmps105
        go_wp2_with fail
        refine (isKind_any x _ _ _ _ 1 (unhide Hx).1 (by omega)).mono ?_
        rintro r w' ⟨rfl, rfl⟩
        rw [Kx1.out]
        go_wp2_with fail
        refine (isKind_any y _ _ _ _ 1 (unhide Hy).1 (by omega)).mono ?_
        rintro r w' ⟨rfl, rfl⟩
        rw [Ky1.out]
        go_wp2_with fail
        refine (equal_any _ _ _ _ _ _ _ x.flat y.flat (unhide Hx).1 (unhide Hy).1 (by omega) (by omega)).mono ?_
        rintro r w1 ⟨rfl, hb⟩
        rw [KQ.out]
        go_wp2
        go_ret
        rw [Ex.sBoth_2 Kx1.out Ky1.out (of_decide_eq_true KQ.out)]
        exact RetP.of (unhide Hx) hb
    · have Ky1 := Lib.hid hKy1
      clear hKy1
      go_enter Try.func105, Try.ntmps105
      go_wp2_with fail
      refine (isKind_any x _ _ _ _ 1 (unhide Hx).1 (by omega)).mono ?_
      rintro r w' ⟨rfl, rfl⟩
      rw [Kx1.out]
      go_wp2_with fail
      refine (isKind_any y _ _ _ _ 1 (unhide Hy).1 (by omega)).mono ?_
      rintro r w' ⟨rfl, rfl⟩
      rw [Ky1.out]
      go_wp2_with fail
      refine (leaf_any _ 1).mono ?_
      intro r w9 hd
      obtain ⟨A9, c9, rfl, h9, -, hb9⟩ := hd.sl (by simp)
      go_wp2
      go_ret
      rw [Ex.sBoth_1 (.inr Ky1.out)]
      exact ⟨A9, c9, rfl, h9, hb9⟩
  · have Kx1 := Lib.hid hKx1
    clear hKx1
    go_enter Try.func105, Try.ntmps105
    go_wp2_with fail
    refine (isKind_any x _ _ _ _ 1 (unhide Hx).1 (by omega)).mono ?_
    rintro r w' ⟨rfl, rfl⟩
    rw [Kx1.out]
    go_wp2_with fail
    refine (leaf_any _ 1).mono ?_
    intro r w9 hd
    obtain ⟨A9, c9, rfl, h9, -, hb9⟩ := hd.sl (by simp)
    go_wp2
    go_ret
    rw [Ex.sBoth_1 (.inl Kx1.out)]
    exact ⟨A9, c9, rfl, h9, hb9⟩
set_option maxHeartbeats 2000000 in
theorem star_any (x : Ex) (hg : x.good) (w : World) (Ax : Option Addr) (nx cx : Nat) (hx : SL w w.heap.size Ax nx cx x.flat) (n1 : nx ≤ 100000) :
    Calls Try.prog 83 #[.slice Ax nx cx] w (RetP w (Ex.sStar x).flat) := by
  have Hx := hide hx
  have HCT := Lib.hid (show (cats [(Ax, nx, cx, x.flat)]).length = nx by simp [cats]; rw [hx.1.1])
  clear hx
  rcases hKx1 : x.isK 1
  · have Kx1 := Lib.hid hKx1
    clear hKx1
    rcases hKx2 : x.isK 2
    · have Kx2 := Lib.hid hKx2
      clear hKx2
      rcases hKE : decide (x.kind = 8)
      · have KE := Lib.hid hKE
        clear hKE
        go_enter Try.func83, Try.ntmps83
        go_wp2_with fail
        refine (isKind_any x _ _ _ _ 1 (unhide Hx).1 (by omega)).mono ?_
        rintro r w' ⟨rfl, rfl⟩
        rw [Kx1.out]
        go_wp2_with fail
        refine (isKind_any x _ _ _ _ 2 (unhide Hx).1 (by omega)).mono ?_
        rintro r w' ⟨rfl, rfl⟩
        rw [Kx2.out]
        go_wp2_with fail
        refine (ends_any x _ _ _ _ 8 (unhide Hx).1 (by omega)).mono ?_
        rintro r w' ⟨rfl, rfl⟩
        rw [KE.out]
        go_wp2_with fail
        have hrow := heap_alloc_new w (.cells #[.slice Ax nx cx] 23)
        refine (operation_any _ _ 1 1 [(Ax, nx, cx, x.flat)] 8 (RowS.one hrow ((unhide Hx).up ((Below.refl _ _).alloc (Nat.le_refl _) _)) _ (Below.refl _ _)) (by omega) (by rw [HCT.out]; omega)).mono ?_
        intro r w9 hd
        obtain ⟨X, hX⟩ : ∃ X, cats [(Ax, nx, cx, x.flat)] ++ [(8, 0)] = X := ⟨_, rfl⟩
        have hXl : X.length ≤ 1000000 := by rw [← hX, List.length_append, HCT.out]; simp; omega
        rw [hX] at hd
        have HX := Lib.hid hX
        clear hX
        obtain ⟨A9, c9, rfl, h9, -, hb9⟩ := hd.sl (by omega)
        go_wp2
        go_ret
        rw [Ex.sStar_3 Kx1.out Kx2.out (of_decide_eq_false KE.out)]
        rw [Ex.flat_un (Ax := Ax) (nx := nx) (cx := cx), HX.out]
        exact RetP.behind ((Below.refl _ _).alloc (Nat.le_refl _) _) ⟨A9, c9, rfl, h9, hb9⟩
      · have KE := Lib.hid hKE
        clear hKE
        go_enter Try.func83, Try.ntmps83
        go_wp2_with fail
        refine (isKind_any x _ _ _ _ 1 (unhide Hx).1 (by omega)).mono ?_
        rintro r w' ⟨rfl, rfl⟩
        rw [Kx1.out]
        go_wp2_with fail
        refine (isKind_any x _ _ _ _ 2 (unhide Hx).1 (by omega)).mono ?_
        rintro r w' ⟨rfl, rfl⟩
        rw [Kx2.out]
        go_wp2_with fail
        refine (ends_any x _ _ _ _ 8 (unhide Hx).1 (by omega)).mono ?_
        rintro r w' ⟨rfl, rfl⟩
        rw [KE.out]
        go_wp2
        go_ret
        rw [Ex.sStar_2 Kx1.out Kx2.out (of_decide_eq_true KE.out)]
        exact RetP.of (unhide Hx) (Below.refl _ _)
    · have Kx2 := Lib.hid hKx2
      clear hKx2
      go_enter Try.func83, Try.ntmps83
      go_wp2_with fail
      refine (isKind_any x _ _ _ _ 1 (unhide Hx).1 (by omega)).mono ?_
      rintro r w' ⟨rfl, rfl⟩
      rw [Kx1.out]
      go_wp2_with fail
      refine (isKind_any x _ _ _ _ 2 (unhide Hx).1 (by omega)).mono ?_
      rintro r w' ⟨rfl, rfl⟩
      rw [Kx2.out]
      go_wp2_with fail
      refine (leaf_any _ 2).mono ?_
      intro r w9 hd
      obtain ⟨A9, c9, rfl, h9, -, hb9⟩ := hd.sl (by simp)
      go_wp2
      go_ret
      rw [Ex.sStar_1 (.inr Kx2.out)]
      exact ⟨A9, c9, rfl, h9, hb9⟩
  · have Kx1 := Lib.hid hKx1
    clear hKx1
    go_enter Try.func83, Try.ntmps83
    go_wp2_with fail
    refine (isKind_any x _ _ _ _ 1 (unhide Hx).1 (by omega)).mono ?_
    rintro r w' ⟨rfl, rfl⟩
    rw [Kx1.out]
    go_wp2_with fail
    refine (leaf_any _ 2).mono ?_
    intro r w9 hd
    obtain ⟨A9, c9, rfl, h9, -, hb9⟩ := hd.sl (by simp)
    go_wp2
    go_ret
    rw [Ex.sStar_1 (.inl Kx1.out)]
    exact ⟨A9, c9, rfl, h9, hb9⟩
set_option maxHeartbeats 2000000 in
theorem not_any (x : Ex) (hg : x.good) (w : World) (Ax : Option Addr) (nx cx : Nat) (hx : SL w w.heap.size Ax nx cx x.flat) (n1 : nx ≤ 100000) :
    Calls Try.prog 82 #[.slice Ax nx cx] w (RetP w (Ex.sNot x).flat) := by
  have Hx := hide hx
  have HCT := Lib.hid (show (cats [(Ax, nx, cx, x.flat)]).length = nx by simp [cats]; rw [hx.1.1])
  clear hx
  rcases hKE : decide (x.kind = 7)
  · have KE := Lib.hid hKE
    clear hKE
    go_enter Try.func82, Try.ntmps82
    go_wp2_with fail
    refine (ends_any x _ _ _ _ 7 (unhide Hx).1 (by omega)).mono ?_
    rintro r w' ⟨rfl, rfl⟩
    rw [KE.out]
    go_wp2_with fail
    have hrow := heap_alloc_new w (.cells #[.slice Ax nx cx] 23)
    refine (operation_any _ _ 1 1 [(Ax, nx, cx, x.flat)] 7 (RowS.one hrow ((unhide Hx).up ((Below.refl _ _).alloc (Nat.le_refl _) _)) _ (Below.refl _ _)) (by omega) (by rw [HCT.out]; omega)).mono ?_
    intro r w9 hd
    obtain ⟨X, hX⟩ : ∃ X, cats [(Ax, nx, cx, x.flat)] ++ [(7, 0)] = X := ⟨_, rfl⟩
    have hXl : X.length ≤ 1000000 := by rw [← hX, List.length_append, HCT.out]; simp; omega
    rw [hX] at hd
    have HX := Lib.hid hX
    clear hX
    obtain ⟨A9, c9, rfl, h9, -, hb9⟩ := hd.sl (by omega)
    go_wp2
    go_ret
    rw [Ex.sNot_2 (of_decide_eq_false KE.out)]
    rw [Ex.flat_un (Ax := Ax) (nx := nx) (cx := cx), HX.out]
    exact RetP.behind ((Below.refl _ _).alloc (Nat.le_refl _) _) ⟨A9, c9, rfl, h9, hb9⟩
  · have KE := Lib.hid hKE
    obtain ⟨a, rfl⟩ := Ex.kind7 hg (of_decide_eq_true hKE)
    have hla := (unhide Hx).1.len
    simp only [Ex.sz] at hla
    have hcc := (unhide Hx).2.1
    have hcm := (unhide Hx).2.2.1
    unfold maxLen at hcm
    have hm : (nx : Int) - 1 = (a.sz : Int) := by omega
    have b1 : (a.sz : Int) ≤ (cx : Int) := by omega
    have HA := hide (show SL w w.heap.size Ax a.sz cx a.flat from SL.tree (PS.un (unhide Hx).1) (by omega) (unhide Hx).2.2.1)
    clear hKE hla
    go_enter Try.func82, Try.ntmps82
    go_wp2_with fail
    refine (ends_any (.un 7 a) _ _ _ _ 7 (unhide Hx).1 (by omega)).mono ?_
    rintro r w' ⟨rfl, rfl⟩
    rw [KE.out]
    go_wp2
    go_ret
    rw [Ex.sNot_1 (of_decide_eq_true KE.out)]
    exact RetP.of (unhide HA) (Below.refl _ _)
set_option maxHeartbeats 1000000 in
theorem made_any (k : Int) (x y : Ex) (w : World) (Ax Ay : Option Addr) (nx cx ny cy : Nat) (hx : SL w w.heap.size Ax nx cx x.flat) (hy : SL w w.heap.size Ay ny cy y.flat) (n1 : nx ≤ 100000) (n2 : ny ≤ 100000) :
    Calls Try.prog 84 #[.int .i64 k, .slice Ax nx cx, .slice Ay ny cy] w (RetP w (Ex.mk k x y).flat) := by
  have Hx := hide hx
  have Hy := hide hy
  clear hx hy
  by_cases h4 : k = 4
  · subst h4
    go_enter Try.func84, Try.ntmps84
    go_wp2_with fail
    refine (joined_any x y _ _ _ _ _ _ _ (unhide Hx) (unhide Hy) n1 n2).mono ?_
    rintro r w1 ⟨A9, c9, rfl, h9, hb9⟩
    go_wp2
    go_ret
    exact ⟨A9, c9, rfl, h9, hb9⟩
  · have e4 : (k == 4) = false := by simpa using h4
    have E4 := Lib.hid h4
    clear h4
    by_cases h5 : k = 5
    · subst h5
      go_enter Try.func84, Try.ntmps84
      go_wp2_with fail
      refine (either_any x y _ _ _ _ _ _ _ (unhide Hx) (unhide Hy) n1 n2).mono ?_
      rintro r w1 ⟨A9, c9, rfl, h9, hb9⟩
      go_wp2
      go_ret
      exact ⟨A9, c9, rfl, h9, hb9⟩
    · have e5 : (k == 5) = false := by simpa using h5
      have E5 := Lib.hid h5
      clear h5
      go_enter Try.func84, Try.ntmps84
      go_wp2_with fail
      refine (both_any x y _ _ _ _ _ _ _ (unhide Hx) (unhide Hy) n1 n2).mono ?_
      rintro r w1 ⟨A9, c9, rfl, h9, hb9⟩
      go_wp2
      go_ret
      have e : Ex.mk k x y = Ex.sBoth x y := by rw [Ex.mk, if_neg E4.out, if_neg E5.out]
      rw [e]
      exact ⟨A9, c9, rfl, h9, hb9⟩
end Go.Proofs.Ytadibjjjdbglaaa

