/-
  The number of derivatives: the program's walk.
-/
import Derived.Test.YtadibjjjdbglaaaLv
import Derived.Test.YtadibjjjdbglaaaPrint2
namespace Go.Proofs.Ytadibjjjdbglaaa
open Go.RowKit
set_option linter.unusedVariables false
set_option maxRecDepth 100000

/-- The derivatives by the first letters. -/
noncomputable def kidsTo : Nat → List Pt → List (List Pt)
  | 0, _ => []
  | c + 1, x => kidsTo c x ++ (dO (c : Int) x).toList
theorem kidsTo_all (x : List Pt) : kidsTo 3 x = kids x := by simp [kidsTo, kids]
theorem kidsTo_step {c : Nat} {x y : List Pt} {b : Bool} (h : derF (c : Int) x = (b, y)) : kidsTo (c + 1) x = if b = true then kidsTo c x ++ [y] else kidsTo c x := by
  rw [kidsTo, dO, h]
  cases b <;> simp
theorem take_flat {es : List (List Pt)} {i : Nat} {x : List Pt} (h : es[i]? = some x) : (es.take (i + 1)).flatMap kids = (es.take i).flatMap kids ++ kids x := by
  obtain ⟨hlt, he⟩ := List.getElem?_eq_some_iff.1 h
  rw [List.take_succ_eq_append_getElem hlt, he, List.flatMap_append]; simp
theorem take_snocL {es : List (List Pt)} {i : Nat} {x : List Pt} (h : es[i]? = some x) : es.take (i + 1) = es.take i ++ [x] := by
  obtain ⟨hlt, he⟩ := List.getElem?_eq_some_iff.1 h
  rw [List.take_succ_eq_append_getElem hlt, he]
theorem shM_le {k : Nat} (h : k ≤ 5) : shM k ≤ 121 ∨ k = 5 := by
  rcases (show k = 0 ∨ k = 1 ∨ k = 2 ∨ k = 3 ∨ k = 4 ∨ k = 5 by omega) with rfl | rfl | rfl | rfl | rfl | rfl <;> decide
theorem upTo_len (e : List Pt) {k : Nat} (h : k ≤ 5) : (upTo e k).length ≤ 364 := by
  have h1 := (lev_seg e k h).2
  have h2 := seg_len e 0 (shM k)
  rw [← h1] at h2
  have h3 : shM k ≤ 364 := by
    rcases shM_le h with h | rfl
    · omega
    · decide
  omega
theorem lev_small (e : List Pt) {k : Nat} (h : k ≤ 5) : (lev e k).length ≤ 243 := by
  have h1 := lev_len e k
  have h2 : 3 ^ k ≤ 3 ^ 5 := Nat.pow_le_pow_right (by omega) h
  omega
theorem seen_len (e : List Pt) {k : Nat} (i : Nat) (h : k ≤ 4) : (upTo e k ++ (lev e k).take i).length ≤ 1000 := by
  have := upTo_len e (k := k) (by omega)
  have := lev_small e (k := k) (by omega)
  rw [List.length_append, List.length_take]; omega
abbrev Seen (w : World) (gm : Nat) (xs : List (List Pt)) : Prop := w.ownsMap (H := Unit) Try.prog 9 (plainElem Try.prog 4) gm xs.length (textsOf xs)
theorem strings_info : (Try.prog.info? 23).map (fun i => (i.zero, i.size, i.bytes)) = some (some (.slice none 0 0), 1, 24) := by kernel_rfl
set_option maxHeartbeats 8000000 in
theorem implDeriveCount_all (len : Int) (w : World) (A : Option Addr) (n c : Nat) (e : List Pt) (h : SL w w.heap.size A n c e) (hn : n ≤ 1000000000) :
    Calls Try.prog 29 #[.slice A n c, .int .i64 len] w fun r w' => r = .returned (.int .i64 (dcntI e len)) ∧ Below w.heap.size w w' := by
  have HH := hide h
  have HLE := Lib.hid h.1.1
  clear h
  rcases hv : exprB e
  · have HR := Lib.hid (show dcntI e len = -1 by rw [dcntI, if_neg (by rw [hv]; simp)])
    have HV := Lib.hid hv
    clear hv
    go_enter Try.func29, Try.ntmps29
    go_wp2_with fail
    refine (implExprValid_any w A n c e (unhide HH).1).mono ?_
    rintro r w1 ⟨rfl, hb⟩
    rw [HV.out]
    go_wp2
    go_ret
    exact ⟨ret_int HR.out.symm, hb⟩
  have HV := Lib.hid hv
  clear hv
  rcases hi : inB len 0 4
  · have HR := Lib.hid (show dcntI e len = -1 by rw [dcntI, if_neg (by rw [hi]; simp)])
    go_enter Try.func29, Try.ntmps29
    go_wp2_with fail
    refine (implExprValid_any w A n c e (unhide HH).1).mono ?_
    rintro r w1 ⟨rfl, hb⟩
    rw [HV.out]
    go_wp2_with (first | (go_at_call 60; refine (within_any _ _ _ _).mono ?_; rintro r w2 ⟨rfl, rfl⟩; rw [hi]))
    go_ret
    exact ⟨ret_int HR.out.symm, hb⟩
  obtain ⟨l0, l4⟩ := inB_true.1 hi
  obtain ⟨L, rfl⟩ : ∃ L : Nat, len = (L : Int) := ⟨len.toNat, by omega⟩
  have hL : L ≤ 4 := by omega
  have HR := Lib.hid (show dcntI e (L : Int) = (((upTo e (L + 1)).foldl ins []).length : Int) by rw [dcntI, if_pos ⟨HV.out, hi⟩, Int.toNat_natCast, (lev_seg e (L + 1) (by omega)).2])
  obtain ⟨ti, hi1, hy0, hy1, hy2⟩ := info_parts strings_info
  have HU := hide hi1
  clear hi1
  have hmm := @run_makeMap Try.prog
  go_enter Try.func29, Try.ntmps29
  go_wp2_with fail
  refine (implExprValid_any w A n c e (unhide HH).1).mono ?_
  rintro r w1 ⟨rfl, hb⟩
  rw [HV.out]
  have hz1 := hb.size
  have HE1 := hide ((unhide HH).up hb)
  have hM0 : Hid (Seen ((w1.alloc (.map #[] 0)).alloc (.cells #[.slice A n c] 23)) w1.heap.size []) := (World.ownsMap_made w1 _ _ _).alloc _
  have hb0 : Below w.heap.size w ((w1.alloc (.map #[] 0)).alloc (.cells #[.slice A n c] 23)) := (hb.alloc hz1 _).alloc (by simp; omega) _
  have hLv0 : Hid (LvS ((w1.alloc (.map #[] 0)).alloc (.cells #[.slice A n c] 23)) (XM w1.heap.size none) (some ⟨w1.heap.size + 1, 0, none⟩) 1 (lev e 0)) := by
    refine ⟨rfl, fun _ => ⟨w1.heap.size + 1, 0, rfl, by simp, ⟨by omega, by simp⟩, fun i x hx => ?_⟩⟩
    obtain rfl : i = 0 := by have := (List.getElem?_eq_some_iff.1 hx).1; simp [lev] at this; exact this
    simp [lev] at hx
    subst hx
    have hsl := unhide HE1
    refine ⟨.slice A n c, ?_, ?_⟩
    · have h1 := World.cell?_alloc_new (w1.alloc (.map #[] 0)) #[.slice A n c] 23 0
      rw [World.size_alloc] at h1
      rw [h1]; rfl
    · have hl := HLE.out
      subst hl
      have hA : ∀ a : Addr, A = some a → a.block < w1.heap.size := fun a ha => by
        obtain ⟨t, hg, hf, hs⟩ := exprB_iff.1 HV.out
        have h1 := Ex.flat_length t
        have h2 := Ex.sz_pos t
        rw [hf] at h1
        obtain ⟨b, off, e1, hbb, -⟩ := hsl.1.2 (by omega)
        rw [ha] at e1; injection e1 with e1; rw [e1]; exact hbb
      have h0 : SLX w1 (fun b => b < w1.heap.size) (.slice A e.length c) e := ⟨A, c, rfl, hsl, fun a ha => ⟨hA a ha, hA a ha⟩⟩
      have h1 : SLX (w1.alloc (.map #[] 0)) (XM w1.heap.size none) (.slice A e.length c) e := h0.grown (World.grownBy_alloc w1 _ none) (fun b hb => ⟨by omega, by simp⟩) none_ne
      exact h1.grown (World.grownBy_alloc _ _ none) XM.self none_ne
  have HZ1 := Lib.hid hz1
  clear HE1
  go_wp2_with (first | (go_at_call 60; refine (within_any _ _ _ _).mono ?_; rintro r w2 ⟨rfl, rfl⟩; rw [hi]))
  go_loopw [6, 7] (fun lv kv wr => ∃ (k m c' : Nat) (A' : Option Addr), kv = .int .i64 k ∧ lv = .slice A' m c' ∧ k ≤ L + 1 ∧ m ≤ 243 ∧ Hid (LvS wr (XM w1.heap.size none) A' m (lev e k)) ∧ Hid (Seen wr w1.heap.size (upTo e k)) ∧ Below w.heap.size w wr) (fun _ kv _ => L + 1 - (intOf kv).toNat)
  case atStart => exact ⟨0, 1, 1, _, rfl, rfl, Nat.zero_le _, by omega, hLv0, hM0, hb0⟩
  case round =>
    clear hLv0 hM0 hb0
    obtain ⟨k, m, c', A', rfl, rfl, hk, hm, hLv, hM, hbk⟩ := hrel
    by_cases hlt : k ≤ L
    · go_wp2
      go_loopw [8, 32] (fun u8 iv wr' => ∃ (i p : Nat), iv = .int .i64 i ∧ i ≤ m ∧ p ≤ 3 * i ∧ Hid (u8.ownBlock ≠ some w1.heap.size ∧ OwL wr' w.heap.size (XM w1.heap.size u8.ownBlock) u8 p (((lev e k).take i).flatMap kids)) ∧ Hid (LvS wr' (XM w1.heap.size u8.ownBlock) A' m (lev e k)) ∧ Hid (Seen wr' w1.heap.size (upTo e k ++ (lev e k).take i)) ∧ Below w.heap.size w wr') (fun _ iv _ => m - (intOf iv).toNat)
      case atStart => exact ⟨0, 0, rfl, Nat.zero_le _, Nat.zero_le _, Lib.hid ⟨by simp [Value.ownBlock], OwL.nil _ _ _⟩, hLv, Lib.hid (by rw [List.take_zero, List.append_nil]; exact unhide hM), hbk⟩
      case round =>
        rename World => wi
        clear hLv hM hbk
        obtain ⟨i, p, rfl, him, hp3, hO, hLv, hM, hbi⟩ := hrel
        by_cases hlti : i < m
        · obtain ⟨b, off, x, v, rfl, hx, hc0, hsx⟩ := (unhide hLv).at hlti
          have hxv : exprB x = true := lev_ok HV.out k x (List.mem_of_getElem? hx)
          obtain ⟨t, hg, rfl, hs60⟩ := exprB_iff.1 hxv
          obtain ⟨Ax, cx, rfl, hslx, hXx⟩ := hsx
          have hsx : SLX wi (XM w1.heap.size u8.ownBlock) (.slice Ax t.flat.length cx) t.flat := ⟨Ax, cx, rfl, hslx, hXx⟩
          obtain ⟨nx, hnx⟩ : ∃ nx, t.flat.length = nx := ⟨_, rfl⟩
          rw [hnx] at hsx hslx hc0
          have hnx60 : nx ≤ 60 := by rw [← hnx, Ex.flat_length]; exact hs60
          have HNX := Lib.hid hnx
          have HX := Lib.hid hx
          have HSX := hide hsx
          have HSLX := hide hslx
          have HTX := Lib.hid (txtO_tree hg hs60)
          clear hx hsx hslx hXx hnx hxv
          have i0 : (0 : Int) ≤ (i : Int) := Int.natCast_nonneg _
          have i1 : (i : Int) < (m : Int) := by omega
          go_wp2_with fail
          refine (exprText_any t hg wi Ax nx cx (unhide HSLX) hnx60).mono ?_
          rintro r w2 ⟨X, rfl, HXT, hX, hb2⟩
          have hz2 := hb2.size
          have hbb2 := hbi.trans (hb2.mono hbi.size)
          have hkey : Hid (keyOf Try.prog 9 (.string X) = some (litO t.flat)) := by
            show keyOf Try.prog 9 (.string X) = some (litO t.flat)
            rw [WideMaps.keyOf_string_mk Try.underlying9 (by unfold maxLen; omega), litO, HTX.out, unhide HXT]
          have hM2 : Hid (Seen w2 w1.heap.size (upTo e k ++ (lev e k).take i)) := (unhide hM).kept (bel_grown hb2) (by simp)
          have hO2 := Lib.hid (show u8.ownBlock ≠ some w1.heap.size ∧ OwL w2 w.heap.size (XM w1.heap.size u8.ownBlock) u8 p (((lev e k).take i).flatMap kids) from ⟨hO.out.1, hO.out.2.grown (bel_grown hb2) XM.self none_ne (own_or u8)⟩)
          have hLv2 := hide ((unhide hLv).grown (bel_grown hb2) XM.self none_ne)
          have HSX2 := hide ((unhide HSX).grown (bel_grown hb2) XM.self none_ne)
          have hlen : (upTo e k ++ (lev e k).take i).length < maxLen := by have := seen_len e i (show k ≤ 4 by omega); unfold maxLen; omega
          have HLN := Lib.hid hlen
          clear hO hLv hM HSX HSLX hlen HXT
          go_wp2_with (at_mapUpdate; go_must (refine wpList_mapUpdate_own (H := Unit) _ rfl _ _ _ 67 rfl 9 4 (Maps.string_keyed Try.underlying9) Try.underlying67 (plainElem Try.prog 4) w1.heap.size _ _ rfl (unhide hM2) HLN.out _ _ (litO t.flat) rfl rfl (unhide hkey) (.lit (.bool true)) [] (plainElem_bool Try.underlying4 true) ?_); go_must (intro w3 hM3 hg3))
          clear hmm
          have hbb3 : Below w.heap.size w w3 := hbb2.grown hg3 hbb2.size (fun q hq => by injection hq with hq; omega)
          have hgm3 : w1.heap.size < w3.heap.size := by have := hg3.size; have := (unhide hM2).lt; omega
          have hM3' : Hid (Seen w3 w1.heap.size (upTo e k ++ (lev e k).take (i + 1))) := by
            show Seen w3 w1.heap.size (upTo e k ++ (lev e k).take (i + 1))
            have h1 := hM3
            rw [← textsOf_snoc, List.append_assoc, ← take_snocL HX.out] at h1
            have h2 : (upTo e k ++ (lev e k).take i).length + 1 = (upTo e k ++ (lev e k).take (i + 1)).length := by
              rw [take_snocL HX.out, List.length_append, List.length_append, List.length_append]; simp; omega
            rw [h2] at h1
            exact h1
          have hO3 := Lib.hid (show u8.ownBlock ≠ some w1.heap.size ∧ OwL w3 w.heap.size (XM w1.heap.size u8.ownBlock) u8 p (((lev e k).take i).flatMap kids) from ⟨hO2.out.1, hO2.out.2.grown hg3 XM.self XM.map (.inr hO2.out.1)⟩)
          have hLv3 := hide ((unhide hLv2).grown hg3 XM.self XM.map)
          have HSX3 := hide ((unhide HSX2).grown hg3 XM.self XM.map)
          have HB := Lib.hid hbb3
          clear hM3 hM2 hO2 hLv2 HSX2 hg3 hkey hbb2 hbb3 hb2 hbi
          go_loopw [8, 39] (fun u8 cv wr => ∃ (q p' : Nat), cv = .int .i64 q ∧ q ≤ 3 ∧ p' ≤ 3 * i + q ∧ Hid (u8.ownBlock ≠ some w1.heap.size ∧ OwL wr w.heap.size (XM w1.heap.size u8.ownBlock) u8 p' (((lev e k).take i).flatMap kids ++ kidsTo q t.flat)) ∧ Hid (LvS wr (XM w1.heap.size u8.ownBlock) (some ⟨b, off, none⟩) m (lev e k)) ∧ Hid (SLX wr (XM w1.heap.size u8.ownBlock) (.slice Ax nx cx) t.flat) ∧ Hid (Seen wr w1.heap.size (upTo e k ++ (lev e k).take (i + 1))) ∧ Below w.heap.size w wr) (fun _ cv _ => 3 - (intOf cv).toNat)
          case atStart => exact ⟨0, p, rfl, Nat.zero_le _, by omega, Lib.hid (by rw [kidsTo, List.append_nil]; exact hO3.out), hLv3, HSX3, hM3', HB.out⟩
          case round =>
            rename World => wj
            clear hO3 hLv3 HSX3 hM3' HB
            obtain ⟨q, p', rfl, hq3, hp', hO, hLv, HSX, hM, hbj⟩ := hrel
            by_cases hltq : q < 3
            · obtain ⟨bb, y, hd⟩ : ∃ bb y, derF (q : Int) t.flat = (bb, y) := ⟨_, _, rfl⟩
              have HDD := Lib.hid hd
              have HY := Lib.hid (show y.length ≤ 60 by have := derF_len (q : Int) t.flat; rw [hd] at this; exact this)
              have HST := Lib.hid (kidsTo_step hd)
              obtain ⟨Ax', cx', e1, hslj, -⟩ := unhide HSX
              rw [HNX.out] at e1
              injection e1 with e1 _ e2
              subst e1; subst e2
              rw [HNX.out] at hslj
              have HSJ := hide hslj
              clear hd hslj
              go_wp2_with fail
              refine (implDerive_all (q : Int) wj Ax nx cx t.flat (unhide HSJ) (by omega)).mono ?_
              intro r w4 hdd
              obtain ⟨A4, c4, rfl, hsl4, hown4, hb4⟩ := hdd.pair HDD.out HY.out
              have hbb4 := hbj.trans (hb4.mono hbj.size)
              have hO4 := Lib.hid (show u8.ownBlock ≠ some w1.heap.size ∧ OwL w4 w.heap.size (XM w1.heap.size u8.ownBlock) u8 p' (((lev e k).take i).flatMap kids ++ kidsTo q t.flat) from ⟨hO.out.1, hO.out.2.grown (bel_grown hb4) XM.self none_ne (own_or u8)⟩)
              have hLv4 := hide ((unhide hLv).grown (bel_grown hb4) XM.self none_ne)
              have HSX4 := hide ((unhide HSX).grown (bel_grown hb4) XM.self none_ne)
              have hM4 : Hid (Seen w4 w1.heap.size (upTo e k ++ (lev e k).take (i + 1))) := (unhide hM).kept (bel_grown hb4) (by simp)
              have hgj := (unhide hM).lt
              have hvlt : ∀ g, u8.ownBlock = some g → g < wj.heap.size := fun g hg => by obtain ⟨vs, h1, -⟩ := hO.out.2; exact (h1.lt g hg).2
              have HY4 := hide (slx_fresh (X := XM w1.heap.size u8.ownBlock) rfl hsl4 hown4 (fun b' hb' => ⟨by omega, fun e' => by have := hvlt b' e'; omega⟩))
              clear hdd hsl4 hown4 hO hLv HSX hM HSJ hvlt
              cases bb
              · go_wp2
                go_roundw
                case rel =>
                  refine ⟨q + 1, p', by go_num, by omega, by omega, Lib.hid ⟨hO4.out.1, ?_⟩, hLv4, HSX4, hM4, hbb4⟩
                  rw [HST.out]
                  exact hO4.out.2
                case measure => simp [intOf]; omega
              · obtain ⟨vs, hvs⟩ := hO4.out.2
                have HVS := hide hvs
                have hz4 := hb4.size
                have hgr := World.grownBy_alloc w4 (.cells #[.slice A4 y.length c4] 23) none
                have HVA := hide ((unhide HVS).grown hgr XM.self none_ne (own_or u8))
                have HYA := hide ((unhide HY4).grown hgr XM.self none_ne)
                have hLvA := hide ((unhide hLv4).grown hgr XM.self none_ne)
                have HSXA := hide ((unhide HSX4).grown hgr XM.self none_ne)
                have hMA : Hid (Seen (w4.alloc (.cells #[.slice A4 y.length c4] 23)) w1.heap.size (upTo e k ++ (lev e k).take (i + 1))) := (unhide hM4).alloc _
                have hbA := hbb4.alloc hbb4.size (.cells #[.slice A4 y.length c4] 23)
                have HBA := Lib.hid hbA
                have HNE := Lib.hid hO4.out.1
                have hws := hbb4.size
                clear hvs hO4 hLv4 HSX4 hM4 HY4 hgr hbA HVS
                go_wp2_with (at_builtin; go_must (refine wpList_append_own_at _ rfl (.tmp 49) (.tmp 51) 64 rfl w.heap.size 23 ti (.slice none 0 0) 1 24 Try.underlying64 (unhide HU) hy0 hy1 hy2 rfl (by decide) u8 p' vs rfl (unhide HVA).1 ⟨w4.heap.size, 0, none⟩ 1 1 [.slice A4 y.length c4] rfl rfl (cell_one_lit _ _ _) (by simp [Value.oneCell']) (by unfold maxLen; omega) (by omega) (by simp; omega) ?_); go_must (intro v9 w9 hown9 hgrow9 _ hat9))
                go_roundw
                case rel =>
                  have hX := fun b' hb' h' => XM.next (gm := w1.heap.size) hat9 b' hb' h'
                  refine ⟨q + 1, p' + 1, by go_num, by omega, by omega, Lib.hid ⟨?_, ?_⟩, hide ((unhide hLvA).grownIn hgrow9 hX XM.row), hide ((unhide HSXA).grownIn hgrow9 hX XM.row), Lib.hid ((unhide hMA).kept hgrow9 (fun e' => HNE.out e'.symm)), HBA.out.grown hgrow9 HBA.out.size (own_block (unhide HVA).1)⟩
                  · rcases hat9 with e' | e'
                    · rw [e']; exact HNE.out
                    · rw [e']; intro e''; injection e'' with e''; simp at e''; omega
                  · rw [HST.out]
                    have := (unhide HVA).snoc (unhide HYA) hgrow9 hown9 hX XM.row
                    rw [List.append_assoc] at this
                    exact ⟨_, this⟩
                case measure => simp [intOf]; omega
            · obtain rfl : q = 3 := by omega
              go_wp2
              go_roundw
              case rel =>
                refine ⟨i + 1, p', by go_num, by omega, by omega, Lib.hid ⟨hO.out.1, ?_⟩, hLv, hM, hbj⟩
                rw [take_flat HX.out, ← kidsTo_all]
                exact hO.out.2
              case measure => simp [intOf]; omega
        · obtain rfl : i = m := by omega
          have hlen := (unhide hLv).1
          obtain ⟨A9, c9, rfl, hc9, hL9⟩ := hO.out.2.lv (X' := XM w1.heap.size none) XM.loose (fun g hg => ⟨fun e' => hO.out.1 (by rw [hg, e']), by simp⟩)
          have hp9 : p ≤ 243 := by
            have h1 := hL9.1
            rw [List.take_of_length_le (by omega)] at h1
            have h2 := lev_small e (k := k + 1) (by omega)
            rw [lev] at h2
            omega
          have HL9 : Hid (LvS wi (XM w1.heap.size none) A9 p (lev e (k + 1))) := by
            show LvS wi (XM w1.heap.size none) A9 p (lev e (k + 1))
            have h1 := hL9
            rw [List.take_of_length_le (by omega)] at h1
            exact h1
          have HM9 : Hid (Seen wi w1.heap.size (upTo e (k + 1))) := by
            show Seen wi w1.heap.size (upTo e (k + 1))
            have h1 := unhide hM
            rw [List.take_of_length_le (by omega)] at h1
            exact h1
          clear hL9 hO hLv hM hlen
          go_wp2
          go_roundw
          case rel => exact ⟨k + 1, p, c9, A9, by go_num, rfl, by omega, hp9, HL9, HM9, hbi⟩
          case measure => simp [intOf]; omega
    · obtain rfl : k = L + 1 := by omega
      have HSZ := Lib.hid (textsOf_size (H := Unit) (upTo e (L + 1)) (upTo_ok HV.out _))
      go_wp2_with (at_len; go_must (refine wpList_len_own (H := Unit) _ rfl _ 67 rfl 9 4 Try.underlying67 (plainElem Try.prog 4) w1.heap.size _ _ rfl (unhide hM) ?_))
      go_ret
      exact ⟨ret_int (by rw [HR.out, HSZ.out]), hbk⟩
end Go.Proofs.Ytadibjjjdbglaaa
