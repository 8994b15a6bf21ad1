/-
  Whether the empty word is in the language: the walks.
-/
import Derived.Test.YtadibjjjdbglaaaForest
import Derived.Test.YtadibjjjdbglaaaDepth
import Derived.BigRegion
namespace Go.Proofs.Ytadibjjjdbglaaa
open Go.RowKit
set_option linter.unusedVariables false
set_option maxRecDepth 100000

theorem bool_info : (Try.prog.info? 4).map (fun i => (i.zero, i.size, i.bytes)) = some (some (.bool false), 1, 1) := by kernel_rfl
/-- The stack: for each tree whether it has the empty word. -/
def boolV (us : List Ex) : List Value := us.map fun t => Value.bool t.emp
/-- 'append(v, b)' on an own row of bools. -/
theorem wpList_append_bool {w : World} {ops : Array Oper} {rest : List Oper} {o : Oper} {a : Act} {Q : Exit → Act → World → Prop} (hgd : o.guard = none) (s x : Operand)
    (ho : o.op = .call { callee := .builtin .append, args := #[s, x], argTypes := #[102, 102] })
    (base : Nat) (v : Value) (n : Nat) (xs : List Value) (hs : a.eval s = v) (hown : w.ownsRow base 4 1 v n xs)
    (ad : Addr) (b : Bool) (hx : a.eval x = .slice (some ad) 1 1) (hc : ∀ j u, [Value.bool b][j]? = some u → w.cell? (ad.add j) = some u)
    (hm : n + 1 ≤ 1000000000) (hbase : base ≤ w.heap.size)
    (h : ∀ v' w', w'.ownsRow base 4 1 v' (n + 1) (xs ++ [.bool b]) → w.grownBy w' v.ownBlock → wpList Try.prog ops Q rest (a.put o.dst v') w') : wpList Try.prog ops Q (o :: rest) a w := by
  obtain ⟨i0, hi0, hz0, hz1, hz2⟩ := info_parts bool_info
  exact wpList_append_own w hgd s x 102 ho base 4 i0 (.bool false) 1 1 Try.underlying102 hi0 hz0 hz1 hz2 rfl (by decide) v n xs hs hown ad 1 1 [.bool b] hx rfl hc (by simp [Value.oneCell']) (by unfold maxLen; omega) (by omega) hbase (fun v' w' h1 h2 _ => h v' w' h1 h2)
theorem cell_one_at (W : World) (o : Obj) (v : Value) (t : TypeId) : ∀ j u, [v][j]? = some u → ((W.alloc o).alloc (.cells #[v] t)).cell? ((⟨W.heap.size + 1, 0, none⟩ : Addr).add j) = some u := by
  have h := cell_one_new (W.alloc o) v t
  rw [World.size_alloc] at h
  exact h
theorem boolV_append (a b : List Ex) : boolV (a ++ b) = boolV a ++ boolV b := by simp [boolV]
theorem boolV_length (a : List Ex) : (boolV a).length = a.length := by simp [boolV]
/-- An own row that is not empty. -/
theorem own_some {w : World} {base m : Nat} {e : TypeId} {size : Nat} {A : Option Addr} {c : Nat} {xs : List Value} (h : w.ownsRow base e size (.slice A (m + 1) c) (m + 1) xs) : ∃ g, A = some ⟨g, 0, none⟩ ∧ base ≤ g ∧ g < w.heap.size := by
  obtain ⟨A', c', e1, -, hA⟩ := own_shape h
  injection e1 with e1
  subst e1
  obtain ⟨g, rfl⟩ := hA (by omega)
  have := h.lt g rfl
  exact ⟨g, rfl, this.1, this.2⟩
set_option maxHeartbeats 4000000 in
theorem hasEmpty_any (w : World) (A : Option Addr) (n c : Nat) (t : Ex) (hg : t.good) (h : PS w w.heap.size A n t.flat) (hn : n ≤ 1000000) (hc : n ≤ c) (hcm : c ≤ maxLen) :
    Calls Try.prog 97 #[.slice A n c] w fun r w' => r = .returned (.bool t.emp) ∧ Below w.heap.size w w' := by
  have HLEN := Lib.hid h.len
  have HH := hide h
  unfold maxLen at hcm
  clear h
  go_enter Try.func97, Try.ntmps97
  go_wp2
  go_loopw [3, 9] (fun sv i wr => ∃ (k : Nat) (us : List Ex), i = .int .i64 k ∧ k ≤ n ∧ Hid (Forest t.flat k us) ∧ Hid (wr.ownsRow w.heap.size 4 1 sv us.length (boolV us)) ∧ us.length ≤ k ∧ Below w.heap.size w wr) (fun _ i _ => n - (intOf i).toNat)
  case atStart => exact ⟨0, [], rfl, Nat.zero_le _, Lib.hid (Forest.nil _), Lib.hid (World.ownsRow_nil _ _ _ _), Nat.le_refl _, Below.refl _ _⟩
  case round =>
    obtain ⟨k, us, rfl, hk, hF, hO, hul, hb⟩ := hrel
    by_cases hlt : k < n
    · obtain ⟨b, off, kd, l, rfl, hbB, he, hc0, hc1⟩ := ((unhide HH).below (Nat.le_refl _) hb).at hlt
      have hz := hb.size
      obtain ⟨SA, sc, hsv, hsc, hSA⟩ := own_shape hO.out
      subst hsv
      rcases Forest.step hg hF.out he with ⟨hgl, hF2⟩ | ⟨vs, a, rfl, hkd, rfl, hF2⟩ | ⟨vs, a, b', rfl, hkd, rfl, hF2⟩
      · have HF2 := Lib.hid hF2
        have hcast : (((us.length : Nat) : Int) + 1 ≤ 2000000) := by omega
        clear hF2 he hSA
        have key : ∀ (x : Bool) (v' : Value) (w' : World) (o1 o2 : Obj), (Ex.leaf kd l).emp = x → w'.ownsRow w.heap.size 4 1 v' (us.length + 1) (boolV us ++ [.bool x]) → ((wr.alloc o1).alloc o2).grownBy w' (Value.slice SA us.length sc).ownBlock →
            Hid (w'.ownsRow w.heap.size 4 1 v' (us ++ [Ex.leaf kd l]).length (boolV (us ++ [Ex.leaf kd l]))) ∧ Below w.heap.size w w' := by
          intro x v' w' o1 o2 hx h1 h2
          refine ⟨Lib.hid ?_, ((hb.alloc hz _).alloc (by simp; omega) _).grown h2 (by simp; omega) (own_block hO.out)⟩
          rw [boolV_append, List.length_append]
          simp only [boolV, List.map_cons, List.map_nil, hx]
          exact h1
        have HK := hide key
        clear key
        rcases hgl with ⟨rfl | rfl, rfl⟩ | ⟨rfl, h0, h2⟩
        · go_wp2_with (at_builtin; go_must (refine wpList_append_bool rfl (.tmp 38) (.tmp 39) rfl w.heap.size (.slice SA us.length sc) us.length (boolV us) rfl ((hO.out.alloc _).alloc _) ⟨wr.heap.size + 1, 0, none⟩ false rfl ?_ (by omega) (by simp; omega) ?_); go_must (exact cell_one_at _ _ _ _); go_must (intro v' w' hown' hgrow))
          go_roundw
          case rel => exact ⟨k + 1, us ++ [.leaf 1 0], by go_num, by omega, HF2, ((unhide HK) false _ _ _ _ rfl hown' hgrow).1, by simp; omega, ((unhide HK) false _ _ _ _ rfl hown' hgrow).2⟩
          case measure => simp [intOf]; omega
        · go_wp2_with (at_builtin; go_must (refine wpList_append_bool rfl (.tmp 43) (.tmp 44) rfl w.heap.size (.slice SA us.length sc) us.length (boolV us) rfl ((hO.out.alloc _).alloc _) ⟨wr.heap.size + 1, 0, none⟩ true rfl ?_ (by omega) (by simp; omega) ?_); go_must (exact cell_one_at _ _ _ _); go_must (intro v' w' hown' hgrow))
          go_roundw
          case rel => exact ⟨k + 1, us ++ [.leaf 2 0], by go_num, by omega, HF2, ((unhide HK) true _ _ _ _ rfl hown' hgrow).1, by simp; omega, ((unhide HK) true _ _ _ _ rfl hown' hgrow).2⟩
          case measure => simp [intOf]; omega
        · go_wp2_with (at_builtin; go_must (refine wpList_append_bool rfl (.tmp 38) (.tmp 39) rfl w.heap.size (.slice SA us.length sc) us.length (boolV us) rfl ((hO.out.alloc _).alloc _) ⟨wr.heap.size + 1, 0, none⟩ false rfl ?_ (by omega) (by simp; omega) ?_); go_must (exact cell_one_at _ _ _ _); go_must (intro v' w' hown' hgrow))
          go_roundw
          case rel => exact ⟨k + 1, us ++ [.leaf 3 l], by go_num, by omega, HF2, ((unhide HK) false _ _ _ _ rfl hown' hgrow).1, by simp; omega, ((unhide HK) false _ _ _ _ rfl hown' hgrow).2⟩
          case measure => simp [intOf]; omega
      · have HF2 := Lib.hid hF2
        have hlen : (vs ++ [a]).length = vs.length + 1 := by simp
        have hO1 := hO.out
        rw [hlen] at hO1 hul hsc
        rw [hlen]
        rw [boolV_append] at hO1
        obtain ⟨g, rfl, hg1, hg2⟩ := own_some hO1
        obtain ⟨m, hm⟩ : ∃ m, vs.length = m := ⟨_, rfl⟩
        have HM := Lib.hid hm
        rw [hm] at hO1 hul hsc ⊢
        obtain ⟨E, hE⟩ : ∃ E, a.emp = E := ⟨_, rfl⟩
        have HE := Lib.hid hE
        have hcm2 : wr.cell? ⟨g, m, none⟩ = some (.bool E) := by
          rw [hO1.cellAt m (by omega), List.getElem?_append_right (by rw [boolV_length, hm]; exact Nat.le_refl _), boolV_length, hm, Nat.sub_self]
          simp [boolV, hE]
        have hfm := hO1.frozenAt m
        have key : ∀ (x : Bool) (o1 : Obj), (Ex.un kd a).emp = x →
            Hid (((wr.setCell ⟨g, m, none⟩ (.bool x)).alloc o1).ownsRow w.heap.size 4 1 (.slice (some ⟨g, 0, none⟩) (m + 1) sc) (vs ++ [Ex.un kd a]).length (boolV (vs ++ [Ex.un kd a]))) ∧ Below w.heap.size w ((wr.setCell ⟨g, m, none⟩ (.bool x)).alloc o1) := by
          intro x o1 hx
          refine ⟨Lib.hid ?_, (hb.setCell hg1 _).alloc (by rw [size_set]; exact hz) _⟩
          have h1 := ((hO1.stored m (.bool x)).1).alloc o1
          rw [boolV_append, List.length_append, hm]
          simp only [boolV, List.map_cons, List.map_nil, hx] at h1 ⊢
          rw [List.set_append_right _ _ (by simp; omega)] at h1
          simp [hm] at h1
          exact h1
        have HK := hide key
        clear key hm hE hO1 hF2 he hSA hlen hO
        rcases hkd with rfl | rfl
        · go_wp2
          go_roundw
          case rel => exact ⟨k + 1, vs ++ [.un 7 a], by go_num, by omega, HF2, ((unhide HK) (!E) _ (by simp [Ex.emp, HE.out])).1, by have := HM.out; simp; omega, ((unhide HK) (!E) _ (by simp [Ex.emp, HE.out])).2⟩
          case measure => simp [intOf]; omega
        · go_wp2
          go_roundw
          case rel => exact ⟨k + 1, vs ++ [.un 8 a], by go_num, by omega, HF2, ((unhide HK) true _ (by simp [Ex.emp])).1, by have := HM.out; simp; omega, ((unhide HK) true _ (by simp [Ex.emp])).2⟩
          case measure => simp [intOf]; omega
      · have HF2 := Lib.hid hF2
        have hlen : (vs ++ [a, b']).length = vs.length + 1 + 1 := by simp
        have hO1 := hO.out
        rw [hlen] at hO1 hul hsc
        rw [hlen]
        rw [boolV_append] at hO1
        obtain ⟨g, rfl, hg1, hg2⟩ := own_some hO1
        obtain ⟨m, hm⟩ : ∃ m, vs.length = m := ⟨_, rfl⟩
        have HM := Lib.hid hm
        rw [hm] at hO1 hul hsc ⊢
        obtain ⟨E, hE⟩ : ∃ E, a.emp = E := ⟨_, rfl⟩
        obtain ⟨E', hE'⟩ : ∃ E', b'.emp = E' := ⟨_, rfl⟩
        have HE := Lib.hid hE
        have HE' := Lib.hid hE'
        have hcm1 : wr.cell? ⟨g, m, none⟩ = some (.bool E) := by
          rw [hO1.cellAt m (by omega), List.getElem?_append_right (by rw [boolV_length, hm]; exact Nat.le_refl _), boolV_length, hm, Nat.sub_self]
          simp [boolV, hE]
        have hcm2 : wr.cell? ⟨g, m + 1, none⟩ = some (.bool E') := by
          rw [hO1.cellAt (m + 1) (by omega), List.getElem?_append_right (by rw [boolV_length, hm]; omega), boolV_length, hm, Nat.add_sub_cancel_left]
          simp [boolV, hE']
        have hfm := hO1.frozenAt m
        have key : ∀ (x : Bool) (o1 o2 : Obj), (Ex.bin kd a b').emp = x →
            Hid (((((wr.setCell ⟨g, m, none⟩ (.bool x)).alloc o1).alloc o2).drew).ownsRow w.heap.size 4 1 (.slice (some ⟨g, 0, none⟩) (m + 1) sc) (vs ++ [Ex.bin kd a b']).length (boolV (vs ++ [Ex.bin kd a b']))) ∧ Below w.heap.size w ((((wr.setCell ⟨g, m, none⟩ (.bool x)).alloc o1).alloc o2).drew) := by
          intro x o1 o2 hx
          refine ⟨Lib.hid ?_, (((hb.setCell hg1 _).alloc (by rw [size_set]; exact hz) _).alloc (by simp; omega) _).drew⟩
          have h1 := (((own_cut (j := m + 1) (hO1.stored m (.bool x)).1 (by omega)).alloc o1).alloc o2).drew
          have h2 : List.take ((m + 1) * 1) ((boolV vs ++ boolV [a, b']).set m (.bool x)) = boolV (vs ++ [Ex.bin kd a b']) := by
            have e1 : boolV [a, b'] = [.bool a.emp, .bool b'.emp] := rfl
            have e2 : boolV (vs ++ [Ex.bin kd a b']) = boolV vs ++ [.bool x] := by rw [boolV_append, ← hx]; rfl
            have e3 : (boolV vs).length = m := by rw [boolV_length, hm]
            rw [List.set_append_right _ _ (by omega), e1, e2, e3, Nat.sub_self, Nat.mul_one, List.take_append, e3, List.take_of_length_le (by omega)]
            rw [show m + 1 - m = 1 from by omega]; rfl
          rw [h2] at h1
          have e4 : (vs ++ [Ex.bin kd a b']).length = m + 1 := by simp [hm]
          rw [e4]
          exact h1
        have HK := hide key
        clear key hm hE hE' hO1 hF2 he hSA hlen hO
        have jw : IntKind.i64.wrap (m : Int) = (m : Int) := IntWalk.i64_in _ (by omega)
        have js0 : (0 : Int) ≤ (m : Int) := by omega
        have js1 : (m : Int) ≤ (sc : Int) := by omega
        have js2 : (m : Int) < (m : Int) + 1 + 1 := by omega
        have js3 : (m : Int) + 1 < (m : Int) + 1 + 1 := by omega
        have js4 : m + 1 ≤ sc := by omega
        have JK : Hid (k + 1 ≤ n ∧ m + 1 ≤ k + 1) := Lib.hid ⟨by omega, by omega⟩
        have hr : IntKind.i64.wrap (↑k + 1) = ((k + 1 : Nat) : Int) := by have := IntWalk.i64_in ((k : Int) + 1) (by omega); rw [this]; omega
        have HR := Lib.hid hr
        clear hr
        rcases hkd with rfl | rfl | rfl
        · cases E
          · go_wp2
            go_region
            clear jw js0 js1 js2 js3 js4
            go_wp2
            go_roundw
            case rel => exact ⟨k + 1, vs ++ [.bin 4 a b'], by go_num, JK.out.1, HF2, ((unhide HK) false _ _ (by simp [Ex.emp, HE.out, HE'.out])).1, by have := HM.out; have := JK.out; simp; omega, ((unhide HK) false _ _ (by simp [Ex.emp, HE.out, HE'.out])).2⟩
            case measure => have := JK.out; simp [intOf]; omega
          · go_wp2
            go_region
            clear jw js0 js1 js2 js3 js4
            go_wp2
            go_roundw
            case rel => exact ⟨k + 1, vs ++ [.bin 4 a b'], by go_num, JK.out.1, HF2, ((unhide HK) E' _ _ (by simp [Ex.emp, HE.out, HE'.out])).1, by have := HM.out; have := JK.out; simp; omega, ((unhide HK) E' _ _ (by simp [Ex.emp, HE.out, HE'.out])).2⟩
            case measure => have := JK.out; simp [intOf]; omega
        · cases E
          · go_wp2
            go_region
            clear jw js0 js1 js2 js3 js4
            go_wp2
            go_roundw
            case rel => exact ⟨k + 1, vs ++ [.bin 5 a b'], by go_num, JK.out.1, HF2, ((unhide HK) E' _ _ (by simp [Ex.emp, HE.out, HE'.out])).1, by have := HM.out; have := JK.out; simp; omega, ((unhide HK) E' _ _ (by simp [Ex.emp, HE.out, HE'.out])).2⟩
            case measure => have := JK.out; simp [intOf]; omega
          · go_wp2
            go_region
            clear jw js0 js1 js2 js3 js4
            go_wp2
            go_roundw
            case rel => exact ⟨k + 1, vs ++ [.bin 5 a b'], by go_num, JK.out.1, HF2, ((unhide HK) true _ _ (by simp [Ex.emp, HE.out, HE'.out])).1, by have := HM.out; have := JK.out; simp; omega, ((unhide HK) true _ _ (by simp [Ex.emp, HE.out, HE'.out])).2⟩
            case measure => have := JK.out; simp [intOf]; omega
        · cases E
          · go_wp2
            go_region
            clear jw js0 js1 js2 js3 js4
            go_wp2
            go_roundw
            case rel => exact ⟨k + 1, vs ++ [.bin 6 a b'], by go_num, JK.out.1, HF2, ((unhide HK) false _ _ (by simp [Ex.emp, HE.out, HE'.out])).1, by have := HM.out; have := JK.out; simp; omega, ((unhide HK) false _ _ (by simp [Ex.emp, HE.out, HE'.out])).2⟩
            case measure => have := JK.out; simp [intOf]; omega
          · go_wp2
            go_region
            clear jw js0 js1 js2 js3 js4
            go_wp2
            go_roundw
            case rel => exact ⟨k + 1, vs ++ [.bin 6 a b'], by go_num, JK.out.1, HF2, ((unhide HK) E' _ _ (by simp [Ex.emp, HE.out, HE'.out])).1, by have := HM.out; have := JK.out; simp; omega, ((unhide HK) E' _ _ (by simp [Ex.emp, HE.out, HE'.out])).2⟩
            case measure => have := JK.out; simp [intOf]; omega
    · obtain rfl : k = n := by omega
      have hus := hF.out.done hg (by rw [HLEN.out]; exact Nat.le_refl _)
      subst hus
      obtain ⟨SA, sc, hsv, hsc, hSA⟩ := own_shape hO.out
      subst hsv
      obtain ⟨g, rfl, hg1, hg2⟩ := own_some (m := 0) hO.out
      have hcm1 : wr.cell? ⟨g, 0, none⟩ = some (.bool t.emp) := by rw [hO.out.cellAt 0 (by simp)]; rfl
      clear hSA hO hF
      go_wp2
      go_ret
      exact ⟨rfl, hb⟩
end Go.Proofs.Ytadibjjjdbglaaa
