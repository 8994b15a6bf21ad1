/-
  Membership: the reference's table: the walk.
-/
import Derived.Test.YtgcggmlekmjpdaaTab
import Derived.Deep.QuietTactic
import Derived.BigQuiet
import Derived.Laws.MakeOwn
import Derived.WalkSmall
namespace Go.Proofs.Ytgcggmlekmjpdaa
open Go.RowKit
set_option linter.unusedVariables false
set_option maxRecDepth 100000

/-- What stands at a part: the trees before it, and the new one. -/
structure Shp (e : List Pt) (i : Nat) (k l : Int) (us : List Pt) (T : Ex) : Prop where
  good : T.good
  tk : us ++ T.flat = e.take (i + 1)
  shape : (pnI k l = 0 ∧ T = .leaf k l) ∨ (pnI k l = 1 ∧ (k = 7 ∨ k = 8) ∧ ∃ a : Ex, a.good ∧ T = .un k a ∧ us ++ a.flat = e.take i ∧ 0 < i) ∨
    (pnI k l = 2 ∧ (k = 4 ∨ k = 5 ∨ k = 6) ∧ ∃ a a2 : Ex, a.good ∧ a2.good ∧ T = .bin k a a2 ∧ (us ++ a.flat) ++ a2.flat = e.take i ∧ us ++ a.flat = e.take (us ++ a.flat).length ∧ 0 < (us ++ a.flat).length ∧ (us ++ a.flat).length < i)
theorem shp_at {e : List Pt} {i : Nat} {k l : Int} (hv : exprB e = true) (he : e[i]? = some (k, l)) : ∃ us T, Shp e i k l us T := by
  rw [exprB, Bool.and_eq_true, decide_eq_true_eq, decide_eq_true_eq] at hv
  obtain ⟨hlt, hei⟩ := List.getElem?_eq_some_iff.1 he
  obtain ⟨d, hd⟩ : ∃ d, runD (e.take i) 0 = some d := by
    have h := hv.2
    rw [← List.take_append_drop i e, runD_append] at h
    cases hq : runD (e.take i) 0 with
    | none => rw [hq] at h; cases h
    | some d => exact ⟨d, rfl⟩
  obtain ⟨ts, h1, h2, h3⟩ := run_trees (e.take i) [] (by simp) d (by simpa using hd)
  simp only [flats, List.nil_append] at h3
  have ht : e.take (i + 1) = e.take i ++ [(k, l)] := by rw [List.take_succ_eq_append_getElem hlt, hei]
  obtain ⟨s1, s2⟩ := runD_take_next he hd
  have hn : ¬(pnI k l < 0 ∨ d < pnI k l) := by intro h; rw [s1 h] at hv; cases hv.2
  have hil : (e.take i).length = i := by rw [List.length_take]; omega
  rcases kind_cases (k := k) (l := l) (by omega) with ⟨e0, hgd⟩ | ⟨e1, hk, hl⟩ | ⟨e2, hk, hl⟩
  · exact ⟨e.take i, .leaf k l, hgd, by rw [ht]; simp [Ex.flat], .inl ⟨e0, rfl⟩⟩
  · have hne : ts ≠ [] := by rintro rfl; simp at h1; omega
    obtain ⟨us, a, rfl⟩ : ∃ ts' t, ts = ts' ++ [t] := ⟨ts.dropLast, ts.getLast hne, (List.dropLast_concat_getLast hne).symm⟩
    have hfa : flats us ++ a.flat = e.take i := by rw [← h3, flats_append]; simp [flats]
    have hag := h2 a (by simp)
    have hp := Ex.sz_pos a
    refine ⟨flats us, .un k a, ⟨hk, hag⟩, by rw [ht, ← hfa, hl]; simp [Ex.flat], .inr (.inl ⟨e1, hk, a, hag, rfl, hfa, ?_⟩)⟩
    rw [← hil, ← hfa, List.length_append, Ex.flat_length]; omega
  · have hlen : 2 ≤ ts.length := by omega
    have hne : ts ≠ [] := by rintro rfl; simp at hlen
    obtain ⟨ts1, b, rfl⟩ : ∃ ts' t, ts = ts' ++ [t] := ⟨ts.dropLast, ts.getLast hne, (List.dropLast_concat_getLast hne).symm⟩
    have hne1 : ts1 ≠ [] := by rintro rfl; simp at hlen
    obtain ⟨us, a, rfl⟩ : ∃ ts' t, ts1 = ts' ++ [t] := ⟨ts1.dropLast, ts1.getLast hne1, (List.dropLast_concat_getLast hne1).symm⟩
    have hfa : (flats us ++ a.flat) ++ b.flat = e.take i := by rw [← h3, flats_append, flats_append]; simp [flats]
    have hag := h2 a (by simp)
    have hbg := h2 b (by simp)
    have hp := Ex.sz_pos a
    have hp2 := Ex.sz_pos b
    refine ⟨flats us, .bin k a b, ⟨hk, hag, hbg⟩, by rw [ht, ← hfa, hl]; simp [Ex.flat], .inr (.inr ⟨e2, hk, a, b, hag, hbg, rfl, hfa, ?_, ?_, ?_⟩)⟩
    · have h5 : (e.take i).take (flats us ++ a.flat).length = flats us ++ a.flat := by rw [← hfa]; exact List.take_left
      have h6 : (flats us ++ a.flat).length ≤ i := by
        have h7 := congrArg List.length hfa
        rw [hil, List.length_append] at h7
        omega
      rw [List.take_take, Nat.min_eq_left h6] at h5
      exact h5.symm
    · rw [List.length_append, Ex.flat_length]; omega
    · have h7 := congrArg List.length hfa
      have h8 := Ex.flat_length b
      rw [hil, List.length_append] at h7
      omega
/-- What the table's reading leaves. -/
def TabD (w : World) (n : Nat) (e : List Pt) (s : List UInt8) (r : Ending) (w' : World) : Prop := ∃ tv, r = .returned tv ∧ TabI w w' e s tv n
theorem bools_info : (Try.prog.info? 51).map (fun i => (i.zero, i.size, i.bytes)) = some (some (.slice none 0 0), 1, 24) := by kernel_rfl
theorem rows_info : (Try.prog.info? 52).map (fun i => (i.zero, i.size, i.bytes)) = some (some (.slice none 0 0), 1, 24) := by kernel_rfl
theorem bool_info : (Try.prog.info? 4).map (fun i => (i.zero, i.size, i.bytes)) = some (some (.bool false), 1, 1) := by kernel_rfl
theorem own_emptyT (W : World) (base : Nat) (t : TypeId) (hb : base ≤ W.heap.size) : (W.alloc (.cells #[] t)).ownsRow base t 1 (.slice (some ⟨W.heap.size, 0, none⟩) 0 0) 0 [] :=
  ⟨rfl, .inr ⟨W.heap.size, 0, #[], rfl, hb, heap_alloc_new W _, Nat.le_refl _, by simp [maxLen], rfl, rfl⟩⟩
/-! GENERATED -/
structure Opq2 (p : Prop) : Prop where
  out : p
theorem below_drewT {B : Nat} {w w' : World} (h : Below B w w') (k : Nat) : Below B w (w'.drewN k) := ⟨h.os, h.tape, h.output, h.size, h.block⟩
theorem own_uniq {w : World} {base n : Nat} {t : TypeId} {v : Value} {xs ys : List Value} (h : w.ownsRow base t 1 v n xs) (k : w.ownsRow base t 1 v n ys) : xs = ys := by
  have h1 := h.1
  have k1 := k.1
  rcases h.2 with ⟨rfl, hn⟩ | ⟨g, cap, cur, rfl, -, hg, -, -, -, ht⟩
  · subst hn
    exact (List.eq_nil_of_length_eq_zero (l := xs) (by omega)).trans (List.eq_nil_of_length_eq_zero (l := ys) (by omega)).symm
  · rcases k.2 with ⟨h0, _⟩ | ⟨g', cap', cur', e1, -, hg', -, -, -, kt⟩
    · cases h0
    · injection e1 with e1 _ _
      injection e1 with e1
      injection e1 with e1
      subst e1
      rw [hg] at hg'
      injection hg' with hg'
      injection hg' with hg'
      subst hg'
      rw [← ht, ← kt]
theorem TabI.row {w wr : World} {e : List Pt} {s : List UInt8} {tv : Value} {k : Nat} (h : TabI w wr e s tv k) : Below w.heap.size w wr ∧ ∃ vs, wr.ownsRow w.heap.size 52 1 tv k vs := by
  obtain ⟨vs, -, h1, h2, -⟩ := h; exact ⟨h2, vs, h1⟩
theorem cell_one_new2 (w : World) (o : Obj) (v : Value) (t : TypeId) : ∀ j u, [v][j]? = some u → ((w.alloc o).alloc (.cells #[v] t)).cell? ((⟨w.heap.size + 1, 0, none⟩ : Addr).add j) = some u := by
  have h := cell_one_new (w.alloc o) v t
  simpa using h
theorem TabI.at4 {w wr w4 : World} {e : List Pt} {s : List UInt8} {gt ct k m : Nat} (h : TabI w wr e s (.slice (some ⟨gt, 0, none⟩) k ct) k) (hb : Below wr.heap.size wr w4) (hm : m < k) {x : List Pt} {t : Ex} (ht : t.good) (hx : x ++ t.flat = e.take (m + 1)) {N : Nat} (hN : s.length + 1 = N) :
    ∃ g1 c1, w4.cell? ⟨gt, m, none⟩ = some (.slice (some ⟨g1, 0, none⟩) N c1) ∧ ∀ z, z ≤ s.length → ∃ q1 d1, w4.cell? ⟨g1, z, none⟩ = some (.slice (some ⟨q1, 0, none⟩) N d1) ∧ ∀ j, z ≤ j → j ≤ s.length → w4.cell? ⟨q1, j, none⟩ = some (.bool (t.sp s z j)) := by
  subst hN
  obtain ⟨gt', ct', v, P, e1, -, hg, hc, ⟨g1, c1, rfl, xg, hr⟩, hP⟩ := h.at hm ht hx
  injection e1 with e1 _ _
  injection e1 with e1
  injection e1 with e1
  subst e1
  refine ⟨g1, c1, (hb.cell (p := ⟨gt, m, none⟩) hg).trans hc, fun z hz => ?_⟩
  obtain ⟨q1, d1, h1, xq, h2⟩ := hr z hz
  exact ⟨q1, d1, (hb.cell (p := ⟨g1, z, none⟩) xg).trans h1, fun j hzj hj => ((hb.cell (p := ⟨q1, j, none⟩) xq).trans (h2 j hj)).trans (by rw [hP z j hzj hj])⟩
theorem rows_upd {P : Nat → Nat → Bool} {T : Ex} {L : List UInt8} {z j m : Nat} {v : Bool} (h : ∀ i j', (z + 1 ≤ i ∨ (i = z ∧ j' < j)) → i ≤ j' → j' ≤ m → P i j' = T.sp L i j') (hv : v = T.sp L z j) :
    ∀ i j', (z + 1 ≤ i ∨ (i = z ∧ j' < j + 1)) → i ≤ j' → j' ≤ m → (if i = z ∧ j' = j then v else P i j') = T.sp L i j' := by
  intro i j' h1 h2 h3
  by_cases e : i = z ∧ j' = j
  · obtain ⟨rfl, rfl⟩ := e
    simp [hv]
  · rw [if_neg e]; exact h i j' (by omega) h2 h3
theorem or_and (a b c : Bool) : (a || (b && c)) = true ↔ a = true ∨ (b = true ∧ c = true) := by cases a <;> cases b <;> cases c <;> simp
theorem exT {b : Bool} {p : Prop} (h : b = true ↔ p) (c : Bool) (k : c = true ↔ p) : b = c := by rw [Bool.eq_iff_iff, h, k]
set_option maxHeartbeats 8000000 in
theorem l3Table_any (w : World) (A : Option Addr) (n c : Nat) (e : List Pt) (s : ByteArray) (h : PS w w.heap.size A n e) (hn : n ≤ 60) (hv : exprB e = true) (hs : letsB s.data.toList = true) (h8 : s.size ≤ 8) :
    Calls Try.prog 39 #[.slice A n c, .string s] w (TabD w n e s.data.toList) := by
  obtain ⟨i0, hi0, hz0, hz1, hz2⟩ := info_parts bool_info
  obtain ⟨N, hN⟩ : ∃ N, s.size + 1 = N := ⟨_, rfl⟩
  have hmk0 := fun W => run_make_rowN (P := Try.prog) 51 4 i0 (.bool false) Try.underlying51 hi0 hz0 .i64 .i64 N N (Nat.le_refl _) (by rw [hz2]; omega) (by omega) W
  obtain ⟨C0, hC0⟩ : ∃ C0, madeCells (Value.bool false).cells (N * i0.size) = C0 := ⟨_, rfl⟩
  rw [hC0] at hmk0
  have HC0 : ∀ j, j ≤ s.size → C0[j]? = some (.bool false) := by
    intro j hj
    rw [← hC0, hz1]
    simp [madeCells, Value.cells, Nat.mod_one]
    exact ⟨j, by rw [Array.getElem?_eq_getElem (by simp; omega)]; simp⟩
  have HC := hide HC0
  have hmk := hmk0
  have hwN : IntKind.i64.wrap ((s.size : Int) + 1) = (N : Int) := by rw [show (s.size : Int) + 1 = (N : Int) by omega]; exact IntWalk.i64_in _ (by omega)
  have HL := Lib.hid h.1
  have HPS := hide h
  have HV := Lib.hid hv
  have HS := Lib.hid hs
  have HSL := Lib.hid (show s.data.toList.length = s.size by simp)
  have HN := Lib.hid hN
  clear h hv hs hi0 hz0 hz1 hz2 hmk0 hC0 HC0 hN
  go_enter Try.func39, Try.ntmps39
  go_wp2_with fail
  have HT0 := hide (TabI.start (e := e) (s := s.data.toList) ((by repeat (first | exact Below.refl _ _ | assumption | (refine Below.alloc ?_ (by first | omega | (simp; done) | (simp; omega)) _) | (refine Below.drew ?_) | (refine Below.trans ?_ (Below.mono (by assumption) (by first | omega | (simp; done) | (simp; omega)))))) : Below w.heap.size w (w.alloc (.cells #[] 52))) (own_emptyT w w.heap.size 52 (Nat.le_refl _)))
  go_loopw [6, 7] (fun tv kv wr => ∃ i : Nat, i ≤ n ∧ kv = .int .i64 i ∧ Hid (TabI w wr e s.data.toList tv i)) (fun _ kv _ => n - (intOf kv).toNat)
  case atStart => exact ⟨0, Nat.zero_le _, rfl, HT0⟩
  case round =>
    clear HT0
    obtain ⟨i, hi, rfl, HT⟩ := hrel
    by_cases hlt : i < n
    · obtain ⟨hTb, vs0, hTo⟩ := TabI.row (unhide HT)
      obtain ⟨b, off, kd, l, rfl, hbB, he, hc0, hc1⟩ := ((unhide HPS).below (Nat.le_refl _) hTb).at hlt
      have hz := hTb.size
      obtain ⟨us, T, hsh⟩ := shp_at HV.out he
      have HSH := hide hsh
      have hbw : b < wr.heap.size := by omega
      obtain ⟨SA, sc, hsv, hsc, hSA⟩ := own_shape hTo
      subst hsv
      have HTO : Opq2 (wr.ownsRow w.heap.size 52 1 (.slice SA i sc) i vs0) := ⟨hTo⟩
      clear hTo he
      have hi0' : (0 : Int) ≤ (i : Int) := by omega
      have hi1' : (i : Int) < (n : Int) := by omega
      have HT' := HT
      rcases hsh.shape with ⟨hp, hT⟩ | ⟨hp, hk, a, hag, hT, hta, hipos⟩ | ⟨hp, hk, a, a2, hag, hag2, hT, hta2, hta, hXpos, hXlt⟩
      · as_aux_lemma =>
          have hlf : ((kd = 1 ∨ kd = 2) ∧ l = 0) ∨ (kd = 3 ∧ 0 ≤ l ∧ l ≤ 2) := by have h := (unhide HSH).good; rw [hT] at h; exact h
          have hTO' : wr.ownsRow w.heap.size 52 1 (.slice SA i sc) i vs0 := HTO.out
          have hpn : ∀ W, Calls Try.prog 53 #[part kd l] W fun r w' => r = .returned (.int .i64 0) ∧ Below W.heap.size W w' := fun W => by have := specPartNeeds_any kd l W; rw [hp] at this; exact this
          go_wp2_with (first | (go_at_call 53; refine (hpn _).mono ?_; rintro r w1 ⟨rfl, hb1⟩))
          generalize hlo : wr.heap.size = lo at *
          have HLO : Opq2 (wr.heap.size = lo) := ⟨hlo⟩
          have W1B : Below lo wr (w1.alloc (.cells #[] 51)) := hb1.alloc (by have := hb1.size; omega) _
          have HR0 : RowsB (w1.alloc (.cells #[] 51)) lo s.size (.slice (some ⟨w1.heap.size, 0, none⟩) 0 0) 0 [] (fun _ => 0) := ⟨own_emptyT w1 lo _ (by have := hb1.size; omega), fun x hx => by omega, fun x hx => by omega, fun x y hx => by omega, fun x j hx => by omega⟩
          generalize hW1 : World.alloc _ _ = W1 at *
          have HR1 := hide HR0
          clear HR0 hW1
          go_loopw [10, 11] (fun rv iv w2 => ∃ (x : Nat) (vals : List Value) (q : Nat → Nat), x ≤ N ∧ iv = .int .i64 x ∧ Hid (RowsB w2 lo s.size rv x vals q) ∧ Below lo wr w2) (fun _ iv _ => N - (intOf iv).toNat)
          case atStart => exact ⟨0, [], _, Nat.zero_le _, rfl, HR1, W1B⟩
          case round =>
            rename World => w2
            clear HR1 W1B
            obtain ⟨x, vals, q, hx, rfl, HR, hb2⟩ := hrel
            by_cases hxn : x ≤ s.size
            · obtain ⟨i1, hi1, hy0, hy1, hy2⟩ := info_parts bools_info
              obtain ⟨RA, rc, hrv, hrc, hRA⟩ := own_shape (unhide HR).own
              subst hrv
              have hz2 : lo ≤ w2.heap.size := by have := hb2.size; have := HLO.out; omega
              have hxi : ((x : Nat) : Int) ≤ (s.size : Int) := by omega
              have HU := hide hi1
              clear hi1
              go_wp2_with (at_builtin; go_must (refine wpList_append_own_at _ rfl (.tmp 47) (.tmp 51) 52 rfl lo 51 i1 (.slice none 0 0) 1 24 Try.underlying52 (unhide HU) hy0 hy1 hy2 rfl (by decide) (.slice RA x rc) x vals rfl (((unhide HR).own.alloc _).alloc _) ⟨w2.heap.size + 1, 0, none⟩ 1 1 [.slice (some ⟨w2.heap.size, 0, none⟩) N N] rfl rfl (cell_one_new2 _ _ _ _) (by simp [Value.oneCell']) (by unfold maxLen; omega) (by omega) (by simp; omega) ?_); go_must (intro v9 w9 hown9 hgrow9 _ hat9))
              have HR9 := hide (RowsB.next (unhide HR) (unhide HC) hz2 (by rw [HN.out]; exact hown9) hgrow9 hat9)
              have hb9 : Below lo wr w9 := ((hb2.alloc hz2 _).alloc (by simp; omega) _).grown hgrow9 (by simp; omega) (fun b hb => ((unhide HR).own.lt b hb).1)
              go_roundw
              case rel => exact ⟨x + 1, _, _, by have := HN.out; omega, by go_num, HR9, hb9⟩
              case measure => have := HN.out; simp [intOf]; omega
            · obtain rfl : x = N := by have := HN.out; omega
              have hx1 : ¬ ((x : Nat) : Int) ≤ (s.size : Int) := by omega
              obtain ⟨g, cg, hgv, hcg, HO⟩ := RowsB.full (n := s.size) (by have h := unhide HR; rw [← HN.out] at h; exact h)
              rw [HN.out] at hgv hcg
              subst hgv
              have HO0 := hide HO
              clear HO HR
              go_wp2
              go_loopw [12] (fun iv w3 => ∃ (y : Nat) (P : Nat → Nat → Bool), y ≤ x ∧ iv = .int .i64 ((y : Int) - 1) ∧ Hid (RowsO w3 lo g s.size q P) ∧ Hid (∀ i j, y ≤ i → i ≤ j → j ≤ s.size → P i j = T.sp s.data.toList i j) ∧ Below lo wr w3) (fun iv _ => (intOf iv + 1).toNat)
              case atStart => exact ⟨x, _, Nat.le_refl _, by rw [← HN.out]; simp, HO0, hide (fun i j h1 h2 h3 => by have := HN.out; omega), hb2⟩
              case round =>
                rename World => w3
                clear HO0 hb2
                obtain ⟨y, P, hy, rfl, HO3, HP3, hb3⟩ := hrel
                by_cases hy0 : y = 0
                · subst hy0
                  have hneg : ¬ (0 : Int) ≤ ((0 : Nat) : Int) - 1 := by omega
                  obtain ⟨i2, hi2, hy0, hy1, hy2⟩ := info_parts rows_info
                  have HU := hide hi2
                  have hz3 : lo ≤ w3.heap.size := by have := hb3.size; have := HLO.out; omega
                  have hlo := HLO.out
                  clear hi2
                  go_wp2_with (at_builtin; go_must (refine wpList_append_own_at _ rfl (.tmp 228) (.tmp 230) 53 rfl w.heap.size 52 i2 (.slice none 0 0) 1 24 Try.underlying53 (unhide HU) hy0 hy1 hy2 rfl (by decide) (.slice SA i sc) i vs0 rfl ((own_keep hTO' (by rw [hlo]; exact hb3)).alloc _) ⟨w3.heap.size, 0, none⟩ 1 1 [.slice (some ⟨g, 0, none⟩) x cg] rfl rfl (cell_one_new _ _ _) (by simp [Value.oneCell']) (by unfold maxLen; omega) (by omega) (by simp; omega) ?_); go_must (intro v9 w9 hown9 hgrow9 _ hat9))
                  have HT9 : Hid (TabI w w9 e s.data.toList v9 (i + 1)) := hide (TabI.next (c := cg) (P := P) (unhide HT) (by rw [hlo]; exact hb3) (by rw [hlo]; have h := unhide HO3; rw [← HSL.out] at h; exact h) hgrow9 hat9 (fun vs hvl hvo => by
                      obtain rfl : vs = vs0 := own_uniq hvo hTO'
                      rw [HSL.out, HN.out]; exact hown9) (unhide HSH).good (unhide HSH).tk (fun i j h1 h2 => unhide HP3 i j (Nat.zero_le _) h1 (by rw [← HSL.out]; exact h2)))
                  go_roundw
                  case rel => exact ⟨i + 1, by omega, by go_num, HT9⟩
                  case measure => simp [intOf]; omega
                · obtain ⟨z, rfl⟩ : ∃ z, y = z + 1 := ⟨y - 1, by omega⟩
                  rw [show ((z + 1 : Nat) : Int) - 1 = (z : Int) by omega]
                  have hz0 : (0 : Int) ≤ (z : Int) := by omega
                  have hzN : z ≤ s.size := by have := HN.out; omega
                  go_wp2
                  go_loopw [13] (fun jv w4 => ∃ (j : Nat) (P : Nat → Nat → Bool), z ≤ j ∧ j ≤ x ∧ jv = .int .i64 j ∧ Hid (RowsO w4 lo g s.size q P) ∧ Hid (∀ i j', (z + 1 ≤ i ∨ (i = z ∧ j' < j)) → i ≤ j' → j' ≤ s.size → P i j' = T.sp s.data.toList i j') ∧ Below lo wr w4) (fun jv _ => x - (intOf jv).toNat)
                  case atStart => exact ⟨z, P, Nat.le_refl _, by omega, rfl, HO3, hide (fun i j' h1 h2 h3 => unhide HP3 i j' (by omega) h2 h3), hb3⟩
                  case round =>
                    rename World => w4
                    clear HO3 HP3 hb3
                    obtain ⟨j, P, hzj, hj, rfl, HO4, HP4, hb4⟩ := hrel
                    by_cases hjn : j ≤ s.size
                    · have hji : (j : Int) ≤ (s.size : Int) := by omega
                      have hj0 : (0 : Int) ≤ (j : Int) := by omega
                      have hjx : (j : Int) < (x : Int) := by have := HN.out; omega
                      have hzx : (z : Int) < (x : Int) := by have := HN.out; omega
                      have hzw : IntKind.i64.wrap (z : Int) = (z : Int) := IntWalk.i64_in _ (by omega)
                      have k0 : w4.cell? ⟨b, off + i * 2, none⟩ = some (.int .i64 kd) := (hb4.cell (p := ⟨b, off + i * 2, none⟩) (by show b < lo; omega)).trans hc0
                      have k1 : w4.cell? ⟨b, off + i * 2 + 1, none⟩ = some (.int .i64 l) := (hb4.cell (p := ⟨b, off + i * 2 + 1, none⟩) (by show b < lo; omega)).trans hc1
                      have d1 := (unhide HO4).c1 z hzN
                      rw [HN.out] at d1
                      obtain ⟨d2, d3⟩ := (unhide HO4).c2 z j hzN hjn
                      have hcgI : (x : Int) ≤ (cg : Int) := by omega
                      rcases hlf with ⟨rfl | rfl, rfl⟩ | ⟨rfl, l0, l2⟩
                      · as_aux_lemma =>
                          go_wp2
                          go_roundw
                          case rel => exact ⟨j + 1, _, by omega, by omega, by go_num, hide (RowsO.set (unhide HO4) hzN hjn false), hide (rows_upd (unhide HP4) (by rw [hT]; simp [Ex.sp])), (hb4).setCell (((unhide HO4).q1 z hzN).1) _⟩
                          case measure => simp [intOf]; omega
                      · as_aux_lemma =>
                          rcases hzjE : ((z : Int) == (j : Int))
                          · go_wp2
                            go_roundw
                            case rel => exact ⟨j + 1, _, by omega, by omega, by go_num, hide (RowsO.set (unhide HO4) hzN hjn false), hide (rows_upd (unhide HP4) (by rw [hT]; simp at hzjE; simp [Ex.sp]; omega)), (hb4).setCell (((unhide HO4).q1 z hzN).1) _⟩
                            case measure => simp [intOf]; omega
                          · go_wp2
                            go_roundw
                            case rel => exact ⟨j + 1, _, by omega, by omega, by go_num, hide (RowsO.set (unhide HO4) hzN hjn true), hide (rows_upd (unhide HP4) (by rw [hT]; simp at hzjE; simp [Ex.sp]; omega)), (hb4).setCell (((unhide HO4).q1 z hzN).1) _⟩
                            case measure => simp [intOf]; omega
                      · as_aux_lemma =>
                          have d1' : ∀ k, (w4.drewN k).cell? ⟨g, z, none⟩ = some (.slice (some ⟨q z, 0, none⟩) x x) := fun _ => d1
                          have d2' : ∀ k, (w4.drewN k).cell? ⟨q z, j, none⟩ = some (.bool (P z j)) := fun _ => d2
                          have d3' : ∀ k, (w4.drewN k).frozen? ⟨q z, j, none⟩ = false := fun _ => d3
                          have hzw2 : IntKind.i64.wrap ((z : Int) + 1) = (z : Int) + 1 := IntWalk.i64_in _ (by omega)
                          by_cases hjz : j = z + 1
                          · have hzs : z < s.size := by omega
                            have hbz := byte_lt s[z]
                            obtain ⟨hl1, hl2⟩ := inB_true.1 (show inB (s[z].toNat : Int) 97 99 = true by
                              have h := HS.out
                              rw [letsB, List.all_eq_true] at h
                              exact h _ (by rw [show s[z] = s.data.toList[z]'(by simpa using hzs) from rfl]; exact List.getElem_mem _))
                            have hla : Opq2 (letAt s.data.toList z l = ((s[z].toNat : Int) - 97 == l)) := ⟨by rw [letAt, List.getElem?_eq_getElem (by simpa using hzs)]; rfl⟩
                            have hjz' : ((j : Int) == (z : Int) + 1) = true := by simp; omega
                            have HJZ : Opq2 (j = z + 1) := ⟨hjz⟩
                            clear hjz
                            rcases hlq : ((s[z].toNat : Int) - 97 == l)
                            · rw [hlq] at hla
                              go_wp2
                              go_quiet (fail)
                              go_wp2
                              go_roundw
                              case rel => exact ⟨j + 1, _, by omega, by omega, by go_num, hide (RowsO.set ((unhide HO4).drewN _) hzN hjn false), hide (rows_upd (unhide HP4) (by rw [hT]; simp [Ex.sp, hla.out])), (below_drewT hb4 _).setCell (((unhide HO4).q1 z hzN).1) _⟩
                              case measure => simp [intOf]; omega
                            · rw [hlq] at hla
                              go_wp2
                              go_quiet (fail)
                              go_wp2
                              go_roundw
                              case rel => exact ⟨j + 1, _, by omega, by omega, by go_num, hide (RowsO.set ((unhide HO4).drewN _) hzN hjn true), hide (rows_upd (unhide HP4) (by rw [hT]; simp [Ex.sp, hla.out, HJZ.out])), (below_drewT hb4 _).setCell (((unhide HO4).q1 z hzN).1) _⟩
                              case measure => simp [intOf]; omega
                          · have hjz' : ((j : Int) == (z : Int) + 1) = false := by simp; omega
                            go_wp2
                            go_quiet (fail)
                            go_wp2
                            go_roundw
                            case rel => exact ⟨j + 1, _, by omega, by omega, by go_num, hide (RowsO.set ((unhide HO4).drewN _) hzN hjn false), hide (rows_upd (unhide HP4) (by rw [hT]; simp [Ex.sp, hjz])), (below_drewT hb4 _).setCell (((unhide HO4).q1 z hzN).1) _⟩
                            case measure => simp [intOf]; omega
                    · obtain rfl : j = x := by have := HN.out; omega
                      have hji : ¬ (j : Int) ≤ (s.size : Int) := by have := HN.out; omega
                      have hx2 : z < j := by have := HN.out; omega
                      have hzw1 : IntKind.i64.wrap ((z : Int) - 1) = (z : Int) - 1 := IntWalk.i64_in _ (by omega)
                      go_wp2
                      go_roundw
                      case rel => exact ⟨z, P, by omega, rfl, HO4, hide (fun i j' h1 h2 h3 => unhide HP4 i j' (by omega) h2 h3), hb4⟩
                      case measure => (simp [intOf]; try omega)
      · as_aux_lemma =>
          skip
          have hTO' : wr.ownsRow w.heap.size 52 1 (.slice SA i sc) i vs0 := HTO.out
          obtain ⟨gt, hSg⟩ := hSA hipos
          subst hSg
          obtain ⟨ia, hia⟩ : ∃ ia, i = ia + 1 := ⟨i - 1, by omega⟩
          have hwi : IntKind.i64.wrap ((i : Int) - 1) = (ia : Int) := by rw [show (i : Int) - 1 = (ia : Int) by omega]; exact IntWalk.i64_in _ (by omega)
          have hiw : IntKind.i64.wrap (ia : Int) = (ia : Int) := IntWalk.i64_in _ (by omega)
          have hia0 : (0 : Int) ≤ (ia : Int) := by omega
          have hia1 : (ia : Int) < (i : Int) := by omega
          rw [hia] at hta
          have HIA1 := Lib.hid hia
          clear hia
          have hpn : ∀ W, Calls Try.prog 53 #[part kd l] W fun r w' => r = .returned (.int .i64 1) ∧ Below W.heap.size W w' := fun W => by have := specPartNeeds_any kd l W; rw [hp] at this; exact this
          go_wp2_with (first | (go_at_call 53; refine (hpn _).mono ?_; rintro r w1 ⟨rfl, hb1⟩))
          generalize hlo : wr.heap.size = lo at *
          have HLO : Opq2 (wr.heap.size = lo) := ⟨hlo⟩
          have W1B : Below lo wr (w1.alloc (.cells #[] 51)) := hb1.alloc (by have := hb1.size; omega) _
          have HR0 : RowsB (w1.alloc (.cells #[] 51)) lo s.size (.slice (some ⟨w1.heap.size, 0, none⟩) 0 0) 0 [] (fun _ => 0) := ⟨own_emptyT w1 lo _ (by have := hb1.size; omega), fun x hx => by omega, fun x hx => by omega, fun x y hx => by omega, fun x j hx => by omega⟩
          generalize hW1 : World.alloc _ _ = W1 at *
          have HR1 := hide HR0
          clear HR0 hW1
          go_loopw [10, 11] (fun rv iv w2 => ∃ (x : Nat) (vals : List Value) (q : Nat → Nat), x ≤ N ∧ iv = .int .i64 x ∧ Hid (RowsB w2 lo s.size rv x vals q) ∧ Below lo wr w2) (fun _ iv _ => N - (intOf iv).toNat)
          case atStart => exact ⟨0, [], _, Nat.zero_le _, rfl, HR1, W1B⟩
          case round =>
            rename World => w2
            clear HR1 W1B
            obtain ⟨x, vals, q, hx, rfl, HR, hb2⟩ := hrel
            by_cases hxn : x ≤ s.size
            · obtain ⟨i1, hi1, hy0, hy1, hy2⟩ := info_parts bools_info
              obtain ⟨RA, rc, hrv, hrc, hRA⟩ := own_shape (unhide HR).own
              subst hrv
              have hz2 : lo ≤ w2.heap.size := by have := hb2.size; have := HLO.out; omega
              have hxi : ((x : Nat) : Int) ≤ (s.size : Int) := by omega
              have HU := hide hi1
              clear hi1
              go_wp2_with (at_builtin; go_must (refine wpList_append_own_at _ rfl (.tmp 47) (.tmp 51) 52 rfl lo 51 i1 (.slice none 0 0) 1 24 Try.underlying52 (unhide HU) hy0 hy1 hy2 rfl (by decide) (.slice RA x rc) x vals rfl (((unhide HR).own.alloc _).alloc _) ⟨w2.heap.size + 1, 0, none⟩ 1 1 [.slice (some ⟨w2.heap.size, 0, none⟩) N N] rfl rfl (cell_one_new2 _ _ _ _) (by simp [Value.oneCell']) (by unfold maxLen; omega) (by omega) (by simp; omega) ?_); go_must (intro v9 w9 hown9 hgrow9 _ hat9))
              have HR9 := hide (RowsB.next (unhide HR) (unhide HC) hz2 (by rw [HN.out]; exact hown9) hgrow9 hat9)
              have hb9 : Below lo wr w9 := ((hb2.alloc hz2 _).alloc (by simp; omega) _).grown hgrow9 (by simp; omega) (fun b hb => ((unhide HR).own.lt b hb).1)
              go_roundw
              case rel => exact ⟨x + 1, _, _, by have := HN.out; omega, by go_num, HR9, hb9⟩
              case measure => have := HN.out; simp [intOf]; omega
            · obtain rfl : x = N := by have := HN.out; omega
              have hx1 : ¬ ((x : Nat) : Int) ≤ (s.size : Int) := by omega
              obtain ⟨g, cg, hgv, hcg, HO⟩ := RowsB.full (n := s.size) (by have h := unhide HR; rw [← HN.out] at h; exact h)
              rw [HN.out] at hgv hcg
              subst hgv
              have HO0 := hide HO
              clear HO HR
              go_wp2
              go_loopw [12] (fun iv w3 => ∃ (y : Nat) (P : Nat → Nat → Bool), y ≤ x ∧ iv = .int .i64 ((y : Int) - 1) ∧ Hid (RowsO w3 lo g s.size q P) ∧ Hid (∀ i j, y ≤ i → i ≤ j → j ≤ s.size → P i j = T.sp s.data.toList i j) ∧ Below lo wr w3) (fun iv _ => (intOf iv + 1).toNat)
              case atStart => exact ⟨x, _, Nat.le_refl _, by rw [← HN.out]; simp, HO0, hide (fun i j h1 h2 h3 => by have := HN.out; omega), hb2⟩
              case round =>
                rename World => w3
                clear HO0 hb2
                obtain ⟨y, P, hy, rfl, HO3, HP3, hb3⟩ := hrel
                by_cases hy0 : y = 0
                · subst hy0
                  have hneg : ¬ (0 : Int) ≤ ((0 : Nat) : Int) - 1 := by omega
                  obtain ⟨i2, hi2, hy0, hy1, hy2⟩ := info_parts rows_info
                  have HU := hide hi2
                  have hz3 : lo ≤ w3.heap.size := by have := hb3.size; have := HLO.out; omega
                  have hlo := HLO.out
                  clear hi2
                  go_wp2_with (at_builtin; go_must (refine wpList_append_own_at _ rfl (.tmp 228) (.tmp 230) 53 rfl w.heap.size 52 i2 (.slice none 0 0) 1 24 Try.underlying53 (unhide HU) hy0 hy1 hy2 rfl (by decide) (.slice (some ⟨gt, 0, none⟩) i sc) i vs0 rfl ((own_keep hTO' (by rw [hlo]; exact hb3)).alloc _) ⟨w3.heap.size, 0, none⟩ 1 1 [.slice (some ⟨g, 0, none⟩) x cg] rfl rfl (cell_one_new _ _ _) (by simp [Value.oneCell']) (by unfold maxLen; omega) (by omega) (by simp; omega) ?_); go_must (intro v9 w9 hown9 hgrow9 _ hat9))
                  have HT9 : Hid (TabI w w9 e s.data.toList v9 (i + 1)) := hide (TabI.next (c := cg) (P := P) (unhide HT) (by rw [hlo]; exact hb3) (by rw [hlo]; have h := unhide HO3; rw [← HSL.out] at h; exact h) hgrow9 hat9 (fun vs hvl hvo => by
                      obtain rfl : vs = vs0 := own_uniq hvo hTO'
                      rw [HSL.out, HN.out]; exact hown9) (unhide HSH).good (unhide HSH).tk (fun i j h1 h2 => unhide HP3 i j (Nat.zero_le _) h1 (by rw [← HSL.out]; exact h2)))
                  go_roundw
                  case rel => exact ⟨i + 1, by omega, by go_num, HT9⟩
                  case measure => simp [intOf]; omega
                · obtain ⟨z, rfl⟩ : ∃ z, y = z + 1 := ⟨y - 1, by omega⟩
                  rw [show ((z + 1 : Nat) : Int) - 1 = (z : Int) by omega]
                  have hz0 : (0 : Int) ≤ (z : Int) := by omega
                  have hzN : z ≤ s.size := by have := HN.out; omega
                  go_wp2
                  go_loopw [13] (fun jv w4 => ∃ (j : Nat) (P : Nat → Nat → Bool), z ≤ j ∧ j ≤ x ∧ jv = .int .i64 j ∧ Hid (RowsO w4 lo g s.size q P) ∧ Hid (∀ i j', (z + 1 ≤ i ∨ (i = z ∧ j' < j)) → i ≤ j' → j' ≤ s.size → P i j' = T.sp s.data.toList i j') ∧ Below lo wr w4) (fun jv _ => x - (intOf jv).toNat)
                  case atStart => exact ⟨z, P, Nat.le_refl _, by omega, rfl, HO3, hide (fun i j' h1 h2 h3 => unhide HP3 i j' (by omega) h2 h3), hb3⟩
                  case round =>
                    rename World => w4
                    clear HO3 HP3 hb3
                    obtain ⟨j, P, hzj, hj, rfl, HO4, HP4, hb4⟩ := hrel
                    by_cases hjn : j ≤ s.size
                    · have hji : (j : Int) ≤ (s.size : Int) := by omega
                      have hj0 : (0 : Int) ≤ (j : Int) := by omega
                      have hjx : (j : Int) < (x : Int) := by have := HN.out; omega
                      have hzx : (z : Int) < (x : Int) := by have := HN.out; omega
                      have hzw : IntKind.i64.wrap (z : Int) = (z : Int) := IntWalk.i64_in _ (by omega)
                      have k0 : w4.cell? ⟨b, off + i * 2, none⟩ = some (.int .i64 kd) := (hb4.cell (p := ⟨b, off + i * 2, none⟩) (by show b < lo; omega)).trans hc0
                      have k1 : w4.cell? ⟨b, off + i * 2 + 1, none⟩ = some (.int .i64 l) := (hb4.cell (p := ⟨b, off + i * 2 + 1, none⟩) (by show b < lo; omega)).trans hc1
                      have d1 := (unhide HO4).c1 z hzN
                      rw [HN.out] at d1
                      obtain ⟨d2, d3⟩ := (unhide HO4).c2 z j hzN hjn
                      have hcgI : (x : Int) ≤ (cg : Int) := by omega
                      rcases hk with rfl | rfl
                      · as_aux_lemma =>
                          obtain ⟨g1, e1, r1, rr⟩ := TabI.at4 (unhide HT) (by rw [HLO.out]; exact hb4) (by omega) hag hta (show s.data.toList.length + 1 = x by rw [HSL.out]; exact HN.out)
                          obtain ⟨q1, d4, r2, r3⟩ := rr z (by rw [HSL.out]; exact hzN)
                          clear rr
                          have r4 := r3 j hzj (by rw [HSL.out]; exact hjn)
                          clear r3
                          rcases hv4 : a.sp s.data.toList z j
                          · rw [hv4] at r4
                            go_wp2
                            go_roundw
                            case rel => exact ⟨j + 1, _, by omega, by omega, by go_num, hide (RowsO.set (unhide HO4) hzN hjn true), hide (rows_upd (unhide HP4) (by rw [hT]; simp [Ex.sp, hv4])), (hb4).setCell (((unhide HO4).q1 z hzN).1) _⟩
                            case measure => simp [intOf]; omega
                          · rw [hv4] at r4
                            go_wp2
                            go_roundw
                            case rel => exact ⟨j + 1, _, by omega, by omega, by go_num, hide (RowsO.set (unhide HO4) hzN hjn false), hide (rows_upd (unhide HP4) (by rw [hT]; simp [Ex.sp, hv4])), (hb4).setCell (((unhide HO4).q1 z hzN).1) _⟩
                            case measure => simp [intOf]; omega
                      · as_aux_lemma =>
                          obtain ⟨g1, e1, r1, rr⟩ := TabI.at4 (unhide HT) (by rw [HLO.out]; exact hb4) (by omega) hag hta (show s.data.toList.length + 1 = x by rw [HSL.out]; exact HN.out)
                          obtain ⟨q1, d4, r2, r3⟩ := rr z (by rw [HSL.out]; exact hzN)
                          clear rr
                          have hzw1 : IntKind.i64.wrap ((z : Int) + 1) = ((z + 1 : Nat) : Int) := by rw [show (z : Int) + 1 = ((z + 1 : Nat) : Int) by omega]; exact IntWalk.i64_in _ (by omega)
                          obtain ⟨z1, hz1⟩ : ∃ z1, z + 1 = z1 := ⟨_, rfl⟩
                          rw [hz1] at hzw1
                          have HZ1 : Opq2 (z + 1 = z1) := ⟨hz1⟩
                          obtain ⟨y0, hy0⟩ : ∃ y0, ((z : Int) == (j : Int)) = y0 := ⟨_, rfl⟩
                          have HY0 : Opq2 (((z : Int) == (j : Int)) = y0) := ⟨hy0⟩
                          have R3 := hide r3
                          clear r3 hz1
                          go_wp2
                          go_loop [14, 16] (fun yv mv => ∃ (mm : Nat) (yb : Bool), z1 ≤ mm ∧ mm ≤ j + 1 + z1 ∧ mv = .int .i64 mm ∧ yv = .bool yb ∧ Hid (yb = true ↔ (z = j ∨ ∃ m', z < m' ∧ m' < mm ∧ m' ≤ j ∧ a.sp s.data.toList z m' = true ∧ starN (a.sp s.data.toList) s.data.toList.length m' j = true))) (fun _ mv => j + 1 + z1 - (intOf mv).toNat)
                          case atStart => exact ⟨z1, y0, Nat.le_refl _, by omega, rfl, by first | rfl | rw [hy0], hide (by have h0 := HY0.out; have h1 := HZ1.out; rw [← h0]; constructor; (intro h; left; simp at h; omega); (rintro (rfl | ⟨m', h2, h3, -⟩); simp; omega))⟩
                          case round =>
                            obtain ⟨mm, yb, hm1, hm2, rfl, rfl, HY⟩ := hrel
                            by_cases hmj : mm ≤ j
                            · have hmji : (mm : Int) ≤ (j : Int) := by omega
                              have hm0 : (0 : Int) ≤ (mm : Int) := by omega
                              have hmx : (mm : Int) < (x : Int) := by omega
                              have r5 := unhide R3 mm (by have := HZ1.out; omega) (by rw [HSL.out]; omega)
                              have u1 := (unhide HO4).c1 mm (by omega)
                              rw [HN.out] at u1
                              obtain ⟨u2, -⟩ := (unhide HO4).c2 mm j (by omega) hjn
                              have hPm := unhide HP4 mm j (.inl (by have := HZ1.out; omega)) hmj hjn
                              rw [hPm, hT] at u2
                              have hsp : (Ex.un 8 a).sp s.data.toList mm j = starN (a.sp s.data.toList) s.data.toList.length mm j := by simp [Ex.sp]
                              rw [hsp] at u2
                              clear hPm hsp
                              have hnx : ∀ b : Bool, (b = true ↔ (yb = true ∨ (a.sp s.data.toList z mm = true ∧ starN (a.sp s.data.toList) s.data.toList.length mm j = true))) → (b = true ↔ (z = j ∨ ∃ m', z < m' ∧ m' < mm + 1 ∧ m' ≤ j ∧ a.sp s.data.toList z m' = true ∧ starN (a.sp s.data.toList) s.data.toList.length m' j = true)) := by
                                intro b hb
                                rw [hb, HY.out]
                                have := HZ1.out
                                constructor
                                · rintro ((h | ⟨m', h1, h2, h3, h4⟩) | ⟨h1, h2⟩)
                                  · exact .inl h
                                  · exact .inr ⟨m', h1, by omega, h3, h4⟩
                                  · exact .inr ⟨mm, by omega, by omega, hmj, h1, h2⟩
                                · rintro (h | ⟨m', h1, h2, h3, h4, h5⟩)
                                  · exact .inl (.inl h)
                                  · by_cases e : m' = mm
                                    · subst e; exact .inr ⟨h4, h5⟩
                                    · exact .inl (.inr ⟨m', h1, by omega, h3, h4, h5⟩)
                              have HNX := hide hnx
                              clear hnx
                              generalize a.sp s.data.toList z mm = v1 at *
                              generalize starN (a.sp s.data.toList) s.data.toList.length mm j = v2 at *
                              cases yb
                              · cases v1
                                · go_wp2
                                  go_round
                                  case rel => exact ⟨mm + 1, false, by omega, by omega, by go_num, rfl, hide (unhide HNX false (by simp))⟩
                                  case measure => simp [intOf]; omega
                                · cases v2
                                  · go_wp2
                                    go_round
                                    case rel => exact ⟨mm + 1, false, by omega, by omega, by go_num, rfl, hide (unhide HNX false (by simp))⟩
                                    case measure => simp [intOf]; omega
                                  · go_wp2
                                    go_round
                                    case rel => exact ⟨mm + 1, true, by omega, by omega, by go_num, rfl, hide (unhide HNX true (by simp))⟩
                                    case measure => simp [intOf]; omega
                              · go_wp2
                                go_round
                                case rel => exact ⟨mm + 1, true, by omega, by omega, by go_num, rfl, hide (unhide HNX true (by simp))⟩
                                case measure => simp [intOf]; omega
                            · have hmji : ¬ (mm : Int) ≤ (j : Int) := by omega
                              have hfin : yb = (Ex.un 8 a).sp s.data.toList z j := by
                                have hs := starN_left (s := s.data.toList) (f := a.sp s.data.toList) (P := a.L) (fun i j h1 h2 => Ex.sp_iff s.data.toList a i j h1 h2) z j hzj (by rw [HSL.out]; exact hjn)
                                rw [Bool.eq_iff_iff, HY.out, show (Ex.un 8 a).sp s.data.toList z j = starN (a.sp s.data.toList) s.data.toList.length z j by simp [Ex.sp], hs]
                                constructor
                                · rintro (h | ⟨m', h1, h2, h3, h4, h5⟩)
                                  · exact .inl h
                                  · exact .inr ⟨m', h1, h3, h4, h5⟩
                                · rintro (h | ⟨m', h1, h3, h4, h5⟩)
                                  · exact .inl h
                                  · exact .inr ⟨m', h1, by omega, h3, h4, h5⟩
                              have HFIN : Opq2 (yb = (Ex.un 8 a).sp s.data.toList z j) := ⟨hfin⟩
                              clear hfin
                              go_wp2
                              go_roundw
                              case rel => exact ⟨j + 1, _, by omega, by omega, by go_num, hide (RowsO.set (unhide HO4) hzN hjn yb), hide (rows_upd (unhide HP4) (by rw [hT]; exact HFIN.out)), (hb4).setCell (((unhide HO4).q1 z hzN).1) _⟩
                              case measure => simp [intOf]; omega
                    · obtain rfl : j = x := by have := HN.out; omega
                      have hji : ¬ (j : Int) ≤ (s.size : Int) := by have := HN.out; omega
                      have hx2 : z < j := by have := HN.out; omega
                      have hzw1 : IntKind.i64.wrap ((z : Int) - 1) = (z : Int) - 1 := IntWalk.i64_in _ (by omega)
                      go_wp2
                      go_roundw
                      case rel => exact ⟨z, P, by omega, rfl, HO4, hide (fun i j' h1 h2 h3 => unhide HP4 i j' (by omega) h2 h3), hb4⟩
                      case measure => (simp [intOf]; try omega)
      · as_aux_lemma =>
          skip
          have hTO' : wr.ownsRow w.heap.size 52 1 (.slice SA i sc) i vs0 := HTO.out
          obtain ⟨gt, hSg⟩ := hSA (by omega)
          subst hSg
          obtain ⟨ib, hib⟩ : ∃ ib, i = ib + 1 := ⟨i - 1, by omega⟩
          obtain ⟨ia, hia⟩ : ∃ ia, (us ++ a.flat).length = ia + 1 := ⟨(us ++ a.flat).length - 1, by omega⟩
          have hls : ∀ W, Below w.heap.size w W → Calls Try.prog 60 #[.slice (some ⟨b, off, none⟩) n c, .int .i64 (ib : Int)] W fun r w' => r = .returned (.int .i64 ((ia : Int) + 1)) ∧ Below W.heap.size W w' := fun W hW => by
            have hee : (us ++ a.flat) ++ a2.flat ++ e.drop i = e := by rw [hta2]; exact List.take_append_drop i e
            have hps := (unhide HPS).up hW
            rw [← hee] at hps
            have hlen := congrArg List.length hta2
            rw [List.length_append, Ex.flat_length, List.length_take, Nat.min_eq_left (by have := HL.out; omega)] at hlen
            have hap := Ex.sz_pos a2
            have h := l2Start_any W _ n c (us ++ a.flat) (e.drop i) a2 ib hag2 hps (by omega) (by omega)
            rw [hia] at h
            have e1 : (((ia + 1 : Nat)) : Int) = (ia : Int) + 1 := by omega
            rw [e1] at h
            exact h
          have hwb : IntKind.i64.wrap ((i : Int) - 1) = (ib : Int) := by rw [show (i : Int) - 1 = (ib : Int) by omega]; exact IntWalk.i64_in _ (by omega)
          have hwa : IntKind.i64.wrap ((ia : Int) + 1 - 1) = (ia : Int) := by rw [show (ia : Int) + 1 - 1 = (ia : Int) by omega]; exact IntWalk.i64_in _ (by omega)
          have hwa' : (ia : Int) + 1 - 1 = (ia : Int) := by omega
          have hbw2 : IntKind.i64.wrap (ib : Int) = (ib : Int) := IntWalk.i64_in _ (by omega)
          have haw2 : IntKind.i64.wrap (ia : Int) = (ia : Int) := IntWalk.i64_in _ (by omega)
          have hia0 : (0 : Int) ≤ (ia : Int) := by omega
          have hia1 : (ia : Int) < (i : Int) := by omega
          have hib0 : (0 : Int) ≤ (ib : Int) := by omega
          have hib1 : (ib : Int) < (i : Int) := by omega
          have HIA : Opq2 (us ++ a.flat = e.take (ia + 1)) := ⟨by rw [← hia]; exact hta⟩
          have HIB : Opq2 ((us ++ a.flat) ++ a2.flat = e.take (ib + 1)) := ⟨by rw [← hib]; exact hta2⟩
          have HLS := hide hls
          have HTB : Opq2 (Below w.heap.size w wr) := ⟨hTb⟩
          have HIB1 := Lib.hid hib
          clear hta hta2 hia hib hls
          have hpn : ∀ W, Calls Try.prog 53 #[part kd l] W fun r w' => r = .returned (.int .i64 2) ∧ Below W.heap.size W w' := fun W => by have := specPartNeeds_any kd l W; rw [hp] at this; exact this
          go_wp2_with (first | (go_at_call 53; refine (hpn _).mono ?_; rintro r w1 ⟨rfl, hb1⟩) | (go_at_call 60; refine (unhide HLS _ (HTB.out.trans (hb1.mono HTB.out.size))).mono ?_; rintro r w5 ⟨rfl, hb5⟩; have hb15 := hb1.trans (hb5.mono hb1.size)))
          generalize hlo : wr.heap.size = lo at *
          have HLO : Opq2 (wr.heap.size = lo) := ⟨hlo⟩
          have W1B : Below lo wr (w5.alloc (.cells #[] 51)) := hb15.alloc (by have := hb15.size; omega) _
          have HR0 : RowsB (w5.alloc (.cells #[] 51)) lo s.size (.slice (some ⟨w5.heap.size, 0, none⟩) 0 0) 0 [] (fun _ => 0) := ⟨own_emptyT w5 lo _ (by have := hb15.size; omega), fun x hx => by omega, fun x hx => by omega, fun x y hx => by omega, fun x j hx => by omega⟩
          generalize hW1 : World.alloc _ _ = W1 at *
          have HR1 := hide HR0
          clear HR0 hW1
          go_loopw [10, 11] (fun rv iv w2 => ∃ (x : Nat) (vals : List Value) (q : Nat → Nat), x ≤ N ∧ iv = .int .i64 x ∧ Hid (RowsB w2 lo s.size rv x vals q) ∧ Below lo wr w2) (fun _ iv _ => N - (intOf iv).toNat)
          case atStart => exact ⟨0, [], _, Nat.zero_le _, rfl, HR1, W1B⟩
          case round =>
            rename World => w2
            clear HR1 W1B
            obtain ⟨x, vals, q, hx, rfl, HR, hb2⟩ := hrel
            by_cases hxn : x ≤ s.size
            · obtain ⟨i1, hi1, hy0, hy1, hy2⟩ := info_parts bools_info
              obtain ⟨RA, rc, hrv, hrc, hRA⟩ := own_shape (unhide HR).own
              subst hrv
              have hz2 : lo ≤ w2.heap.size := by have := hb2.size; have := HLO.out; omega
              have hxi : ((x : Nat) : Int) ≤ (s.size : Int) := by omega
              have HU := hide hi1
              clear hi1
              go_wp2_with (at_builtin; go_must (refine wpList_append_own_at _ rfl (.tmp 47) (.tmp 51) 52 rfl lo 51 i1 (.slice none 0 0) 1 24 Try.underlying52 (unhide HU) hy0 hy1 hy2 rfl (by decide) (.slice RA x rc) x vals rfl (((unhide HR).own.alloc _).alloc _) ⟨w2.heap.size + 1, 0, none⟩ 1 1 [.slice (some ⟨w2.heap.size, 0, none⟩) N N] rfl rfl (cell_one_new2 _ _ _ _) (by simp [Value.oneCell']) (by unfold maxLen; omega) (by omega) (by simp; omega) ?_); go_must (intro v9 w9 hown9 hgrow9 _ hat9))
              have HR9 := hide (RowsB.next (unhide HR) (unhide HC) hz2 (by rw [HN.out]; exact hown9) hgrow9 hat9)
              have hb9 : Below lo wr w9 := ((hb2.alloc hz2 _).alloc (by simp; omega) _).grown hgrow9 (by simp; omega) (fun b hb => ((unhide HR).own.lt b hb).1)
              go_roundw
              case rel => exact ⟨x + 1, _, _, by have := HN.out; omega, by go_num, HR9, hb9⟩
              case measure => have := HN.out; simp [intOf]; omega
            · obtain rfl : x = N := by have := HN.out; omega
              have hx1 : ¬ ((x : Nat) : Int) ≤ (s.size : Int) := by omega
              obtain ⟨g, cg, hgv, hcg, HO⟩ := RowsB.full (n := s.size) (by have h := unhide HR; rw [← HN.out] at h; exact h)
              rw [HN.out] at hgv hcg
              subst hgv
              have HO0 := hide HO
              clear HO HR
              go_wp2
              go_loopw [12] (fun iv w3 => ∃ (y : Nat) (P : Nat → Nat → Bool), y ≤ x ∧ iv = .int .i64 ((y : Int) - 1) ∧ Hid (RowsO w3 lo g s.size q P) ∧ Hid (∀ i j, y ≤ i → i ≤ j → j ≤ s.size → P i j = T.sp s.data.toList i j) ∧ Below lo wr w3) (fun iv _ => (intOf iv + 1).toNat)
              case atStart => exact ⟨x, _, Nat.le_refl _, by rw [← HN.out]; simp, HO0, hide (fun i j h1 h2 h3 => by have := HN.out; omega), hb2⟩
              case round =>
                rename World => w3
                clear HO0 hb2
                obtain ⟨y, P, hy, rfl, HO3, HP3, hb3⟩ := hrel
                by_cases hy0 : y = 0
                · subst hy0
                  have hneg : ¬ (0 : Int) ≤ ((0 : Nat) : Int) - 1 := by omega
                  obtain ⟨i2, hi2, hy0, hy1, hy2⟩ := info_parts rows_info
                  have HU := hide hi2
                  have hz3 : lo ≤ w3.heap.size := by have := hb3.size; have := HLO.out; omega
                  have hlo := HLO.out
                  clear hi2
                  go_wp2_with (at_builtin; go_must (refine wpList_append_own_at _ rfl (.tmp 228) (.tmp 230) 53 rfl w.heap.size 52 i2 (.slice none 0 0) 1 24 Try.underlying53 (unhide HU) hy0 hy1 hy2 rfl (by decide) (.slice (some ⟨gt, 0, none⟩) i sc) i vs0 rfl ((own_keep hTO' (by rw [hlo]; exact hb3)).alloc _) ⟨w3.heap.size, 0, none⟩ 1 1 [.slice (some ⟨g, 0, none⟩) x cg] rfl rfl (cell_one_new _ _ _) (by simp [Value.oneCell']) (by unfold maxLen; omega) (by omega) (by simp; omega) ?_); go_must (intro v9 w9 hown9 hgrow9 _ hat9))
                  have HT9 : Hid (TabI w w9 e s.data.toList v9 (i + 1)) := hide (TabI.next (c := cg) (P := P) (unhide HT) (by rw [hlo]; exact hb3) (by rw [hlo]; have h := unhide HO3; rw [← HSL.out] at h; exact h) hgrow9 hat9 (fun vs hvl hvo => by
                      obtain rfl : vs = vs0 := own_uniq hvo hTO'
                      rw [HSL.out, HN.out]; exact hown9) (unhide HSH).good (unhide HSH).tk (fun i j h1 h2 => unhide HP3 i j (Nat.zero_le _) h1 (by rw [← HSL.out]; exact h2)))
                  go_roundw
                  case rel => exact ⟨i + 1, by omega, by go_num, HT9⟩
                  case measure => simp [intOf]; omega
                · obtain ⟨z, rfl⟩ : ∃ z, y = z + 1 := ⟨y - 1, by omega⟩
                  rw [show ((z + 1 : Nat) : Int) - 1 = (z : Int) by omega]
                  have hz0 : (0 : Int) ≤ (z : Int) := by omega
                  have hzN : z ≤ s.size := by have := HN.out; omega
                  go_wp2
                  go_loopw [13] (fun jv w4 => ∃ (j : Nat) (P : Nat → Nat → Bool), z ≤ j ∧ j ≤ x ∧ jv = .int .i64 j ∧ Hid (RowsO w4 lo g s.size q P) ∧ Hid (∀ i j', (z + 1 ≤ i ∨ (i = z ∧ j' < j)) → i ≤ j' → j' ≤ s.size → P i j' = T.sp s.data.toList i j') ∧ Below lo wr w4) (fun jv _ => x - (intOf jv).toNat)
                  case atStart => exact ⟨z, P, Nat.le_refl _, by omega, rfl, HO3, hide (fun i j' h1 h2 h3 => unhide HP3 i j' (by omega) h2 h3), hb3⟩
                  case round =>
                    rename World => w4
                    clear HO3 HP3 hb3
                    obtain ⟨j, P, hzj, hj, rfl, HO4, HP4, hb4⟩ := hrel
                    by_cases hjn : j ≤ s.size
                    · have hji : (j : Int) ≤ (s.size : Int) := by omega
                      have hj0 : (0 : Int) ≤ (j : Int) := by omega
                      have hjx : (j : Int) < (x : Int) := by have := HN.out; omega
                      have hzx : (z : Int) < (x : Int) := by have := HN.out; omega
                      have hzw : IntKind.i64.wrap (z : Int) = (z : Int) := IntWalk.i64_in _ (by omega)
                      have k0 : w4.cell? ⟨b, off + i * 2, none⟩ = some (.int .i64 kd) := (hb4.cell (p := ⟨b, off + i * 2, none⟩) (by show b < lo; omega)).trans hc0
                      have k1 : w4.cell? ⟨b, off + i * 2 + 1, none⟩ = some (.int .i64 l) := (hb4.cell (p := ⟨b, off + i * 2 + 1, none⟩) (by show b < lo; omega)).trans hc1
                      have d1 := (unhide HO4).c1 z hzN
                      rw [HN.out] at d1
                      obtain ⟨d2, d3⟩ := (unhide HO4).c2 z j hzN hjn
                      have hcgI : (x : Int) ≤ (cg : Int) := by omega
                      rcases hk with rfl | rfl | rfl
                      · as_aux_lemma =>
                          obtain ⟨g1, e1, r1, rr⟩ := TabI.at4 (unhide HT) (by rw [HLO.out]; exact hb4) (show ia < i by omega) hag HIA.out (show s.data.toList.length + 1 = x by rw [HSL.out]; exact HN.out)
                          obtain ⟨g2, e2, b1, bb⟩ := TabI.at4 (unhide HT) (by rw [HLO.out]; exact hb4) (show ib < i by omega) hag2 HIB.out (show s.data.toList.length + 1 = x by rw [HSL.out]; exact HN.out)
                          obtain ⟨q1, d4, r2, r3⟩ := rr z (by rw [HSL.out]; exact hzN)
                          clear rr
                          have R3 := hide r3
                          have BB := hide bb
                          clear r3 bb
                          go_wp2
                          go_loop [14, 15] (fun yv mv => ∃ (mm : Nat) (yb : Bool), z ≤ mm ∧ mm ≤ j + 1 ∧ mv = .int .i64 mm ∧ yv = .bool yb ∧ Hid (yb = true ↔ ∃ m', z ≤ m' ∧ m' < mm ∧ a.sp s.data.toList z m' = true ∧ a2.sp s.data.toList m' j = true)) (fun _ mv => j + 1 - (intOf mv).toNat)
                          case atStart => exact ⟨z, false, Nat.le_refl _, by omega, rfl, rfl, hide (by simp; omega)⟩
                          case round =>
                            obtain ⟨mm, yb, hm1, hm2, rfl, rfl, HY⟩ := hrel
                            by_cases hmj : mm ≤ j
                            · have hmji : (mm : Int) ≤ (j : Int) := by omega
                              have hm0 : (0 : Int) ≤ (mm : Int) := by omega
                              have hmx : (mm : Int) < (x : Int) := by omega
                              have r5 := unhide R3 mm hm1 (by rw [HSL.out]; omega)
                              obtain ⟨q2, d5, b2, b3⟩ := unhide BB mm (by rw [HSL.out]; omega)
                              have b5 := b3 j hmj (by rw [HSL.out]; exact hjn)
                              clear b3
                              have hnx : ∀ b : Bool, (b = true ↔ (yb = true ∨ (a.sp s.data.toList z mm = true ∧ a2.sp s.data.toList mm j = true))) → (b = true ↔ ∃ m', z ≤ m' ∧ m' < mm + 1 ∧ a.sp s.data.toList z m' = true ∧ a2.sp s.data.toList m' j = true) := by
                                intro b hb
                                rw [hb, HY.out]
                                constructor
                                · rintro (⟨m', h1, h2, h3⟩ | ⟨h1, h2⟩)
                                  · exact ⟨m', h1, by omega, h3⟩
                                  · exact ⟨mm, hm1, by omega, h1, h2⟩
                                · rintro ⟨m', h1, h2, h4, h5⟩
                                  by_cases e : m' = mm
                                  · subst e; exact .inr ⟨h4, h5⟩
                                  · exact .inl ⟨m', h1, by omega, h4, h5⟩
                              have HNX := hide hnx
                              clear hnx
                              generalize a.sp s.data.toList z mm = v1 at *
                              generalize a2.sp s.data.toList mm j = v2 at *
                              cases yb
                              · cases v1
                                · go_wp2
                                  go_round
                                  case rel => exact ⟨mm + 1, false, by omega, by omega, by go_num, rfl, hide (unhide HNX false (by simp))⟩
                                  case measure => simp [intOf]; omega
                                · cases v2
                                  · go_wp2
                                    go_round
                                    case rel => exact ⟨mm + 1, false, by omega, by omega, by go_num, rfl, hide (unhide HNX false (by simp))⟩
                                    case measure => simp [intOf]; omega
                                  · go_wp2
                                    go_round
                                    case rel => exact ⟨mm + 1, true, by omega, by omega, by go_num, rfl, hide (unhide HNX true (by simp))⟩
                                    case measure => simp [intOf]; omega
                              · go_wp2
                                go_round
                                case rel => exact ⟨mm + 1, true, by omega, by omega, by go_num, rfl, hide (unhide HNX true (by simp))⟩
                                case measure => simp [intOf]; omega
                            · obtain rfl : mm = j + 1 := by omega
                              have hmji : ¬ ((j + 1 : Nat) : Int) ≤ (j : Int) := by omega
                              have hfin : yb = (Ex.bin 4 a a2).sp s.data.toList z j := by
                                rw [Bool.eq_iff_iff, HY.out, show (Ex.bin 4 a a2).sp s.data.toList z j = joinB (a.sp s.data.toList) (a2.sp s.data.toList) z j by simp [Ex.sp], joinB_iff]
                                constructor
                                · rintro ⟨m', h1, h2, h3⟩; exact ⟨m', h1, by omega, h3⟩
                                · rintro ⟨m', h1, h2, h3⟩; exact ⟨m', h1, by omega, h3⟩
                              have HFIN : Opq2 (yb = (Ex.bin 4 a a2).sp s.data.toList z j) := ⟨hfin⟩
                              clear hfin
                              go_wp2
                              go_roundw
                              case rel => exact ⟨j + 1, _, by omega, by omega, by go_num, hide (RowsO.set (unhide HO4) hzN hjn yb), hide (rows_upd (unhide HP4) (by rw [hT]; exact HFIN.out)), (hb4).setCell (((unhide HO4).q1 z hzN).1) _⟩
                              case measure => simp [intOf]; omega
                      · as_aux_lemma =>
                          obtain ⟨g1, e1, r1, rr⟩ := TabI.at4 (unhide HT) (by rw [HLO.out]; exact hb4) (show ia < i by omega) hag HIA.out (show s.data.toList.length + 1 = x by rw [HSL.out]; exact HN.out)
                          obtain ⟨g2, e2, b1, bb⟩ := TabI.at4 (unhide HT) (by rw [HLO.out]; exact hb4) (show ib < i by omega) hag2 HIB.out (show s.data.toList.length + 1 = x by rw [HSL.out]; exact HN.out)
                          obtain ⟨q1, d4, r2, r3⟩ := rr z (by rw [HSL.out]; exact hzN)
                          clear rr
                          obtain ⟨q2, d5, b2, b3⟩ := bb z (by rw [HSL.out]; exact hzN)
                          clear bb
                          have r4 := r3 j hzj (by rw [HSL.out]; exact hjn)
                          have b4 := b3 j hzj (by rw [HSL.out]; exact hjn)
                          clear r3 b3
                          rcases hv4 : a.sp s.data.toList z j
                          · rw [hv4] at r4
                            rcases hv5 : a2.sp s.data.toList z j
                            · rw [hv5] at b4
                              go_wp2
                              go_roundw
                              case rel => exact ⟨j + 1, _, by omega, by omega, by go_num, hide (RowsO.set (unhide HO4) hzN hjn false), hide (rows_upd (unhide HP4) (by rw [hT]; simp [Ex.sp, hv4, hv5])), (hb4).setCell (((unhide HO4).q1 z hzN).1) _⟩
                              case measure => simp [intOf]; omega
                            · rw [hv5] at b4
                              go_wp2
                              go_roundw
                              case rel => exact ⟨j + 1, _, by omega, by omega, by go_num, hide (RowsO.set (unhide HO4) hzN hjn true), hide (rows_upd (unhide HP4) (by rw [hT]; simp [Ex.sp, hv4, hv5])), (hb4).setCell (((unhide HO4).q1 z hzN).1) _⟩
                              case measure => simp [intOf]; omega
                          · rw [hv4] at r4
                            rcases hv5 : a2.sp s.data.toList z j
                            · rw [hv5] at b4
                              go_wp2
                              go_roundw
                              case rel => exact ⟨j + 1, _, by omega, by omega, by go_num, hide (RowsO.set (unhide HO4) hzN hjn true), hide (rows_upd (unhide HP4) (by rw [hT]; simp [Ex.sp, hv4])), (hb4).setCell (((unhide HO4).q1 z hzN).1) _⟩
                              case measure => simp [intOf]; omega
                            · rw [hv5] at b4
                              go_wp2
                              go_roundw
                              case rel => exact ⟨j + 1, _, by omega, by omega, by go_num, hide (RowsO.set (unhide HO4) hzN hjn true), hide (rows_upd (unhide HP4) (by rw [hT]; simp [Ex.sp, hv4])), (hb4).setCell (((unhide HO4).q1 z hzN).1) _⟩
                              case measure => simp [intOf]; omega
                      · as_aux_lemma =>
                          obtain ⟨g1, e1, r1, rr⟩ := TabI.at4 (unhide HT) (by rw [HLO.out]; exact hb4) (show ia < i by omega) hag HIA.out (show s.data.toList.length + 1 = x by rw [HSL.out]; exact HN.out)
                          obtain ⟨g2, e2, b1, bb⟩ := TabI.at4 (unhide HT) (by rw [HLO.out]; exact hb4) (show ib < i by omega) hag2 HIB.out (show s.data.toList.length + 1 = x by rw [HSL.out]; exact HN.out)
                          obtain ⟨q1, d4, r2, r3⟩ := rr z (by rw [HSL.out]; exact hzN)
                          clear rr
                          obtain ⟨q2, d5, b2, b3⟩ := bb z (by rw [HSL.out]; exact hzN)
                          clear bb
                          have r4 := r3 j hzj (by rw [HSL.out]; exact hjn)
                          have b4 := b3 j hzj (by rw [HSL.out]; exact hjn)
                          clear r3 b3
                          rcases hv4 : a.sp s.data.toList z j
                          · rw [hv4] at r4
                            rcases hv5 : a2.sp s.data.toList z j
                            · rw [hv5] at b4
                              go_wp2
                              go_roundw
                              case rel => exact ⟨j + 1, _, by omega, by omega, by go_num, hide (RowsO.set (unhide HO4) hzN hjn false), hide (rows_upd (unhide HP4) (by rw [hT]; simp [Ex.sp, hv4])), (hb4).setCell (((unhide HO4).q1 z hzN).1) _⟩
                              case measure => simp [intOf]; omega
                            · rw [hv5] at b4
                              go_wp2
                              go_roundw
                              case rel => exact ⟨j + 1, _, by omega, by omega, by go_num, hide (RowsO.set (unhide HO4) hzN hjn false), hide (rows_upd (unhide HP4) (by rw [hT]; simp [Ex.sp, hv4])), (hb4).setCell (((unhide HO4).q1 z hzN).1) _⟩
                              case measure => simp [intOf]; omega
                          · rw [hv4] at r4
                            rcases hv5 : a2.sp s.data.toList z j
                            · rw [hv5] at b4
                              go_wp2
                              go_roundw
                              case rel => exact ⟨j + 1, _, by omega, by omega, by go_num, hide (RowsO.set (unhide HO4) hzN hjn false), hide (rows_upd (unhide HP4) (by rw [hT]; simp [Ex.sp, hv4, hv5])), (hb4).setCell (((unhide HO4).q1 z hzN).1) _⟩
                              case measure => simp [intOf]; omega
                            · rw [hv5] at b4
                              go_wp2
                              go_roundw
                              case rel => exact ⟨j + 1, _, by omega, by omega, by go_num, hide (RowsO.set (unhide HO4) hzN hjn true), hide (rows_upd (unhide HP4) (by rw [hT]; simp [Ex.sp, hv4, hv5])), (hb4).setCell (((unhide HO4).q1 z hzN).1) _⟩
                              case measure => simp [intOf]; omega
                    · obtain rfl : j = x := by have := HN.out; omega
                      have hji : ¬ (j : Int) ≤ (s.size : Int) := by have := HN.out; omega
                      have hx2 : z < j := by have := HN.out; omega
                      have hzw1 : IntKind.i64.wrap ((z : Int) - 1) = (z : Int) - 1 := IntWalk.i64_in _ (by omega)
                      go_wp2
                      go_roundw
                      case rel => exact ⟨z, P, by omega, rfl, HO4, hide (fun i j' h1 h2 h3 => unhide HP4 i j' (by omega) h2 h3), hb4⟩
                      case measure => (simp [intOf]; try omega)
    · obtain rfl : i = n := by omega
      go_wp2
      go_ret
      exact ⟨_, rfl, unhide HT⟩
end Go.Proofs.Ytgcggmlekmjpdaa

