/-
  Membership: the walk of spansOf, part by part.
-/
import Derived.Test.YtgcggmlekmjpdaaSpans5
import Derived.Deep.DeepCutAuto
import Derived.WalkSmall
import Derived.Test.YtgcggmlekmjpdaaTakes
import Derived.Great.BuildSlice
import Derived.Maps.AppendAt
namespace Go.Proofs.Ytgcggmlekmjpdaa
open Go.RowKit
set_option linter.unusedVariables false
set_option maxRecDepth 100000

/-- A fact that no unification opens. -/
structure Opq (p : Prop) : Prop where
  out : p
/-- What spansOf leaves. -/
def SpansD (w : World) (e : List Pt) (s : List UInt8) (r : Ending) (w' : World) : Prop := ∃ t : Ex, t.good ∧ t.flat = e ∧ ArrC w (upTo s.length (t.sp s)) r w'
/-- What stands at the beginning of a round of spansOf. -/
structure SpI (w wr : World) (s : ByteArray) (e : List Pt) (sv : Value) (k : Nat) (ts : List Ex) : Prop where
  own : wr.ownsRow (w.heap.size + 2) 73 81 sv ts.length (stkV s.data.toList ts)
  le : ts.length ≤ k
  fl : flats ts = e.take k
  gd : ∀ t ∈ ts, t.good
  sb : wr.heap[w.heap.size]? = some (.cells #[.string s] 9 (0, 0))
  rb : wr.heap[w.heap.size + 1]? = some (.cells Try.zeroCells73 73 (0, 0))
  bl : Below w.heap.size w wr
theorem SpI.start (w W : World) (s : ByteArray) (e : List Pt) (hW : (w.alloc (.cells #[.string s] 9)).alloc (.cells Try.zeroCells73 73) = W) : SpI w W s e (.slice none 0 0) 0 [] := by
  subst hW
  refine ⟨⟨rfl, .inl ⟨rfl, rfl⟩⟩, Nat.le_refl _, rfl, by simp, (Below.heap_alloc _ _ _ (by simp)).trans (heap_alloc_new w _), ?_, (by repeat (first | exact Below.refl _ _ | assumption | (refine Below.alloc ?_ (by first | omega | (simp; done) | (simp; omega)) _) | (refine Below.drew ?_) | (refine Below.trans ?_ (Below.mono (by assumption) (by first | omega | (simp; done) | (simp; omega))))))⟩
  have h := heap_alloc_new (w.alloc (.cells #[.string s] 9)) (.cells Try.zeroCells73 73)
  rwa [World.size_alloc] at h
theorem flats_run (ts : List Ex) (h : ∀ t ∈ ts, t.good) (d : Nat) : runD (flats ts) d = some ((d : Int) + ts.length) := by
  induction ts generalizing d with
  | nil => simp [flats, runD]
  | cons t ts ih =>
    rw [flats, runD_append, Ex.runD_flat t (h t (by simp)) d (by omega), Option.bind_some]
    have := ih (fun x hx => h x (by simp [hx])) (d + 1)
    rw [show ((d + 1 : Nat) : Int) = (d : Int) + 1 by omega] at this
    rw [this]; simp; omega
theorem SpI.run {w wr : World} {s : ByteArray} {e : List Pt} {sv : Value} {k : Nat} {ts : List Ex} (h : SpI w wr s e sv k ts) : runD (e.take k) 0 = some (ts.length : Int) := by
  rw [← h.fl]; simpa using flats_run ts h.gd 0
theorem SpI.size {w wr : World} {s : ByteArray} {e : List Pt} {sv : Value} {k : Nat} {ts : List Ex} (h : SpI w wr s e sv k ts) : w.heap.size + 2 ≤ wr.heap.size := by
  have := (Array.getElem?_eq_some_iff.1 h.rb).1; omega
theorem SpI.next {w wr W9 w9 : World} {s : ByteArray} {e : List Pt} {sv v9 v0 : Value} {k j : Nat} {ts us : List Ex} {t : Ex} (h : SpI w wr s e sv k ts) (hb : Below wr.heap.size wr W9) (hg : W9.grownBy w9 v0.ownBlock) (hv : ∀ b, v0.ownBlock = some b → w.heap.size + 2 ≤ b)
    (hj : Opq (us.length = j)) (hown : w9.ownsRow (w.heap.size + 2) 73 81 v9 (j + 1) (stkV s.data.toList (us ++ [t]))) (hle : us.length ≤ ts.length) (hfl : flats (us ++ [t]) = e.take (k + 1)) (hgd : ∀ x ∈ us ++ [t], x.good) : SpI w w9 s e v9 (k + 1) (us ++ [t]) := by
  have hj := hj.out
  subst hj
  have hz := h.size
  have hz9 := hb.size
  have := h.le
  refine ⟨by rw [List.length_append]; exact hown, by rw [List.length_append]; simp; omega, hfl, hgd, ?_, ?_, (h.bl.trans (hb.mono (by omega))).grown hg (by omega) (fun k hk => by have := hv k hk; omega)⟩
  · exact (hg.block _ (by omega) (by intro e; have := hv _ e.symm; omega)).trans ((hb.block _ (by omega)).trans h.sb)
  · exact (hg.block _ (by omega) (by intro e; have := hv _ e.symm; omega)).trans ((hb.block _ (by omega)).trans h.rb)
theorem fold_span (cs : List Value) (hl : cs.length = 81) (z : Array Value) (hz : z.size = 81) : List.foldl (fun (cs : Array Value) (x : Value × Nat) => cs.setIfInBounds x.snd x.fst) z cs.zipIdx = cs.toArray := by
  obtain ⟨h1, h2⟩ := Great.foldl_set 0 cs 0 z
  simp only [Nat.zero_add] at h1 h2
  apply Array.ext_getElem?
  intro k
  rw [h2 k]
  by_cases hk : k < 81
  · rw [if_pos (by omega)]; simp
  · rw [if_neg (by omega), Array.getElem?_eq_none (by omega), Array.getElem?_eq_none (by simp; omega)]
theorem range_grown {w w' : World} {row : Option Nat} {g o : Nat} {cs : List Value} (h : w.rangeAt g o cs) (hg : w.grownBy w' row) (hne : row ≠ some g) (hlt : g < w.heap.size) : w'.rangeAt g o cs := fun j v hj =>
  (World.cell?_of_block (a := ⟨g, o + j, none⟩) (hg.block g hlt (Ne.symm hne))).trans (h j v hj)
theorem range_new (W : World) (cs : List Value) (t : TypeId) : (W.alloc (.cells cs.toArray t)).rangeAt W.heap.size 0 cs := by
  intro j v hj
  rw [cell_of_row _ _ _ _ _ _ (heap_alloc_new W _), Nat.zero_add]
  simpa using hj
theorem range_box {w : World} {g : Nat} {C : Array Value} {t : TypeId} {fr : Nat × Nat} (h : w.heap[g]? = some (.cells C t fr)) : w.rangeAt g 0 C.toList := fun j v hj => by
  rw [cell_of_row w g _ _ _ _ h, Nat.zero_add]; simpa using hj
/-- What the append of a round wants. -/
theorem round_pack {w wr W5 : World} {g12 j m sc : Nat} {s : List UInt8} {ts us : List Ex} {T : Ex} {SA : Option Addr} (hJ : Below wr.heap.size wr W5) (h12 : wr.heap.size ≤ g12) (hr : W5.rangeAt g12 0 (oneV s T)) (hl : g12 < W5.heap.size)
    (hw : w.heap.size + 2 ≤ wr.heap.size) (hown : wr.ownsRow (w.heap.size + 2) 73 81 (.slice SA m sc) m (stkV s ts)) (hts : ∃ vs, ts = us ++ vs) (hm : ts.length = m) (hj : us.length = j) :
    ∃ cs, Opq (oneV s T = cs) ∧ cs.length = 81 ∧ W5.rangeAt g12 0 cs ∧ (Try.prog.info? 73).map (·.size) = some cs.length ∧ (W5.alloc (.cells cs.toArray 73)).drew.rangeAt W5.heap.size 0 cs ∧
      (W5.alloc (.cells cs.toArray 73)).drew.ownsRow (w.heap.size + 2) 73 81 (.slice SA j sc) j (stkV s us) ∧
      w.heap.size + 2 ≤ (W5.alloc (.cells cs.toArray 73)).drew.heap.size ∧ (W5.alloc (.cells cs.toArray 73)).drew.rangeAt g12 0 cs ∧ g12 < (W5.alloc (.cells cs.toArray 73)).drew.heap.size ∧ (Value.slice SA j sc).ownBlock ≠ some g12 ∧ Below wr.heap.size wr (W5.alloc (.cells cs.toArray 73)).drew ∧
      (∀ b, (Value.slice SA j sc).ownBlock = some b → w.heap.size + 2 ≤ b) := by
  have hz := hJ.size
  have hcut : wr.ownsRow (w.heap.size + 2) 73 81 (.slice SA j sc) j (stkV s us) := by
    obtain ⟨vs, rfl⟩ := hts
    have hlen : j ≤ m := by rw [← hj, ← hm, List.length_append]; omega
    cases SA with
    | none =>
      have hm0 : m = 0 := by
        rcases hown.2 with ⟨h0, _⟩ | ⟨g', cap', cur', e1, -⟩
        · injection h0 with _ h1 _
        · cases e1
      obtain rfl : j = 0 := by omega
      have hu : us = [] := List.eq_nil_of_length_eq_zero hj
      subst hu
      rcases hown.2 with ⟨h0, _⟩ | ⟨g', cap', cur', e1, -⟩
      · injection h0 with _ _ h1
        subst h1
        exact ⟨rfl, .inl ⟨rfl, rfl⟩⟩
      · cases e1
    | some ad =>
      obtain ⟨g, rfl⟩ : ∃ g, ad = ⟨g, 0, none⟩ := by
        rcases hown.2 with ⟨h0, _⟩ | ⟨g', cap', cur', e1, -⟩
        · cases h0
        · injection e1 with e1 _ _; injection e1 with e1; exact ⟨_, e1⟩
      have h := own_cut hown hlen
      rw [stkV_append, List.take_left' (by rw [stkV_length, hj])] at h
      exact h
  refine ⟨_, ⟨rfl⟩, oneV_length s T, hr, by rw [oneV_length]; kernel_rfl, range_new W5 _ _, ((own_keep hcut hJ).alloc _).drew, ?_, World.rangeAt_alloc hr _, ?_, ?_, (hJ.alloc hz _).drew, fun b hb => own_block hcut b hb⟩
  · show _ ≤ (W5.alloc _).heap.size; rw [World.size_alloc]; omega
  · show _ < (W5.alloc _).heap.size; rw [World.size_alloc]; omega
  · intro e; have := (hcut.lt _ e).2; omega
/-- The blocks of a round, before its array is made. -/
theorem five_new (wr : World) (k l : Int) (W : World) (hW : ((((wr.alloc (pbox k l)).alloc (.cells Try.zeroCells73 73)).alloc (.cells Try.zeroCells73 73)).alloc (pbox k l)).alloc (pbox k l) = W) :
    W.heap[wr.heap.size]? = some (pbox k l) ∧ W.heap[wr.heap.size + 1]? = some (.cells Try.zeroCells73 73 (0, 0)) ∧ W.heap[wr.heap.size + 1 + 1]? = some (.cells Try.zeroCells73 73 (0, 0)) ∧ Below wr.heap.size wr W ∧ W.heap.size = wr.heap.size + 5 := by
  subst hW
  refine ⟨?_, ?_, ?_, (by repeat (first | exact Below.refl _ _ | assumption | (refine Below.alloc ?_ (by first | omega | (simp; done) | (simp; omega)) _) | (refine Below.drew ?_) | (refine Below.trans ?_ (Below.mono (by assumption) (by first | omega | (simp; done) | (simp; omega)))))), by simp⟩
  · rw [Below.heap_alloc _ _ _ (by first | omega | (simp; done) | (simp; omega)), Below.heap_alloc _ _ _ (by first | omega | (simp; done) | (simp; omega)), Below.heap_alloc _ _ _ (by first | omega | (simp; done) | (simp; omega)), Below.heap_alloc _ _ _ (by first | omega | (simp; done) | (simp; omega))]
    exact heap_alloc_new wr _
  · rw [Below.heap_alloc _ _ _ (by first | omega | (simp; done) | (simp; omega)), Below.heap_alloc _ _ _ (by first | omega | (simp; done) | (simp; omega)), Below.heap_alloc _ _ _ (by first | omega | (simp; done) | (simp; omega))]
    have h := heap_alloc_new (wr.alloc (pbox k l)) (.cells Try.zeroCells73 73)
    rwa [World.size_alloc] at h
  · rw [Below.heap_alloc _ _ _ (by first | omega | (simp; done) | (simp; omega)), Below.heap_alloc _ _ _ (by first | omega | (simp; done) | (simp; omega))]
    have h := heap_alloc_new ((wr.alloc (pbox k l)).alloc (.cells Try.zeroCells73 73)) (.cells Try.zeroCells73 73)
    rwa [World.size_alloc, World.size_alloc] at h
theorem six_new (wr : World) (k l : Int) (W : World) (hW : (((((wr.alloc (pbox k l)).alloc (.cells Try.zeroCells73 73)).alloc (.cells Try.zeroCells73 73)).alloc (pbox k l)).alloc (pbox k l)).alloc (.cells Try.zeroCells73 73) = W) :
    W.heap[wr.heap.size]? = some (pbox k l) ∧ Opq (W.heap[wr.heap.size + 1 + 1 + 1 + 1 + 1]? = some (.cells Try.zeroCells73 73 (0, 0))) ∧ Below wr.heap.size wr W ∧ W.heap.size = wr.heap.size + 6 := by
  obtain ⟨W', hW'⟩ : ∃ W', ((((wr.alloc (pbox k l)).alloc (.cells Try.zeroCells73 73)).alloc (.cells Try.zeroCells73 73)).alloc (pbox k l)).alloc (pbox k l) = W' := ⟨_, rfl⟩
  obtain ⟨h1, -, -, h4, h5⟩ := five_new wr k l W' hW'
  rw [hW'] at hW
  subst hW
  refine ⟨(Below.heap_alloc _ _ _ (by omega)).trans h1, ⟨?_⟩, h4.alloc h4.size _, by rw [World.size_alloc]; omega⟩
  rw [show wr.heap.size + 1 + 1 + 1 + 1 + 1 = W'.heap.size by omega]
  exact heap_alloc_new _ _
theorem zero_81 : (Try.zeroCells73).size = 81 := by rw [zero_sp]; simp
/-- The two arrays of a round, stored. -/
theorem two_stores {wr W1 W2 : World} {gx gy : Nat} {k l : Int} {s : List UInt8} {a b : Ex} {ca cb : List Value} (hW : (W1.drew.setCells gx 0 ca).setCells gy 0 cb = W2) (z1 : W1.heap[gx]? = some (.cells Try.zeroCells73 73 (0, 0))) (z2 : W1.heap[gy]? = some (.cells Try.zeroCells73 73 (0, 0)))
    (z0 : W1.heap[wr.heap.size]? = some (pbox k l)) (h1 : wr.heap.size < gx) (h2 : gx < gy) (hJ : Below wr.heap.size wr W1) (hca : oneV s a = ca) (hcb : oneV s b = cb) :
    ArrB W2 gx (upTo s.length (a.sp s)) ∧ ArrB W2 gy (upTo s.length (b.sp s)) ∧ W2.cell? ⟨wr.heap.size, 0, none⟩ = some (.int .i64 k) ∧ Below wr.heap.size wr W2 ∧ W2.heap.size = W1.heap.size := by
  subst hca; subst hcb
  have e1 : W1.drew.setCells gx 0 (oneV s a) = W1.drew.setRow gx (arr (upTo s.length (a.sp s))) := setCells_row (w := W1.drew) _ z1 zero_81
  rw [e1] at hW
  have z2' : (W1.drew.setRow gx (arr (upTo s.length (a.sp s)))).heap[gy]? = some (.cells Try.zeroCells73 73 (0, 0)) := (setRow_far (by omega)).trans z2
  have e2 : (W1.drew.setRow gx (arr (upTo s.length (a.sp s)))).setCells gy 0 (oneV s b) = (W1.drew.setRow gx (arr (upTo s.length (a.sp s)))).setRow gy (arr (upTo s.length (b.sp s))) := setCells_row _ z2' zero_81
  rw [e2] at hW
  subst hW
  refine ⟨ArrB.far (ArrB.row (w := W1.drew) _ z1) (by omega), ArrB.row _ z2', ?_, below_setRow (below_setRow hJ.drew (by omega) _) (by omega) _, by rw [size_setRow, size_setRow]; rfl⟩
  have zz : ((W1.drew.setRow gx (arr (upTo s.length (a.sp s)))).setRow gy (arr (upTo s.length (b.sp s)))).heap[wr.heap.size]? = some (pbox k l) := (setRow_far (by omega)).trans ((setRow_far (w := W1.drew) (by omega)).trans z0)
  rw [cell_of_row _ _ _ _ _ _ zz]; rfl
theorem zero_one (s : List UInt8) : Try.zeroCells73.toList = oneV s (.leaf 1 0) := by
  rw [zero_sp, oneV]
  apply List.ext_getElem?
  intro k
  by_cases hk : k < 81
  · have := arr_get (upTo s.length (Ex.sp s (.leaf 1 0))) k hk
    rw [Array.getElem?_toList, Array.getElem?_toList, this]
    simp [upTo, Ex.sp, hk]
  · rw [List.getElem?_eq_none (by simp; omega), List.getElem?_eq_none (by rw [Array.length_toList, arr_size]; omega)]
/-- A tree's array, said of the word's size. -/
theorem arr_ev {n : Nat} {s : List UInt8} {P : Nat → Nat → Bool} {T : Ex} {C : Array Value} (hn : Hid (s.length = n)) (h : ∀ i j, i ≤ j → j ≤ n → P i j = T.sp s i j) (hC : Hid (arr (upTo n P) = C)) : Hid (arr (upTo s.length (T.sp s)) = C) := by
  have h1 := hn.out
  subst h1
  exact Lib.hid (by rw [← upTo_congr h]; exact hC.out)
/-- The store of a new array into a round's own block. -/
theorem own_store {w : World} {g : Nat} {C old : Array Value} {s : List UInt8} {T : Ex} (hC : Hid (arr (upTo s.length (T.sp s)) = C)) (hg : w.heap[g]? = some (.cells old 73 (0, 0))) (ho : old.size = 81) :
    (storeCells ⟨g, 0, none⟩ C.toList 0).run Try.prog w = .ok () (w.setRow g C) ∧ (w.setRow g C).rangeAt g 0 (oneV s T) := by
  have := hC.out
  subst this
  exact ⟨store_arr _ hg ho, range_box (heap_setRow hg)⟩
theorem filled_packB (n K : Nat) (P : Nat → Nat → Bool) (cap : Array Value) (w : World) (hn : n ≤ 8) (hK : ∀ (args : Array Value) (W : World), (callFunc K args).run Try.prog W = .ok (.enter K args) W)
    (hf : ∀ (W : World), Below w.heap.size w W → ∀ i j : Nat, i ≤ j → j ≤ n → Calls Try.prog K (#[.int .i64 i, .int .i64 j] ++ cap) W fun r W' => r = .returned (.bool (P i j)) ∧ Below W.heap.size W W') :
    Calls Try.prog 73 #[.int .i64 n, .func (.func K) #[] cap] w (ArrC w (upTo n P)) := (filled_below n K P cap w hn hK hf).mono fun r w' h => (FillD.arr h).pack
theorem ret_pack2 {p : Tmp} {fn : Func} {C : Array Value} {Q : Nat → Nat → Bool} (h : fn.results = #[.cell p 73]) (hC : Hid (arr Q = C)) (tmps : Array Value) (w : World) (g : Nat) (hp : tmps.getD p undef = .pointer (some ⟨g, 0, none⟩)) (hg : Hid (ArrB w g Q)) :
    (results fn tmps).run Try.prog w = .ok (.agg C) w := ret_pack h hC tmps w g hp (unhide hg)
theorem own_none {w : World} {base n sc : Nat} {t : TypeId} {xs : List Value} (h : w.ownsRow base t 81 (.slice none n sc) n xs) : sc = 0 := by
  rcases h.2 with ⟨h0, _⟩ | ⟨g', cap', cur', e1, -⟩
  · injection h0
  · cases e1
theorem own_someSp {w : World} {base n sc : Nat} {t : TypeId} {ad : Addr} {xs : List Value} (h : w.ownsRow base t 81 (.slice (some ad) n sc) n xs) : ∃ g, ad = ⟨g, 0, none⟩ := by
  rcases h.2 with ⟨h0, _⟩ | ⟨g', cap', cur', e1, -⟩
  · cases h0
  · injection e1 with e1 _ _; injection e1 with e1; exact ⟨_, e1⟩
theorem wpList_load_rng {ops : Array Oper} {rest : List Oper} {o : Oper} {a : Act} {w : World} {Q' : Exit → Act → World → Prop} (hgd : o.guard = none) (x : Operand) (ho : o.op = .load 73 x)
    (g : Nat) (hx : a.eval x = .pointer (some ⟨g, 0, none⟩)) (C : Array Value) (s : List UInt8) (t : Ex) (hC : Hid (arr (upTo s.length (t.sp s)) = C)) (hg : w.rangeAt g 0 (oneV s t)) (h : wpList Try.prog ops Q' rest (a.put o.dst (.agg C)) w) : wpList Try.prog ops Q' (o :: rest) a w := by
  have := hC.out
  subst this
  refine wpList_load_mid hgd 73 x ho g 0 hx (oneV s t) _ hg Try.underlying73 rfl (by rw [oneV_length]; kernel_rfl) ?_
  have e : (oneV s t).toArray = arr (upTo s.length (t.sp s)) := by simp [oneV]
  rw [e]
  exact h

set_option maxHeartbeats 4000000 in
theorem spansOf_any (w : World) (A : Option Addr) (n c : Nat) (e : List Pt) (s : ByteArray) (h : PS w w.heap.size A n e) (hn : n ≤ 60) (hv : runD e 0 = some 1) (hs : letsB s.data.toList = true) (h8 : s.size ≤ 8) :
    Calls Try.prog 63 #[.slice A n c, .string s] w (SpansD w e s.data.toList) := by
  have hmf := hmf_any
  have HL := Lib.hid h.1
  have HN := hide h
  have HV := Lib.hid hv
  have HS := Lib.hid hs
  have HSL := Lib.hid (show s.data.toList.length = s.size by simp)
  clear h hv hs
  go_enter Try.func63, Try.ntmps63
  go_wp2_with fail
  generalize hW : World.alloc _ _ = W
  have HI := hide (SpI.start w W s e hW)
  clear hW
  go_loopw [6, 17] (fun sv i wr => ∃ (k : Nat) (ts : List Ex), i = .int .i64 k ∧ k ≤ n ∧ Hid (SpI w wr s e sv k ts)) (fun _ i _ => n - (intOf i).toNat)
  case atStart => exact ⟨0, [], rfl, Nat.zero_le _, HI⟩
  case round =>
    clear HI
    obtain ⟨i, ts, rfl, hi, hI⟩ := hrel
    by_cases hlt : i < n
    · obtain ⟨b, off, k, l, rfl, hbB, he, hc0, hc1⟩ := ((unhide HN).below (Nat.le_refl _) (unhide hI).bl).at hlt
      have hz := (unhide hI).bl.size
      have HP := Lib.hid (part_cases HV.out he (unhide hI).run (unhide hI).fl (unhide hI).gd)
      clear he
      have hbw : b < wr.heap.size := by omega
      obtain ⟨SA, sc, hsv, hsc, hSA⟩ := own_shape (unhide hI).own
      subst hsv
      obtain ⟨m, hm⟩ : ∃ m, ts.length = m := ⟨_, rfl⟩
      have hm60 : m ≤ 60 := by have := (unhide hI).le; omega
      have hwsz := (unhide hI).size
      rcases HP.out with ⟨hgd, hnn, hfl⟩ | ⟨us, a, hts, hk, hl, hnn, hfl⟩ | ⟨us, a, a2, hts, hk, hl, hnn, hfl⟩
      · clear HP hnn
        have hpre : ∃ vs, ts = ts ++ vs := ⟨[], by simp⟩
        have hle : Opq (ts.length ≤ ts.length) := ⟨Nat.le_refl _⟩
        have HG : Opq (∀ x ∈ ts ++ [.leaf k l], x.good) := ⟨by
          intro x hx
          rcases List.mem_append.1 hx with hx | hx
          · exact (unhide hI).gd x hx
          · simp at hx; subst hx; exact hgd⟩
        have HF : Opq (flats (ts ++ [.leaf k l]) = e.take (i + 1)) := ⟨hfl⟩
        have HM : Opq (ts.length = m) := ⟨hm⟩
        have HJ : Opq (ts.length = m) := ⟨hm⟩
        have hSA' : 0 < m → ∃ g, SA = some ⟨g, 0, none⟩ := by rw [← hm]; exact hSA
        have hsc' : m ≤ sc := by rw [← hm]; exact hsc
        rw [hm]
        clear hm hfl hSA hsc
        have hmi : (m : Int) ≤ (sc : Int) := by omega
        have hmi0 : (0 : Int) ≤ (m : Int) := by omega
        rcases hgd with ⟨rfl | rfl, rfl⟩ | ⟨rfl, l0, l2⟩
        · skip
          have hnd : ∀ W, Calls Try.prog 72 #[part 1 0] W fun e w' => e = .returned (.int .i64 0) ∧ W.alloc (pbox 1 0) = w' := needs_any 1 0
          go_wp2_with (first | (go_at_call 72; refine (hnd _).mono ?_; rintro e w' ⟨rfl, rfl⟩))
          generalize hW5 : World.alloc _ _ = W5
          obtain ⟨z0, z5, J0, zs⟩ := six_new wr 1 0 W5 hW5
          clear hW5 hnd
          obtain ⟨g12, hg12⟩ : ∃ g12, wr.heap.size + 1 + 1 + 1 + 1 + 1 = g12 := ⟨_, rfl⟩
          rw [hg12] at z5 ⊢
          have JG2 : g12 < W5.heap.size := by omega
          have h12 : wr.heap.size ≤ g12 := by omega
          have J2 : W5.rangeAt g12 0 (oneV s.data.toList (.leaf 1 0)) := by rw [← zero_one]; exact range_box z5.out
          clear z0 z5 zs hg12
          by_cases hm0 : 0 < m
          · obtain ⟨g, rfl⟩ := hSA' hm0
            obtain ⟨cs, HCS, hcl, JR2, hci, NR, JO, JB, JC, JL, JN, JW, JV⟩ := round_pack (w := w) (sc := sc) (SA := (some ⟨g, 0, none⟩)) (us := ts) (T := .leaf 1 0) J0 h12 J2 JG2 (unhide hI).size (HM.out ▸ (unhide hI).own) hpre HM.out HJ.out
            have hau := Try.underlying73
            clear J2
            go_region_held3 (fun w' => w'.rangeAt g12 0 cs) (first | exact JR2 | exact JC | exact JR | (go_keep_ranges))
              (first | (rw [fold_span cs hcl]; rotate_left; rfl; refine step_append_span rfl (.tmp 78) (.tmp 80) rfl (w.heap.size + 2) (.slice (some ⟨g, 0, none⟩) m sc) m s.data.toList ts rfl JO W5.heap.size (.leaf 1 0) rfl (by rw [HCS.out]; exact NR) (by omega) JB ?_; intro v9 w9 hown9 hgrow9; have JR := range_grown JC hgrow9 JN JL))
            have HX := hide (SpI.next (unhide hI) JW hgrow9 JV HJ hown9 hle.out HF.out HG.out)
            clear JR2 JC JR NR JO JB JL JN JW JV hown9 hgrow9 hci hau
            go_wp2
            go_roundw
            case rel => exact ⟨i + 1, ts ++ [.leaf 1 0], by go_num, by omega, HX⟩
            case measure => simp [intOf]; omega
          · obtain rfl : m = 0 := by omega
            have hnil := HM.out
            have hown0 := (unhide hI).own
            rw [hnil] at hown0
            rcases SA with _ | ad
            · obtain rfl : sc = 0 := own_none hown0
              clear hown0
              obtain ⟨cs, HCS, hcl, JR2, hci, NR, JO, JB, JC, JL, JN, JW, JV⟩ := round_pack (w := w) (sc := 0) (SA := none) (us := ts) (T := .leaf 1 0) J0 h12 J2 JG2 (unhide hI).size (HM.out ▸ (unhide hI).own) hpre HM.out HJ.out
              have hau := Try.underlying73
              clear J2
              go_region_held3 (fun w' => w'.rangeAt g12 0 cs) (first | exact JR2 | exact JC | exact JR | (go_keep_ranges))
                (first | (rw [fold_span cs hcl]; rotate_left; rfl; refine step_append_span rfl (.tmp 78) (.tmp 80) rfl (w.heap.size + 2) (.slice none 0 0) 0 s.data.toList ts rfl JO W5.heap.size (.leaf 1 0) rfl (by rw [HCS.out]; exact NR) (by omega) JB ?_; intro v9 w9 hown9 hgrow9; have JR := range_grown JC hgrow9 JN JL))
              have HX := hide (SpI.next (unhide hI) JW hgrow9 JV HJ hown9 hle.out HF.out HG.out)
              clear JR2 JC JR NR JO JB JL JN JW JV hown9 hgrow9 hci hau
              go_wp2
              go_roundw
              case rel => exact ⟨i + 1, ts ++ [.leaf 1 0], by go_num, by omega, HX⟩
              case measure => simp [intOf]; omega
            · obtain ⟨g, rfl⟩ := own_someSp hown0
              clear hown0
              obtain ⟨cs, HCS, hcl, JR2, hci, NR, JO, JB, JC, JL, JN, JW, JV⟩ := round_pack (w := w) (sc := sc) (SA := (some ⟨g, 0, none⟩)) (us := ts) (T := .leaf 1 0) J0 h12 J2 JG2 (unhide hI).size (HM.out ▸ (unhide hI).own) hpre HM.out HJ.out
              have hau := Try.underlying73
              clear J2
              go_region_held3 (fun w' => w'.rangeAt g12 0 cs) (first | exact JR2 | exact JC | exact JR | (go_keep_ranges))
                (first | (rw [fold_span cs hcl]; rotate_left; rfl; refine step_append_span rfl (.tmp 78) (.tmp 80) rfl (w.heap.size + 2) (.slice (some ⟨g, 0, none⟩) 0 sc) 0 s.data.toList ts rfl JO W5.heap.size (.leaf 1 0) rfl (by rw [HCS.out]; exact NR) (by omega) JB ?_; intro v9 w9 hown9 hgrow9; have JR := range_grown JC hgrow9 JN JL))
              have HX := hide (SpI.next (unhide hI) JW hgrow9 JV HJ hown9 hle.out HF.out HG.out)
              clear JR2 JC JR NR JO JB JL JN JW JV hown9 hgrow9 hci hau
              go_wp2
              go_roundw
              case rel => exact ⟨i + 1, ts ++ [.leaf 1 0], by go_num, by omega, HX⟩
              case measure => simp [intOf]; omega
        · skip
          have hnd : ∀ W, Calls Try.prog 72 #[part 2 0] W fun e w' => e = .returned (.int .i64 0) ∧ W.alloc (pbox 2 0) = w' := needs_any 2 0
          go_wp2_with (first | (go_at_call 72; refine (hnd _).mono ?_; rintro e w' ⟨rfl, rfl⟩))
          generalize hW3 : World.alloc _ _ = W3
          obtain ⟨z0, z5, J3, zs⟩ := six_new wr 2 0 W3 hW3
          clear hW3 hnd
          obtain ⟨g12, hg12⟩ : ∃ g12, wr.heap.size + 1 + 1 + 1 + 1 + 1 = g12 := ⟨_, rfl⟩
          rw [hg12] at z5 ⊢
          have JG3 : g12 < W3.heap.size := by omega
          have h12 : wr.heap.size ≤ g12 := by omega
          clear hg12
          refine (filled_pack s.size 74 (fun i j => decide (i = j)) #[] _ h8 enter_of1 (fun W' hW i j hij hj => (app20 _ _).symm ▸ ((spEmpty_any i j W').mono fun r w' h => ⟨by rw [h.1]; exact ret_bool (by simp; omega), h.2⟩))).mono ?_
          rintro r w8 ⟨C8, rfl, hC8, hC8s, hb8⟩
          have hT := arr_ev (T := .leaf 2 0) HSL (fun i j h1 h2 => rfl) hC8
          obtain ⟨hst, J2⟩ := own_store hT ((hb8.block _ JG3).trans z5.out) zero_81
          have J0 := below_setRow (J3.trans (hb8.mono J3.size)) h12 C8
          have JG2 : g12 < (w8.setRow g12 C8).heap.size := by rw [size_setRow]; have := hb8.size; omega
          clear z0 z5 zs hb8 hC8 hT J3 JG3
          go_wp2
          generalize World.setRow _ _ _ = W5 at *
          clear hst
          by_cases hm0 : 0 < m
          · obtain ⟨g, rfl⟩ := hSA' hm0
            obtain ⟨cs, HCS, hcl, JR2, hci, NR, JO, JB, JC, JL, JN, JW, JV⟩ := round_pack (w := w) (sc := sc) (SA := (some ⟨g, 0, none⟩)) (us := ts) (T := .leaf 2 0) J0 h12 J2 JG2 (unhide hI).size (HM.out ▸ (unhide hI).own) hpre HM.out HJ.out
            have hau := Try.underlying73
            clear J2
            go_region_held3 (fun w' => w'.rangeAt g12 0 cs) (first | exact JR2 | exact JC | exact JR | (go_keep_ranges))
              (first | (rw [fold_span cs hcl]; rotate_left; rfl; refine step_append_span rfl (.tmp 78) (.tmp 80) rfl (w.heap.size + 2) (.slice (some ⟨g, 0, none⟩) m sc) m s.data.toList ts rfl JO W5.heap.size (.leaf 2 0) rfl (by rw [HCS.out]; exact NR) (by omega) JB ?_; intro v9 w9 hown9 hgrow9; have JR := range_grown JC hgrow9 JN JL))
            have HX := hide (SpI.next (unhide hI) JW hgrow9 JV HJ hown9 hle.out HF.out HG.out)
            clear JR2 JC JR NR JO JB JL JN JW JV hown9 hgrow9 hci hau
            go_wp2
            go_roundw
            case rel => exact ⟨i + 1, ts ++ [.leaf 2 0], by go_num, by omega, HX⟩
            case measure => simp [intOf]; omega
          · obtain rfl : m = 0 := by omega
            have hnil := HM.out
            have hown0 := (unhide hI).own
            rw [hnil] at hown0
            rcases SA with _ | ad
            · obtain rfl : sc = 0 := own_none hown0
              clear hown0
              obtain ⟨cs, HCS, hcl, JR2, hci, NR, JO, JB, JC, JL, JN, JW, JV⟩ := round_pack (w := w) (sc := 0) (SA := none) (us := ts) (T := .leaf 2 0) J0 h12 J2 JG2 (unhide hI).size (HM.out ▸ (unhide hI).own) hpre HM.out HJ.out
              have hau := Try.underlying73
              clear J2
              go_region_held3 (fun w' => w'.rangeAt g12 0 cs) (first | exact JR2 | exact JC | exact JR | (go_keep_ranges))
                (first | (rw [fold_span cs hcl]; rotate_left; rfl; refine step_append_span rfl (.tmp 78) (.tmp 80) rfl (w.heap.size + 2) (.slice none 0 0) 0 s.data.toList ts rfl JO W5.heap.size (.leaf 2 0) rfl (by rw [HCS.out]; exact NR) (by omega) JB ?_; intro v9 w9 hown9 hgrow9; have JR := range_grown JC hgrow9 JN JL))
              have HX := hide (SpI.next (unhide hI) JW hgrow9 JV HJ hown9 hle.out HF.out HG.out)
              clear JR2 JC JR NR JO JB JL JN JW JV hown9 hgrow9 hci hau
              go_wp2
              go_roundw
              case rel => exact ⟨i + 1, ts ++ [.leaf 2 0], by go_num, by omega, HX⟩
              case measure => simp [intOf]; omega
            · obtain ⟨g, rfl⟩ := own_someSp hown0
              clear hown0
              obtain ⟨cs, HCS, hcl, JR2, hci, NR, JO, JB, JC, JL, JN, JW, JV⟩ := round_pack (w := w) (sc := sc) (SA := (some ⟨g, 0, none⟩)) (us := ts) (T := .leaf 2 0) J0 h12 J2 JG2 (unhide hI).size (HM.out ▸ (unhide hI).own) hpre HM.out HJ.out
              have hau := Try.underlying73
              clear J2
              go_region_held3 (fun w' => w'.rangeAt g12 0 cs) (first | exact JR2 | exact JC | exact JR | (go_keep_ranges))
                (first | (rw [fold_span cs hcl]; rotate_left; rfl; refine step_append_span rfl (.tmp 78) (.tmp 80) rfl (w.heap.size + 2) (.slice (some ⟨g, 0, none⟩) 0 sc) 0 s.data.toList ts rfl JO W5.heap.size (.leaf 2 0) rfl (by rw [HCS.out]; exact NR) (by omega) JB ?_; intro v9 w9 hown9 hgrow9; have JR := range_grown JC hgrow9 JN JL))
              have HX := hide (SpI.next (unhide hI) JW hgrow9 JV HJ hown9 hle.out HF.out HG.out)
              clear JR2 JC JR NR JO JB JL JN JW JV hown9 hgrow9 hci hau
              go_wp2
              go_roundw
              case rel => exact ⟨i + 1, ts ++ [.leaf 2 0], by go_num, by omega, HX⟩
              case measure => simp [intOf]; omega
        · skip
          have hnd : ∀ W, Calls Try.prog 72 #[part 3 l] W fun e w' => e = .returned (.int .i64 0) ∧ W.alloc (pbox 3 l) = w' := needs_any 3 l
          go_wp2_with (first | (go_at_call 72; refine (hnd _).mono ?_; rintro e w' ⟨rfl, rfl⟩))
          generalize hW3 : World.alloc _ _ = W3
          obtain ⟨z0, z5, J3, zs⟩ := six_new wr 3 l W3 hW3
          clear hW3 hnd
          obtain ⟨g12, hg12⟩ : ∃ g12, wr.heap.size + 1 + 1 + 1 + 1 + 1 = g12 := ⟨_, rfl⟩
          rw [hg12] at z5 ⊢
          have JG3 : g12 < W3.heap.size := by omega
          have h12 : wr.heap.size ≤ g12 := by omega
          clear hg12
          have ZS := hide ((J3.block _ (by have := (unhide hI).size; omega)).trans (unhide hI).sb)
          have ZP := hide z0
          refine (filled_packB s.size 75 (fun i j => decide (j = i + 1) && letAt s.data.toList i l) #[.pointer (some ⟨w.heap.size, 0, none⟩), .pointer (some ⟨wr.heap.size, 0, none⟩)] _ h8 enter_of2 (fun W' hW i j hij hj => (app22 _ _ _ _).symm ▸ of2_any W' _ _ i j s 3 l hij hj h8 HS.out ((hW.block _ (by have := (unhide hI).size; have := J3.size; omega)).trans (unhide ZS)) ((hW.block _ (by omega)).trans (unhide ZP)))).mono ?_
          rintro r w8 ⟨C8, rfl, hC8, hC8s, hb8⟩
          have hT := arr_ev (T := .leaf 3 l) HSL (fun i j h1 h2 => rfl) hC8
          clear ZS ZP
          obtain ⟨hst, J2⟩ := own_store hT ((hb8.block _ JG3).trans z5.out) zero_81
          have J0 := below_setRow (J3.trans (hb8.mono J3.size)) h12 C8
          have JG2 : g12 < (w8.setRow g12 C8).heap.size := by rw [size_setRow]; have := hb8.size; omega
          clear z0 z5 zs hb8 hC8 hT J3 JG3
          go_wp2
          generalize World.setRow _ _ _ = W5 at *
          clear hst
          by_cases hm0 : 0 < m
          · obtain ⟨g, rfl⟩ := hSA' hm0
            obtain ⟨cs, HCS, hcl, JR2, hci, NR, JO, JB, JC, JL, JN, JW, JV⟩ := round_pack (w := w) (sc := sc) (SA := (some ⟨g, 0, none⟩)) (us := ts) (T := .leaf 3 l) J0 h12 J2 JG2 (unhide hI).size (HM.out ▸ (unhide hI).own) hpre HM.out HJ.out
            have hau := Try.underlying73
            clear J2
            go_region_held3 (fun w' => w'.rangeAt g12 0 cs) (first | exact JR2 | exact JC | exact JR | (go_keep_ranges))
              (first | (rw [fold_span cs hcl]; rotate_left; rfl; refine step_append_span rfl (.tmp 78) (.tmp 80) rfl (w.heap.size + 2) (.slice (some ⟨g, 0, none⟩) m sc) m s.data.toList ts rfl JO W5.heap.size (.leaf 3 l) rfl (by rw [HCS.out]; exact NR) (by omega) JB ?_; intro v9 w9 hown9 hgrow9; have JR := range_grown JC hgrow9 JN JL))
            have HX := hide (SpI.next (unhide hI) JW hgrow9 JV HJ hown9 hle.out HF.out HG.out)
            clear JR2 JC JR NR JO JB JL JN JW JV hown9 hgrow9 hci hau
            go_wp2
            go_roundw
            case rel => exact ⟨i + 1, ts ++ [.leaf 3 l], by go_num, by omega, HX⟩
            case measure => simp [intOf]; omega
          · obtain rfl : m = 0 := by omega
            have hnil := HM.out
            have hown0 := (unhide hI).own
            rw [hnil] at hown0
            rcases SA with _ | ad
            · obtain rfl : sc = 0 := own_none hown0
              clear hown0
              obtain ⟨cs, HCS, hcl, JR2, hci, NR, JO, JB, JC, JL, JN, JW, JV⟩ := round_pack (w := w) (sc := 0) (SA := none) (us := ts) (T := .leaf 3 l) J0 h12 J2 JG2 (unhide hI).size (HM.out ▸ (unhide hI).own) hpre HM.out HJ.out
              have hau := Try.underlying73
              clear J2
              go_region_held3 (fun w' => w'.rangeAt g12 0 cs) (first | exact JR2 | exact JC | exact JR | (go_keep_ranges))
                (first | (rw [fold_span cs hcl]; rotate_left; rfl; refine step_append_span rfl (.tmp 78) (.tmp 80) rfl (w.heap.size + 2) (.slice none 0 0) 0 s.data.toList ts rfl JO W5.heap.size (.leaf 3 l) rfl (by rw [HCS.out]; exact NR) (by omega) JB ?_; intro v9 w9 hown9 hgrow9; have JR := range_grown JC hgrow9 JN JL))
              have HX := hide (SpI.next (unhide hI) JW hgrow9 JV HJ hown9 hle.out HF.out HG.out)
              clear JR2 JC JR NR JO JB JL JN JW JV hown9 hgrow9 hci hau
              go_wp2
              go_roundw
              case rel => exact ⟨i + 1, ts ++ [.leaf 3 l], by go_num, by omega, HX⟩
              case measure => simp [intOf]; omega
            · obtain ⟨g, rfl⟩ := own_someSp hown0
              clear hown0
              obtain ⟨cs, HCS, hcl, JR2, hci, NR, JO, JB, JC, JL, JN, JW, JV⟩ := round_pack (w := w) (sc := sc) (SA := (some ⟨g, 0, none⟩)) (us := ts) (T := .leaf 3 l) J0 h12 J2 JG2 (unhide hI).size (HM.out ▸ (unhide hI).own) hpre HM.out HJ.out
              have hau := Try.underlying73
              clear J2
              go_region_held3 (fun w' => w'.rangeAt g12 0 cs) (first | exact JR2 | exact JC | exact JR | (go_keep_ranges))
                (first | (rw [fold_span cs hcl]; rotate_left; rfl; refine step_append_span rfl (.tmp 78) (.tmp 80) rfl (w.heap.size + 2) (.slice (some ⟨g, 0, none⟩) 0 sc) 0 s.data.toList ts rfl JO W5.heap.size (.leaf 3 l) rfl (by rw [HCS.out]; exact NR) (by omega) JB ?_; intro v9 w9 hown9 hgrow9; have JR := range_grown JC hgrow9 JN JL))
              have HX := hide (SpI.next (unhide hI) JW hgrow9 JV HJ hown9 hle.out HF.out HG.out)
              clear JR2 JC JR NR JO JB JL JN JW JV hown9 hgrow9 hci hau
              go_wp2
              go_roundw
              case rel => exact ⟨i + 1, ts ++ [.leaf 3 l], by go_num, by omega, HX⟩
              case measure => simp [intOf]; omega
      · clear HP hnn
        obtain ⟨j, hj⟩ : ∃ j, us.length = j := ⟨_, rfl⟩
        have hmj : m = j + 1 := by rw [← hm, hts, List.length_append, hj]; rfl
        have hat : Opq (ts[j]? = some a) := ⟨by rw [hts, List.getElem?_append_right (by omega), hj]; simp⟩
        have hbt := hat
        have hpre : ∃ vs, ts = us ++ vs := ⟨[a], hts⟩
        have hle : Opq (us.length ≤ ts.length) := ⟨by rw [hts, List.length_append]; omega⟩
        have HG : Opq (∀ x ∈ us ++ [.un k a], x.good) := ⟨by
          intro x hx
          rcases List.mem_append.1 hx with hx | hx
          · exact (unhide hI).gd x (by rw [hts]; simp [hx])
          · simp at hx; subst hx; exact ⟨hk, (unhide hI).gd a (by rw [hts]; simp)⟩⟩
        have HF : Opq (flats (us ++ [.un k a]) = e.take (i + 1)) := ⟨hfl⟩
        have HM : Opq (ts.length = m) := ⟨hm⟩
        have HJ : Opq (us.length = j) := ⟨hj⟩
        have HMJ : Opq (m = j + 1) := ⟨hmj⟩
        obtain ⟨g, hSg⟩ := hSA (by rw [hm]; omega)
        subst hSg
        subst hl
        have hsc' : m ≤ sc := by rw [← hm]; exact hsc
        have hw1 : IntKind.i64.wrap ((m : Int) - 1) = (j : Int) := by rw [show (m : Int) - 1 = (j : Int) by omega]; exact IntWalk.i64_in _ (by omega)
        have jw : IntKind.i64.wrap (j : Int) = (j : Int) := IntWalk.i64_in _ (by omega)
        have hmi : (j : Int) < (m : Int) := by omega
        have hmi0 : (0 : Int) ≤ (j : Int) := by omega
        have hjsc : (j : Int) ≤ (sc : Int) := by omega
        have hgl : g < wr.heap.size := ((unhide hI).own.lt g rfl).2
        rw [hm]
        clear hm hfl hSA hsc hts hj hmj
        rcases hk with rfl | rfl
        · skip
          have hnd : ∀ W, Calls Try.prog 72 #[part 7 0] W fun e w' => e = .returned (.int .i64 1) ∧ W.alloc (pbox 7 0) = w' := needs_any 7 0
          go_wp2_with (first | (go_at_call 72; refine (hnd _).mono ?_; rintro e w' ⟨rfl, rfl⟩))
          generalize hW1 : World.alloc _ _ = W1
          obtain ⟨z0, z1, z2, J1, zs⟩ := five_new wr 7 0 W1 hW1
          clear hW1 hnd
          obtain ⟨gx, hgx⟩ : ∃ gx, wr.heap.size + 1 = gx := ⟨_, rfl⟩
          obtain ⟨gy, hgy⟩ : ∃ gy, gx + 1 = gy := ⟨_, rfl⟩
          rw [hgx] at z1 z2 ⊢
          rw [hgy] at z2 ⊢
          have hgxy : g < gx ∧ gx < gy ∧ gy < W1.heap.size ∧ wr.heap.size < gx := by omega
          obtain ⟨hgx1, hgx2, hgx3, hgx4⟩ := hgxy
          have OW := own_keep (unhide hI).own J1
          have RA := stk_range OW rfl hat.out
          have RB := stk_range OW rfl hbt.out
          have TX := there_box z1 zero_81
          have TY := there_box z2 zero_81
          have ca1 := oneV_one s.data.toList a
          have cal := oneV_length s.data.toList a
          have cb1 := oneV_one s.data.toList a
          have cbl := oneV_length s.data.toList a
          obtain ⟨ca, hca⟩ : ∃ ca, oneV s.data.toList a = ca := ⟨_, rfl⟩
          rw [hca] at RA ca1 cal
          obtain ⟨cb, hcb⟩ : ∃ cb, oneV s.data.toList a = cb := ⟨_, rfl⟩
          rw [hcb] at RB cb1 cbl
          have HCA : Opq (oneV s.data.toList a = ca) := ⟨hca⟩
          have HCB : Opq (oneV s.data.toList a = cb) := ⟨hcb⟩
          have hcia : (Try.prog.info? 73).map (·.size) = some ca.length := by rw [cal]; kernel_rfl
          have hcib : (Try.prog.info? 73).map (·.size) = some cb.length := by rw [cbl]; kernel_rfl
          have Z1 : Opq (W1.heap[gx]? = some (.cells Try.zeroCells73 73 (0, 0))) := ⟨z1⟩
          have Z2 : Opq (W1.heap[gy]? = some (.cells Try.zeroCells73 73 (0, 0))) := ⟨z2⟩
          have Z0 : Opq (W1.heap[wr.heap.size]? = some (pbox 7 0)) := ⟨z0⟩
          have ZS : Opq (W1.heap.size = wr.heap.size + 5) := ⟨zs⟩
          clear hca hcb hgx hgy z1 z2 z0 zs OW
          refine wp_region_noPanic ?_
          refine wp_region_held_drew (S := fun w' => w'.rangeAt g (j * 81) ca ∧ w'.rangeAt g (j * 81) cb) (by kernel_rfl) ⟨RA, RB⟩ (fun hHeld => ?_)
          refine take0 (v := .slice (some ⟨g, 0, none⟩) m sc) (by kernel_rfl) (by kernel_rfl) (by kernel_rfl) (fun _ _ _ h => h) (Or.inl ⟨by rfl, by intro w hSw; (try dsimp only at hSw); go_simp⟩) hHeld ?_
          simp only [Act.put, List.setIfInBounds_toArray, List.set_cons_zero, List.set_cons_succ]
          refine take1 (v := .int .i64 (j : Int)) (by kernel_rfl) (by kernel_rfl) (by kernel_rfl) (fun _ _ _ h => h) (Or.inl ⟨by rfl, by intro w hSw; (try dsimp only at hSw); go_simp⟩) hHeld ?_
          simp only [Act.put, List.setIfInBounds_toArray, List.set_cons_zero, List.set_cons_succ]
          refine take2 (v := .pointer (some ⟨g, j * 81, none⟩)) (by kernel_rfl) (by kernel_rfl) (by kernel_rfl) (fun _ _ _ h => h) (Or.inl ⟨by rfl, by intro w hSw; (try dsimp only at hSw); go_simp⟩) hHeld ?_
          simp only [Act.put, List.setIfInBounds_toArray, List.set_cons_zero, List.set_cons_succ]
          refine take3 (v := .agg ca.toArray) (by kernel_rfl) (by kernel_rfl) (by kernel_rfl) (fun _ _ _ h => h) (yieldsIf_load_mid (by rfl) 73 (.tmp 31) rfl g (j * 81) rfl ca _ (fun w h => h.1) Try.underlying73 rfl hcia) hHeld ?_
          simp only [Act.put, List.setIfInBounds_toArray, List.set_cons_zero, List.set_cons_succ]
          refine take4 (v := .slice (some ⟨g, 0, none⟩) m sc) (by kernel_rfl) (by kernel_rfl) (by kernel_rfl) (fun _ _ _ h => h) (Or.inl ⟨by rfl, by intro w hSw; (try dsimp only at hSw); go_simp⟩) hHeld ?_
          simp only [Act.put, List.setIfInBounds_toArray, List.set_cons_zero, List.set_cons_succ]
          refine take5 (v := .slice (some ⟨g, 0, none⟩) m sc) (by kernel_rfl) (by kernel_rfl) (by kernel_rfl) (fun _ _ _ h => h) (Or.inl ⟨by rfl, by intro w hSw; (try dsimp only at hSw); go_simp⟩) hHeld ?_
          simp only [Act.put, List.setIfInBounds_toArray, List.set_cons_zero, List.set_cons_succ]
          refine take6 (v := .int .i64 (m : Int)) (by kernel_rfl) (by kernel_rfl) (by kernel_rfl) (fun _ _ _ h => h) (Or.inl ⟨by rfl, by intro w hSw; (try dsimp only at hSw); go_simp⟩) hHeld ?_
          simp only [Act.put, List.setIfInBounds_toArray, List.set_cons_zero, List.set_cons_succ]
          refine take7 (v := .int .i64 (j : Int)) (by kernel_rfl) (by kernel_rfl) (by kernel_rfl) (fun _ _ _ h => h) (Or.inl ⟨by rfl, by intro w hSw; (try dsimp only at hSw); go_simp⟩) hHeld ?_
          simp only [Act.put, List.setIfInBounds_toArray, List.set_cons_zero, List.set_cons_succ]
          refine take8 (v := .pointer (some ⟨g, j * 81, none⟩)) (by kernel_rfl) (by kernel_rfl) (by kernel_rfl) (fun _ _ _ h => h) (Or.inl ⟨by rfl, by intro w hSw; (try dsimp only at hSw); go_simp⟩) hHeld ?_
          simp only [Act.put, List.setIfInBounds_toArray, List.set_cons_zero, List.set_cons_succ]
          refine take9 (v := .agg cb.toArray) (by kernel_rfl) (by kernel_rfl) (by kernel_rfl) (fun _ _ _ h => h) (yieldsIf_load_mid (by rfl) 73 (.tmp 37) rfl g (j * 81) rfl cb _ (fun w h => h.2) Try.underlying73 rfl hcib) hHeld ?_
          simp only [Act.put, List.setIfInBounds_toArray, List.set_cons_zero, List.set_cons_succ]
          refine store10 (by kernel_rfl) rfl 73 (.tmp 9) (.tmp 32) rfl rfl gx 81 ca rfl rfl ((World.there_drew _ _ _ _).2 TX) cal hcia ca1 ⟨World.rangeAt_setCells_apart hHeld.1 gx 0 ca (.inl (by omega)), World.rangeAt_setCells_apart hHeld.2 gx 0 ca (.inl (by omega))⟩ ?_
          refine store11 (by kernel_rfl) rfl 73 (.tmp 10) (.tmp 38) rfl rfl gy 81 cb rfl rfl (World.there_setCells ((World.there_drew _ _ _ _).2 TY) gx 0 ca) cbl hcib cb1 ⟨World.rangeAt_setCells_apart (World.rangeAt_setCells_apart hHeld.1 gx 0 ca (.inl (by omega))) gy 0 cb (.inl (by omega)), World.rangeAt_setCells_apart (World.rangeAt_setCells_apart hHeld.2 gx 0 ca (.inl (by omega))) gy 0 cb (.inl (by omega))⟩ ?_
          refine wpAnyH_done (by kernel_rfl) ?_ _
          refine NoPanic.normal ?_
          generalize hW2 : World.setCells _ _ _ _ = W2
          obtain ⟨XA, XB, hk0, J2w, hs2⟩ := two_stores hW2 Z1.out Z2.out Z0.out hgx4 hgx2 J1 HCA.out HCB.out
          have HS2 : Opq (W2.heap.size = W1.heap.size) := ⟨hs2⟩
          have hk1 : wr.heap.size < W2.heap.size := by omega
          clear hW2 hHeld RA RB TX TY ca1 cb1 cal cbl hcia hcib HCA HCB Z1 Z2 Z0 hs2
          have hgx3' : gy < W2.heap.size := by rw [HS2.out]; exact hgx3
          have HXA := hide XA
          have HXB := hide XB
          clear XA XB
          go_wp2_with fail
          obtain ⟨W3, hW3⟩ : ∃ W3, W2.alloc (.cells Try.zeroCells73 73) = W3 := ⟨_, rfl⟩
          have z5 : Opq (W3.heap[W2.heap.size]? = some (.cells Try.zeroCells73 73 (0, 0))) := ⟨by rw [← hW3]; exact heap_alloc_new _ _⟩
          have YA := hide (show ArrB W3 gx _ by rw [← hW3]; exact (unhide HXA).alloc _)
          have YB := hide (show ArrB W3 gy _ by rw [← hW3]; exact (unhide HXB).alloc _)
          have J3 : Below wr.heap.size wr W3 := by rw [← hW3]; exact J2w.alloc (Nat.le_of_lt hk1) _
          have JG3 : W2.heap.size < W3.heap.size := by rw [← hW3, World.size_alloc]; omega
          rw [hW3]
          clear hW3 HXA HXB J2w hk0
          generalize W2.heap.size = g12 at *
          refine (filled_pack s.size 79 (fun i j => !(upTo s.data.toList.length (a.sp s.data.toList) i j)) #[.pointer (some ⟨gx, 0, none⟩)] _ h8 enter_of5 (fun W' hW i j hij hj => (app21 _ _ _).symm ▸ of5_any W' _ i j _ hij (by omega) ((unhide YA).up hW))).mono ?_
          rintro r w8 ⟨C8, rfl, hC8, hC8s, hb8⟩
          have hT := arr_ev (T := .un 7 a) HSL (fun i j h1 h2 => by rw [upTo_at h1 (by rw [HSL.out]; exact h2)]; simp [Ex.sp]) hC8
          obtain ⟨hst, J2⟩ := own_store hT ((hb8.block _ JG3).trans z5.out) zero_81
          have h12 : wr.heap.size ≤ g12 := by omega
          have J0 := below_setRow (J3.trans (hb8.mono J3.size)) h12 C8
          have JG2 : g12 < (w8.setRow g12 C8).heap.size := by rw [size_setRow]; have := hb8.size; omega
          clear z5 hb8 hC8 hT J3 JG3
          go_wp2
          generalize World.setRow _ _ _ = W5 at *
          clear hst
          obtain ⟨cs, HCS, hcl, JR2, hci, NR, JO, JB, JC, JL, JN, JW, JV⟩ := round_pack (w := w) (sc := sc) (SA := (some ⟨g, 0, none⟩)) (us := us) (T := .un 7 a) J0 h12 J2 JG2 (unhide hI).size (HM.out ▸ (unhide hI).own) hpre HM.out HJ.out
          have hau := Try.underlying73
          clear J2
          go_region_held3 (fun w' => w'.rangeAt g12 0 cs) (first | exact JR2 | exact JC | exact JR | (go_keep_ranges))
            (first | (rw [fold_span cs hcl]; rotate_left; rfl; refine step_append_span rfl (.tmp 78) (.tmp 80) rfl (w.heap.size + 2) (.slice (some ⟨g, 0, none⟩) j sc) j s.data.toList us rfl JO W5.heap.size (.un 7 a) rfl (by rw [HCS.out]; exact NR) (by omega) JB ?_; intro v9 w9 hown9 hgrow9; have JR := range_grown JC hgrow9 JN JL))
          have HX := hide (SpI.next (unhide hI) JW hgrow9 JV HJ hown9 hle.out HF.out HG.out)
          clear JR2 JC JR NR JO JB JL JN JW JV hown9 hgrow9 hci hau
          go_wp2
          go_roundw
          case rel => exact ⟨i + 1, us ++ [.un 7 a], by go_num, by omega, HX⟩
          case measure => simp [intOf]; omega
        · skip
          have hnd : ∀ W, Calls Try.prog 72 #[part 8 0] W fun e w' => e = .returned (.int .i64 1) ∧ W.alloc (pbox 8 0) = w' := needs_any 8 0
          go_wp2_with (first | (go_at_call 72; refine (hnd _).mono ?_; rintro e w' ⟨rfl, rfl⟩))
          generalize hW1 : World.alloc _ _ = W1
          obtain ⟨z0, z1, z2, J1, zs⟩ := five_new wr 8 0 W1 hW1
          clear hW1 hnd
          obtain ⟨gx, hgx⟩ : ∃ gx, wr.heap.size + 1 = gx := ⟨_, rfl⟩
          obtain ⟨gy, hgy⟩ : ∃ gy, gx + 1 = gy := ⟨_, rfl⟩
          rw [hgx] at z1 z2 ⊢
          rw [hgy] at z2 ⊢
          have hgxy : g < gx ∧ gx < gy ∧ gy < W1.heap.size ∧ wr.heap.size < gx := by omega
          obtain ⟨hgx1, hgx2, hgx3, hgx4⟩ := hgxy
          have OW := own_keep (unhide hI).own J1
          have RA := stk_range OW rfl hat.out
          have RB := stk_range OW rfl hbt.out
          have TX := there_box z1 zero_81
          have TY := there_box z2 zero_81
          have ca1 := oneV_one s.data.toList a
          have cal := oneV_length s.data.toList a
          have cb1 := oneV_one s.data.toList a
          have cbl := oneV_length s.data.toList a
          obtain ⟨ca, hca⟩ : ∃ ca, oneV s.data.toList a = ca := ⟨_, rfl⟩
          rw [hca] at RA ca1 cal
          obtain ⟨cb, hcb⟩ : ∃ cb, oneV s.data.toList a = cb := ⟨_, rfl⟩
          rw [hcb] at RB cb1 cbl
          have HCA : Opq (oneV s.data.toList a = ca) := ⟨hca⟩
          have HCB : Opq (oneV s.data.toList a = cb) := ⟨hcb⟩
          have hcia : (Try.prog.info? 73).map (·.size) = some ca.length := by rw [cal]; kernel_rfl
          have hcib : (Try.prog.info? 73).map (·.size) = some cb.length := by rw [cbl]; kernel_rfl
          have Z1 : Opq (W1.heap[gx]? = some (.cells Try.zeroCells73 73 (0, 0))) := ⟨z1⟩
          have Z2 : Opq (W1.heap[gy]? = some (.cells Try.zeroCells73 73 (0, 0))) := ⟨z2⟩
          have Z0 : Opq (W1.heap[wr.heap.size]? = some (pbox 8 0)) := ⟨z0⟩
          have ZS : Opq (W1.heap.size = wr.heap.size + 5) := ⟨zs⟩
          clear hca hcb hgx hgy z1 z2 z0 zs OW
          refine wp_region_noPanic ?_
          refine wp_region_held_drew (S := fun w' => w'.rangeAt g (j * 81) ca ∧ w'.rangeAt g (j * 81) cb) (by kernel_rfl) ⟨RA, RB⟩ (fun hHeld => ?_)
          refine take0 (v := .slice (some ⟨g, 0, none⟩) m sc) (by kernel_rfl) (by kernel_rfl) (by kernel_rfl) (fun _ _ _ h => h) (Or.inl ⟨by rfl, by intro w hSw; (try dsimp only at hSw); go_simp⟩) hHeld ?_
          simp only [Act.put, List.setIfInBounds_toArray, List.set_cons_zero, List.set_cons_succ]
          refine take1 (v := .int .i64 (j : Int)) (by kernel_rfl) (by kernel_rfl) (by kernel_rfl) (fun _ _ _ h => h) (Or.inl ⟨by rfl, by intro w hSw; (try dsimp only at hSw); go_simp⟩) hHeld ?_
          simp only [Act.put, List.setIfInBounds_toArray, List.set_cons_zero, List.set_cons_succ]
          refine take2 (v := .pointer (some ⟨g, j * 81, none⟩)) (by kernel_rfl) (by kernel_rfl) (by kernel_rfl) (fun _ _ _ h => h) (Or.inl ⟨by rfl, by intro w hSw; (try dsimp only at hSw); go_simp⟩) hHeld ?_
          simp only [Act.put, List.setIfInBounds_toArray, List.set_cons_zero, List.set_cons_succ]
          refine take3 (v := .agg ca.toArray) (by kernel_rfl) (by kernel_rfl) (by kernel_rfl) (fun _ _ _ h => h) (yieldsIf_load_mid (by rfl) 73 (.tmp 31) rfl g (j * 81) rfl ca _ (fun w h => h.1) Try.underlying73 rfl hcia) hHeld ?_
          simp only [Act.put, List.setIfInBounds_toArray, List.set_cons_zero, List.set_cons_succ]
          refine take4 (v := .slice (some ⟨g, 0, none⟩) m sc) (by kernel_rfl) (by kernel_rfl) (by kernel_rfl) (fun _ _ _ h => h) (Or.inl ⟨by rfl, by intro w hSw; (try dsimp only at hSw); go_simp⟩) hHeld ?_
          simp only [Act.put, List.setIfInBounds_toArray, List.set_cons_zero, List.set_cons_succ]
          refine take5 (v := .slice (some ⟨g, 0, none⟩) m sc) (by kernel_rfl) (by kernel_rfl) (by kernel_rfl) (fun _ _ _ h => h) (Or.inl ⟨by rfl, by intro w hSw; (try dsimp only at hSw); go_simp⟩) hHeld ?_
          simp only [Act.put, List.setIfInBounds_toArray, List.set_cons_zero, List.set_cons_succ]
          refine take6 (v := .int .i64 (m : Int)) (by kernel_rfl) (by kernel_rfl) (by kernel_rfl) (fun _ _ _ h => h) (Or.inl ⟨by rfl, by intro w hSw; (try dsimp only at hSw); go_simp⟩) hHeld ?_
          simp only [Act.put, List.setIfInBounds_toArray, List.set_cons_zero, List.set_cons_succ]
          refine take7 (v := .int .i64 (j : Int)) (by kernel_rfl) (by kernel_rfl) (by kernel_rfl) (fun _ _ _ h => h) (Or.inl ⟨by rfl, by intro w hSw; (try dsimp only at hSw); go_simp⟩) hHeld ?_
          simp only [Act.put, List.setIfInBounds_toArray, List.set_cons_zero, List.set_cons_succ]
          refine take8 (v := .pointer (some ⟨g, j * 81, none⟩)) (by kernel_rfl) (by kernel_rfl) (by kernel_rfl) (fun _ _ _ h => h) (Or.inl ⟨by rfl, by intro w hSw; (try dsimp only at hSw); go_simp⟩) hHeld ?_
          simp only [Act.put, List.setIfInBounds_toArray, List.set_cons_zero, List.set_cons_succ]
          refine take9 (v := .agg cb.toArray) (by kernel_rfl) (by kernel_rfl) (by kernel_rfl) (fun _ _ _ h => h) (yieldsIf_load_mid (by rfl) 73 (.tmp 37) rfl g (j * 81) rfl cb _ (fun w h => h.2) Try.underlying73 rfl hcib) hHeld ?_
          simp only [Act.put, List.setIfInBounds_toArray, List.set_cons_zero, List.set_cons_succ]
          refine store10 (by kernel_rfl) rfl 73 (.tmp 9) (.tmp 32) rfl rfl gx 81 ca rfl rfl ((World.there_drew _ _ _ _).2 TX) cal hcia ca1 ⟨World.rangeAt_setCells_apart hHeld.1 gx 0 ca (.inl (by omega)), World.rangeAt_setCells_apart hHeld.2 gx 0 ca (.inl (by omega))⟩ ?_
          refine store11 (by kernel_rfl) rfl 73 (.tmp 10) (.tmp 38) rfl rfl gy 81 cb rfl rfl (World.there_setCells ((World.there_drew _ _ _ _).2 TY) gx 0 ca) cbl hcib cb1 ⟨World.rangeAt_setCells_apart (World.rangeAt_setCells_apart hHeld.1 gx 0 ca (.inl (by omega))) gy 0 cb (.inl (by omega)), World.rangeAt_setCells_apart (World.rangeAt_setCells_apart hHeld.2 gx 0 ca (.inl (by omega))) gy 0 cb (.inl (by omega))⟩ ?_
          refine wpAnyH_done (by kernel_rfl) ?_ _
          refine NoPanic.normal ?_
          generalize hW2 : World.setCells _ _ _ _ = W2
          obtain ⟨XA, XB, hk0, J2w, hs2⟩ := two_stores hW2 Z1.out Z2.out Z0.out hgx4 hgx2 J1 HCA.out HCB.out
          have HS2 : Opq (W2.heap.size = W1.heap.size) := ⟨hs2⟩
          have hk1 : wr.heap.size < W2.heap.size := by omega
          clear hW2 hHeld RA RB TX TY ca1 cb1 cal cbl hcia hcib HCA HCB Z1 Z2 Z0 hs2
          have hgx3' : gy < W2.heap.size := by rw [HS2.out]; exact hgx3
          have HXA := hide XA
          have HXB := hide XB
          clear XA XB
          obtain ⟨Cx, hCx, -⟩ := arr_pack (upTo s.data.toList.length (a.sp s.data.toList))
          go_wp2_with (first | (refine wpList_load_arr rfl (.tmp 9) rfl gx rfl Cx _ hCx ((unhide HXA).alloc _) ?_))
          obtain ⟨W3, hW3⟩ : ∃ W3, W2.alloc (.cells Try.zeroCells73 73) = W3 := ⟨_, rfl⟩
          have z5 : Opq (W3.heap[W2.heap.size]? = some (.cells Try.zeroCells73 73 (0, 0))) := ⟨by rw [← hW3]; exact heap_alloc_new _ _⟩
          have J3 : Below wr.heap.size wr W3 := by rw [← hW3]; exact J2w.alloc (Nat.le_of_lt hk1) _
          have JG3 : W2.heap.size < W3.heap.size := by rw [← hW3, World.size_alloc]; omega
          rw [hW3]
          clear hW3 HXA HXB J2w hk0
          generalize W2.heap.size = g12 at *
          refine (starSp_any s.size _ Cx hCx _ h8).mono ?_
          rintro r w8 ⟨C8, rfl, hC8, hC8s, hb8⟩
          have hT := arr_ev (T := .un 8 a) HSL (fun i j h1 h2 => (star_up (fun i j h1 h2 => upTo_at h1 (by rw [HSL.out]; exact h2)) s.size i j h1 h2).trans (by simp [Ex.sp, HSL.out])) hC8
          obtain ⟨hst, J2⟩ := own_store hT ((hb8.block _ JG3).trans z5.out) zero_81
          have h12 : wr.heap.size ≤ g12 := by omega
          have J0 := below_setRow (J3.trans (hb8.mono J3.size)) h12 C8
          have JG2 : g12 < (w8.setRow g12 C8).heap.size := by rw [size_setRow]; have := hb8.size; omega
          clear z5 hb8 hC8 hT J3 JG3
          go_wp2
          generalize World.setRow _ _ _ = W5 at *
          clear hst
          obtain ⟨cs, HCS, hcl, JR2, hci, NR, JO, JB, JC, JL, JN, JW, JV⟩ := round_pack (w := w) (sc := sc) (SA := (some ⟨g, 0, none⟩)) (us := us) (T := .un 8 a) J0 h12 J2 JG2 (unhide hI).size (HM.out ▸ (unhide hI).own) hpre HM.out HJ.out
          have hau := Try.underlying73
          clear J2
          go_region_held3 (fun w' => w'.rangeAt g12 0 cs) (first | exact JR2 | exact JC | exact JR | (go_keep_ranges))
            (first | (rw [fold_span cs hcl]; rotate_left; rfl; refine step_append_span rfl (.tmp 78) (.tmp 80) rfl (w.heap.size + 2) (.slice (some ⟨g, 0, none⟩) j sc) j s.data.toList us rfl JO W5.heap.size (.un 8 a) rfl (by rw [HCS.out]; exact NR) (by omega) JB ?_; intro v9 w9 hown9 hgrow9; have JR := range_grown JC hgrow9 JN JL))
          have HX := hide (SpI.next (unhide hI) JW hgrow9 JV HJ hown9 hle.out HF.out HG.out)
          clear JR2 JC JR NR JO JB JL JN JW JV hown9 hgrow9 hci hau
          go_wp2
          go_roundw
          case rel => exact ⟨i + 1, us ++ [.un 8 a], by go_num, by omega, HX⟩
          case measure => simp [intOf]; omega
      · clear HP hnn
        obtain ⟨j, hj⟩ : ∃ j, us.length = j := ⟨_, rfl⟩
        have hmj : m = j + 2 := by rw [← hm, hts, List.length_append, List.length_append, hj]; rfl
        obtain ⟨q, hq⟩ : ∃ q, q = j + 1 := ⟨_, rfl⟩
        have hat : Opq (ts[j]? = some a) := ⟨by rw [hts, List.append_assoc, List.getElem?_append_right (by omega), hj]; simp⟩
        have hbt : Opq (ts[q]? = some a2) := ⟨by rw [hts, hq, List.append_assoc, List.getElem?_append_right (by omega), hj, show j + 1 - j = 1 by omega]; rfl⟩
        have hpre : ∃ vs, ts = us ++ vs := ⟨[a, a2], by rw [hts]; simp⟩
        have hle : Opq (us.length ≤ ts.length) := ⟨by rw [hts, List.length_append, List.length_append]; omega⟩
        have HG : Opq (∀ x ∈ us ++ [.bin k a a2], x.good) := ⟨by
          intro x hx
          rcases List.mem_append.1 hx with hx | hx
          · exact (unhide hI).gd x (by rw [hts]; simp [hx])
          · simp at hx; subst hx; exact ⟨hk, (unhide hI).gd a (by rw [hts]; simp), (unhide hI).gd a2 (by rw [hts]; simp)⟩⟩
        have HF : Opq (flats (us ++ [.bin k a a2]) = e.take (i + 1)) := ⟨hfl⟩
        have HM : Opq (ts.length = m) := ⟨hm⟩
        have HJ : Opq (us.length = j) := ⟨hj⟩
        have HMJ : Opq (m = j + 2) := ⟨hmj⟩
        obtain ⟨g, hSg⟩ := hSA (by rw [hm]; omega)
        subst hSg
        subst hl
        have hsc' : m ≤ sc := by rw [← hm]; exact hsc
        have hw1 : IntKind.i64.wrap ((m : Int) - 2) = (j : Int) := by rw [show (m : Int) - 2 = (j : Int) by omega]; exact IntWalk.i64_in _ (by omega)
        have hw2 : IntKind.i64.wrap ((m : Int) - 1) = (q : Int) := by rw [show (m : Int) - 1 = (q : Int) by omega]; exact IntWalk.i64_in _ (by omega)
        have qw : IntKind.i64.wrap (q : Int) = (q : Int) := IntWalk.i64_in _ (by omega)
        have hqi : (q : Int) < (m : Int) := by omega
        have hqi0 : (0 : Int) ≤ (q : Int) := by omega
        have jw : IntKind.i64.wrap (j : Int) = (j : Int) := IntWalk.i64_in _ (by omega)
        have hmi : (j : Int) < (m : Int) := by omega
        have hmi0 : (0 : Int) ≤ (j : Int) := by omega
        have hjsc : (j : Int) ≤ (sc : Int) := by omega
        have hgl : g < wr.heap.size := ((unhide hI).own.lt g rfl).2
        rw [hm]
        clear hm hfl hSA hsc hts hj hmj hq
        rcases hk with rfl | rfl | rfl
        · skip
          have hnd : ∀ W, Calls Try.prog 72 #[part 4 0] W fun e w' => e = .returned (.int .i64 2) ∧ W.alloc (pbox 4 0) = w' := needs_any 4 0
          go_wp2_with (first | (go_at_call 72; refine (hnd _).mono ?_; rintro e w' ⟨rfl, rfl⟩))
          generalize hW1 : World.alloc _ _ = W1
          obtain ⟨z0, z1, z2, J1, zs⟩ := five_new wr 4 0 W1 hW1
          clear hW1 hnd
          obtain ⟨gx, hgx⟩ : ∃ gx, wr.heap.size + 1 = gx := ⟨_, rfl⟩
          obtain ⟨gy, hgy⟩ : ∃ gy, gx + 1 = gy := ⟨_, rfl⟩
          rw [hgx] at z1 z2 ⊢
          rw [hgy] at z2 ⊢
          have hgxy : g < gx ∧ gx < gy ∧ gy < W1.heap.size ∧ wr.heap.size < gx := by omega
          obtain ⟨hgx1, hgx2, hgx3, hgx4⟩ := hgxy
          have OW := own_keep (unhide hI).own J1
          have RA := stk_range OW rfl hat.out
          have RB := stk_range OW rfl hbt.out
          have TX := there_box z1 zero_81
          have TY := there_box z2 zero_81
          have ca1 := oneV_one s.data.toList a
          have cal := oneV_length s.data.toList a
          have cb1 := oneV_one s.data.toList a2
          have cbl := oneV_length s.data.toList a2
          obtain ⟨ca, hca⟩ : ∃ ca, oneV s.data.toList a = ca := ⟨_, rfl⟩
          rw [hca] at RA ca1 cal
          obtain ⟨cb, hcb⟩ : ∃ cb, oneV s.data.toList a2 = cb := ⟨_, rfl⟩
          rw [hcb] at RB cb1 cbl
          have HCA : Opq (oneV s.data.toList a = ca) := ⟨hca⟩
          have HCB : Opq (oneV s.data.toList a2 = cb) := ⟨hcb⟩
          have hcia : (Try.prog.info? 73).map (·.size) = some ca.length := by rw [cal]; kernel_rfl
          have hcib : (Try.prog.info? 73).map (·.size) = some cb.length := by rw [cbl]; kernel_rfl
          have Z1 : Opq (W1.heap[gx]? = some (.cells Try.zeroCells73 73 (0, 0))) := ⟨z1⟩
          have Z2 : Opq (W1.heap[gy]? = some (.cells Try.zeroCells73 73 (0, 0))) := ⟨z2⟩
          have Z0 : Opq (W1.heap[wr.heap.size]? = some (pbox 4 0)) := ⟨z0⟩
          have ZS : Opq (W1.heap.size = wr.heap.size + 5) := ⟨zs⟩
          clear hca hcb hgx hgy z1 z2 z0 zs OW
          refine wp_region_noPanic ?_
          refine wp_region_held_drew (S := fun w' => w'.rangeAt g (j * 81) ca ∧ w'.rangeAt g (q * 81) cb) (by kernel_rfl) ⟨RA, RB⟩ (fun hHeld => ?_)
          refine take0 (v := .slice (some ⟨g, 0, none⟩) m sc) (by kernel_rfl) (by kernel_rfl) (by kernel_rfl) (fun _ _ _ h => h) (Or.inl ⟨by rfl, by intro w hSw; (try dsimp only at hSw); go_simp⟩) hHeld ?_
          simp only [Act.put, List.setIfInBounds_toArray, List.set_cons_zero, List.set_cons_succ]
          refine take1 (v := .int .i64 (j : Int)) (by kernel_rfl) (by kernel_rfl) (by kernel_rfl) (fun _ _ _ h => h) (Or.inl ⟨by rfl, by intro w hSw; (try dsimp only at hSw); go_simp⟩) hHeld ?_
          simp only [Act.put, List.setIfInBounds_toArray, List.set_cons_zero, List.set_cons_succ]
          refine take2 (v := .pointer (some ⟨g, j * 81, none⟩)) (by kernel_rfl) (by kernel_rfl) (by kernel_rfl) (fun _ _ _ h => h) (Or.inl ⟨by rfl, by intro w hSw; (try dsimp only at hSw); go_simp⟩) hHeld ?_
          simp only [Act.put, List.setIfInBounds_toArray, List.set_cons_zero, List.set_cons_succ]
          refine take3 (v := .agg ca.toArray) (by kernel_rfl) (by kernel_rfl) (by kernel_rfl) (fun _ _ _ h => h) (yieldsIf_load_mid (by rfl) 73 (.tmp 31) rfl g (j * 81) rfl ca _ (fun w h => h.1) Try.underlying73 rfl hcia) hHeld ?_
          simp only [Act.put, List.setIfInBounds_toArray, List.set_cons_zero, List.set_cons_succ]
          refine take4 (v := .slice (some ⟨g, 0, none⟩) m sc) (by kernel_rfl) (by kernel_rfl) (by kernel_rfl) (fun _ _ _ h => h) (Or.inl ⟨by rfl, by intro w hSw; (try dsimp only at hSw); go_simp⟩) hHeld ?_
          simp only [Act.put, List.setIfInBounds_toArray, List.set_cons_zero, List.set_cons_succ]
          refine take5 (v := .slice (some ⟨g, 0, none⟩) m sc) (by kernel_rfl) (by kernel_rfl) (by kernel_rfl) (fun _ _ _ h => h) (Or.inl ⟨by rfl, by intro w hSw; (try dsimp only at hSw); go_simp⟩) hHeld ?_
          simp only [Act.put, List.setIfInBounds_toArray, List.set_cons_zero, List.set_cons_succ]
          refine take6 (v := .int .i64 (m : Int)) (by kernel_rfl) (by kernel_rfl) (by kernel_rfl) (fun _ _ _ h => h) (Or.inl ⟨by rfl, by intro w hSw; (try dsimp only at hSw); go_simp⟩) hHeld ?_
          simp only [Act.put, List.setIfInBounds_toArray, List.set_cons_zero, List.set_cons_succ]
          refine take7 (v := .int .i64 (q : Int)) (by kernel_rfl) (by kernel_rfl) (by kernel_rfl) (fun _ _ _ h => h) (Or.inl ⟨by rfl, by intro w hSw; (try dsimp only at hSw); go_simp⟩) hHeld ?_
          simp only [Act.put, List.setIfInBounds_toArray, List.set_cons_zero, List.set_cons_succ]
          refine take8 (v := .pointer (some ⟨g, q * 81, none⟩)) (by kernel_rfl) (by kernel_rfl) (by kernel_rfl) (fun _ _ _ h => h) (Or.inl ⟨by rfl, by intro w hSw; (try dsimp only at hSw); go_simp⟩) hHeld ?_
          simp only [Act.put, List.setIfInBounds_toArray, List.set_cons_zero, List.set_cons_succ]
          refine take9 (v := .agg cb.toArray) (by kernel_rfl) (by kernel_rfl) (by kernel_rfl) (fun _ _ _ h => h) (yieldsIf_load_mid (by rfl) 73 (.tmp 37) rfl g (q * 81) rfl cb _ (fun w h => h.2) Try.underlying73 rfl hcib) hHeld ?_
          simp only [Act.put, List.setIfInBounds_toArray, List.set_cons_zero, List.set_cons_succ]
          refine store10 (by kernel_rfl) rfl 73 (.tmp 9) (.tmp 32) rfl rfl gx 81 ca rfl rfl ((World.there_drew _ _ _ _).2 TX) cal hcia ca1 ⟨World.rangeAt_setCells_apart hHeld.1 gx 0 ca (.inl (by omega)), World.rangeAt_setCells_apart hHeld.2 gx 0 ca (.inl (by omega))⟩ ?_
          refine store11 (by kernel_rfl) rfl 73 (.tmp 10) (.tmp 38) rfl rfl gy 81 cb rfl rfl (World.there_setCells ((World.there_drew _ _ _ _).2 TY) gx 0 ca) cbl hcib cb1 ⟨World.rangeAt_setCells_apart (World.rangeAt_setCells_apart hHeld.1 gx 0 ca (.inl (by omega))) gy 0 cb (.inl (by omega)), World.rangeAt_setCells_apart (World.rangeAt_setCells_apart hHeld.2 gx 0 ca (.inl (by omega))) gy 0 cb (.inl (by omega))⟩ ?_
          refine wpAnyH_done (by kernel_rfl) ?_ _
          refine NoPanic.normal ?_
          generalize hW2 : World.setCells _ _ _ _ = W2
          obtain ⟨XA, XB, hk0, J2w, hs2⟩ := two_stores hW2 Z1.out Z2.out Z0.out hgx4 hgx2 J1 HCA.out HCB.out
          have HS2 : Opq (W2.heap.size = W1.heap.size) := ⟨hs2⟩
          have hk1 : wr.heap.size < W2.heap.size := by omega
          clear hW2 hHeld RA RB TX TY ca1 cb1 cal cbl hcia hcib HCA HCB Z1 Z2 Z0 hs2
          have hgx3' : gy < W2.heap.size := by rw [HS2.out]; exact hgx3
          have HXA := hide XA
          have HXB := hide XB
          clear XA XB
          obtain ⟨Cx, hCx, -⟩ := arr_pack (upTo s.data.toList.length (a.sp s.data.toList))
          obtain ⟨Cy, hCy, -⟩ := arr_pack (upTo s.data.toList.length (a2.sp s.data.toList))
          go_wp2_with (first | (refine wpList_load_arr rfl (.tmp 9) rfl gx rfl Cx _ hCx ((unhide HXA).alloc _) ?_) | (refine wpList_load_arr rfl (.tmp 10) rfl gy rfl Cy _ hCy ((unhide HXB).alloc _) ?_))
          obtain ⟨W3, hW3⟩ : ∃ W3, W2.alloc (.cells Try.zeroCells73 73) = W3 := ⟨_, rfl⟩
          have z5 : Opq (W3.heap[W2.heap.size]? = some (.cells Try.zeroCells73 73 (0, 0))) := ⟨by rw [← hW3]; exact heap_alloc_new _ _⟩
          have J3 : Below wr.heap.size wr W3 := by rw [← hW3]; exact J2w.alloc (Nat.le_of_lt hk1) _
          have JG3 : W2.heap.size < W3.heap.size := by rw [← hW3, World.size_alloc]; omega
          rw [hW3]
          clear hW3 HXA HXB J2w hk0
          generalize W2.heap.size = g12 at *
          refine (joined_pack s.size _ _ Cx Cy hCx hCy _ h8).mono ?_
          rintro r w8 ⟨C8, rfl, hC8, hC8s, hb8⟩
          have hT := arr_ev (T := .bin 4 a a2) HSL (fun i j h1 h2 => (join_up (fun i j h1 h2 => upTo_at h1 (by rw [HSL.out]; exact h2)) (fun i j h1 h2 => upTo_at h1 (by rw [HSL.out]; exact h2)) i j h1 h2).trans (by simp [Ex.sp])) hC8
          obtain ⟨hst, J2⟩ := own_store hT ((hb8.block _ JG3).trans z5.out) zero_81
          have h12 : wr.heap.size ≤ g12 := by omega
          have J0 := below_setRow (J3.trans (hb8.mono J3.size)) h12 C8
          have JG2 : g12 < (w8.setRow g12 C8).heap.size := by rw [size_setRow]; have := hb8.size; omega
          clear z5 hb8 hC8 hT J3 JG3
          go_wp2
          generalize World.setRow _ _ _ = W5 at *
          clear hst
          obtain ⟨cs, HCS, hcl, JR2, hci, NR, JO, JB, JC, JL, JN, JW, JV⟩ := round_pack (w := w) (sc := sc) (SA := (some ⟨g, 0, none⟩)) (us := us) (T := .bin 4 a a2) J0 h12 J2 JG2 (unhide hI).size (HM.out ▸ (unhide hI).own) hpre HM.out HJ.out
          have hau := Try.underlying73
          clear J2
          go_region_held3 (fun w' => w'.rangeAt g12 0 cs) (first | exact JR2 | exact JC | exact JR | (go_keep_ranges))
            (first | (rw [fold_span cs hcl]; rotate_left; rfl; refine step_append_span rfl (.tmp 78) (.tmp 80) rfl (w.heap.size + 2) (.slice (some ⟨g, 0, none⟩) j sc) j s.data.toList us rfl JO W5.heap.size (.bin 4 a a2) rfl (by rw [HCS.out]; exact NR) (by omega) JB ?_; intro v9 w9 hown9 hgrow9; have JR := range_grown JC hgrow9 JN JL))
          have HX := hide (SpI.next (unhide hI) JW hgrow9 JV HJ hown9 hle.out HF.out HG.out)
          clear JR2 JC JR NR JO JB JL JN JW JV hown9 hgrow9 hci hau
          go_wp2
          go_roundw
          case rel => exact ⟨i + 1, us ++ [.bin 4 a a2], by go_num, by omega, HX⟩
          case measure => simp [intOf]; omega
        · skip
          have hnd : ∀ W, Calls Try.prog 72 #[part 5 0] W fun e w' => e = .returned (.int .i64 2) ∧ W.alloc (pbox 5 0) = w' := needs_any 5 0
          go_wp2_with (first | (go_at_call 72; refine (hnd _).mono ?_; rintro e w' ⟨rfl, rfl⟩))
          generalize hW1 : World.alloc _ _ = W1
          obtain ⟨z0, z1, z2, J1, zs⟩ := five_new wr 5 0 W1 hW1
          clear hW1 hnd
          obtain ⟨gx, hgx⟩ : ∃ gx, wr.heap.size + 1 = gx := ⟨_, rfl⟩
          obtain ⟨gy, hgy⟩ : ∃ gy, gx + 1 = gy := ⟨_, rfl⟩
          rw [hgx] at z1 z2 ⊢
          rw [hgy] at z2 ⊢
          have hgxy : g < gx ∧ gx < gy ∧ gy < W1.heap.size ∧ wr.heap.size < gx := by omega
          obtain ⟨hgx1, hgx2, hgx3, hgx4⟩ := hgxy
          have OW := own_keep (unhide hI).own J1
          have RA := stk_range OW rfl hat.out
          have RB := stk_range OW rfl hbt.out
          have TX := there_box z1 zero_81
          have TY := there_box z2 zero_81
          have ca1 := oneV_one s.data.toList a
          have cal := oneV_length s.data.toList a
          have cb1 := oneV_one s.data.toList a2
          have cbl := oneV_length s.data.toList a2
          obtain ⟨ca, hca⟩ : ∃ ca, oneV s.data.toList a = ca := ⟨_, rfl⟩
          rw [hca] at RA ca1 cal
          obtain ⟨cb, hcb⟩ : ∃ cb, oneV s.data.toList a2 = cb := ⟨_, rfl⟩
          rw [hcb] at RB cb1 cbl
          have HCA : Opq (oneV s.data.toList a = ca) := ⟨hca⟩
          have HCB : Opq (oneV s.data.toList a2 = cb) := ⟨hcb⟩
          have hcia : (Try.prog.info? 73).map (·.size) = some ca.length := by rw [cal]; kernel_rfl
          have hcib : (Try.prog.info? 73).map (·.size) = some cb.length := by rw [cbl]; kernel_rfl
          have Z1 : Opq (W1.heap[gx]? = some (.cells Try.zeroCells73 73 (0, 0))) := ⟨z1⟩
          have Z2 : Opq (W1.heap[gy]? = some (.cells Try.zeroCells73 73 (0, 0))) := ⟨z2⟩
          have Z0 : Opq (W1.heap[wr.heap.size]? = some (pbox 5 0)) := ⟨z0⟩
          have ZS : Opq (W1.heap.size = wr.heap.size + 5) := ⟨zs⟩
          clear hca hcb hgx hgy z1 z2 z0 zs OW
          refine wp_region_noPanic ?_
          refine wp_region_held_drew (S := fun w' => w'.rangeAt g (j * 81) ca ∧ w'.rangeAt g (q * 81) cb) (by kernel_rfl) ⟨RA, RB⟩ (fun hHeld => ?_)
          refine take0 (v := .slice (some ⟨g, 0, none⟩) m sc) (by kernel_rfl) (by kernel_rfl) (by kernel_rfl) (fun _ _ _ h => h) (Or.inl ⟨by rfl, by intro w hSw; (try dsimp only at hSw); go_simp⟩) hHeld ?_
          simp only [Act.put, List.setIfInBounds_toArray, List.set_cons_zero, List.set_cons_succ]
          refine take1 (v := .int .i64 (j : Int)) (by kernel_rfl) (by kernel_rfl) (by kernel_rfl) (fun _ _ _ h => h) (Or.inl ⟨by rfl, by intro w hSw; (try dsimp only at hSw); go_simp⟩) hHeld ?_
          simp only [Act.put, List.setIfInBounds_toArray, List.set_cons_zero, List.set_cons_succ]
          refine take2 (v := .pointer (some ⟨g, j * 81, none⟩)) (by kernel_rfl) (by kernel_rfl) (by kernel_rfl) (fun _ _ _ h => h) (Or.inl ⟨by rfl, by intro w hSw; (try dsimp only at hSw); go_simp⟩) hHeld ?_
          simp only [Act.put, List.setIfInBounds_toArray, List.set_cons_zero, List.set_cons_succ]
          refine take3 (v := .agg ca.toArray) (by kernel_rfl) (by kernel_rfl) (by kernel_rfl) (fun _ _ _ h => h) (yieldsIf_load_mid (by rfl) 73 (.tmp 31) rfl g (j * 81) rfl ca _ (fun w h => h.1) Try.underlying73 rfl hcia) hHeld ?_
          simp only [Act.put, List.setIfInBounds_toArray, List.set_cons_zero, List.set_cons_succ]
          refine take4 (v := .slice (some ⟨g, 0, none⟩) m sc) (by kernel_rfl) (by kernel_rfl) (by kernel_rfl) (fun _ _ _ h => h) (Or.inl ⟨by rfl, by intro w hSw; (try dsimp only at hSw); go_simp⟩) hHeld ?_
          simp only [Act.put, List.setIfInBounds_toArray, List.set_cons_zero, List.set_cons_succ]
          refine take5 (v := .slice (some ⟨g, 0, none⟩) m sc) (by kernel_rfl) (by kernel_rfl) (by kernel_rfl) (fun _ _ _ h => h) (Or.inl ⟨by rfl, by intro w hSw; (try dsimp only at hSw); go_simp⟩) hHeld ?_
          simp only [Act.put, List.setIfInBounds_toArray, List.set_cons_zero, List.set_cons_succ]
          refine take6 (v := .int .i64 (m : Int)) (by kernel_rfl) (by kernel_rfl) (by kernel_rfl) (fun _ _ _ h => h) (Or.inl ⟨by rfl, by intro w hSw; (try dsimp only at hSw); go_simp⟩) hHeld ?_
          simp only [Act.put, List.setIfInBounds_toArray, List.set_cons_zero, List.set_cons_succ]
          refine take7 (v := .int .i64 (q : Int)) (by kernel_rfl) (by kernel_rfl) (by kernel_rfl) (fun _ _ _ h => h) (Or.inl ⟨by rfl, by intro w hSw; (try dsimp only at hSw); go_simp⟩) hHeld ?_
          simp only [Act.put, List.setIfInBounds_toArray, List.set_cons_zero, List.set_cons_succ]
          refine take8 (v := .pointer (some ⟨g, q * 81, none⟩)) (by kernel_rfl) (by kernel_rfl) (by kernel_rfl) (fun _ _ _ h => h) (Or.inl ⟨by rfl, by intro w hSw; (try dsimp only at hSw); go_simp⟩) hHeld ?_
          simp only [Act.put, List.setIfInBounds_toArray, List.set_cons_zero, List.set_cons_succ]
          refine take9 (v := .agg cb.toArray) (by kernel_rfl) (by kernel_rfl) (by kernel_rfl) (fun _ _ _ h => h) (yieldsIf_load_mid (by rfl) 73 (.tmp 37) rfl g (q * 81) rfl cb _ (fun w h => h.2) Try.underlying73 rfl hcib) hHeld ?_
          simp only [Act.put, List.setIfInBounds_toArray, List.set_cons_zero, List.set_cons_succ]
          refine store10 (by kernel_rfl) rfl 73 (.tmp 9) (.tmp 32) rfl rfl gx 81 ca rfl rfl ((World.there_drew _ _ _ _).2 TX) cal hcia ca1 ⟨World.rangeAt_setCells_apart hHeld.1 gx 0 ca (.inl (by omega)), World.rangeAt_setCells_apart hHeld.2 gx 0 ca (.inl (by omega))⟩ ?_
          refine store11 (by kernel_rfl) rfl 73 (.tmp 10) (.tmp 38) rfl rfl gy 81 cb rfl rfl (World.there_setCells ((World.there_drew _ _ _ _).2 TY) gx 0 ca) cbl hcib cb1 ⟨World.rangeAt_setCells_apart (World.rangeAt_setCells_apart hHeld.1 gx 0 ca (.inl (by omega))) gy 0 cb (.inl (by omega)), World.rangeAt_setCells_apart (World.rangeAt_setCells_apart hHeld.2 gx 0 ca (.inl (by omega))) gy 0 cb (.inl (by omega))⟩ ?_
          refine wpAnyH_done (by kernel_rfl) ?_ _
          refine NoPanic.normal ?_
          generalize hW2 : World.setCells _ _ _ _ = W2
          obtain ⟨XA, XB, hk0, J2w, hs2⟩ := two_stores hW2 Z1.out Z2.out Z0.out hgx4 hgx2 J1 HCA.out HCB.out
          have HS2 : Opq (W2.heap.size = W1.heap.size) := ⟨hs2⟩
          have hk1 : wr.heap.size < W2.heap.size := by omega
          clear hW2 hHeld RA RB TX TY ca1 cb1 cal cbl hcia hcib HCA HCB Z1 Z2 Z0 hs2
          have hgx3' : gy < W2.heap.size := by rw [HS2.out]; exact hgx3
          have HXA := hide XA
          have HXB := hide XB
          clear XA XB
          go_wp2_with fail
          obtain ⟨W3, hW3⟩ : ∃ W3, W2.alloc (.cells Try.zeroCells73 73) = W3 := ⟨_, rfl⟩
          have z5 : Opq (W3.heap[W2.heap.size]? = some (.cells Try.zeroCells73 73 (0, 0))) := ⟨by rw [← hW3]; exact heap_alloc_new _ _⟩
          have YA := hide (show ArrB W3 gx _ by rw [← hW3]; exact (unhide HXA).alloc _)
          have YB := hide (show ArrB W3 gy _ by rw [← hW3]; exact (unhide HXB).alloc _)
          have J3 : Below wr.heap.size wr W3 := by rw [← hW3]; exact J2w.alloc (Nat.le_of_lt hk1) _
          have JG3 : W2.heap.size < W3.heap.size := by rw [← hW3, World.size_alloc]; omega
          rw [hW3]
          clear hW3 HXA HXB J2w hk0
          generalize W2.heap.size = g12 at *
          refine (filled_pack s.size 77 (fun i j => (upTo s.data.toList.length (a.sp s.data.toList) i j || upTo s.data.toList.length (a2.sp s.data.toList) i j)) #[.pointer (some ⟨gx, 0, none⟩), .pointer (some ⟨gy, 0, none⟩)] _ h8 enter_of3 (fun W' hW i j hij hj => (app22 _ _ _ _).symm ▸ of3_any W' _ _ i j _ _ hij (by omega) ((unhide YA).up hW) ((unhide YB).up hW))).mono ?_
          rintro r w8 ⟨C8, rfl, hC8, hC8s, hb8⟩
          have hT := arr_ev (T := .bin 5 a a2) HSL (fun i j h1 h2 => by rw [upTo_at h1 (by rw [HSL.out]; exact h2), upTo_at h1 (by rw [HSL.out]; exact h2)]; simp [Ex.sp]) hC8
          obtain ⟨hst, J2⟩ := own_store hT ((hb8.block _ JG3).trans z5.out) zero_81
          have h12 : wr.heap.size ≤ g12 := by omega
          have J0 := below_setRow (J3.trans (hb8.mono J3.size)) h12 C8
          have JG2 : g12 < (w8.setRow g12 C8).heap.size := by rw [size_setRow]; have := hb8.size; omega
          clear z5 hb8 hC8 hT J3 JG3
          go_wp2
          generalize World.setRow _ _ _ = W5 at *
          clear hst
          obtain ⟨cs, HCS, hcl, JR2, hci, NR, JO, JB, JC, JL, JN, JW, JV⟩ := round_pack (w := w) (sc := sc) (SA := (some ⟨g, 0, none⟩)) (us := us) (T := .bin 5 a a2) J0 h12 J2 JG2 (unhide hI).size (HM.out ▸ (unhide hI).own) hpre HM.out HJ.out
          have hau := Try.underlying73
          clear J2
          go_region_held3 (fun w' => w'.rangeAt g12 0 cs) (first | exact JR2 | exact JC | exact JR | (go_keep_ranges))
            (first | (rw [fold_span cs hcl]; rotate_left; rfl; refine step_append_span rfl (.tmp 78) (.tmp 80) rfl (w.heap.size + 2) (.slice (some ⟨g, 0, none⟩) j sc) j s.data.toList us rfl JO W5.heap.size (.bin 5 a a2) rfl (by rw [HCS.out]; exact NR) (by omega) JB ?_; intro v9 w9 hown9 hgrow9; have JR := range_grown JC hgrow9 JN JL))
          have HX := hide (SpI.next (unhide hI) JW hgrow9 JV HJ hown9 hle.out HF.out HG.out)
          clear JR2 JC JR NR JO JB JL JN JW JV hown9 hgrow9 hci hau
          go_wp2
          go_roundw
          case rel => exact ⟨i + 1, us ++ [.bin 5 a a2], by go_num, by omega, HX⟩
          case measure => simp [intOf]; omega
        · skip
          have hnd : ∀ W, Calls Try.prog 72 #[part 6 0] W fun e w' => e = .returned (.int .i64 2) ∧ W.alloc (pbox 6 0) = w' := needs_any 6 0
          go_wp2_with (first | (go_at_call 72; refine (hnd _).mono ?_; rintro e w' ⟨rfl, rfl⟩))
          generalize hW1 : World.alloc _ _ = W1
          obtain ⟨z0, z1, z2, J1, zs⟩ := five_new wr 6 0 W1 hW1
          clear hW1 hnd
          obtain ⟨gx, hgx⟩ : ∃ gx, wr.heap.size + 1 = gx := ⟨_, rfl⟩
          obtain ⟨gy, hgy⟩ : ∃ gy, gx + 1 = gy := ⟨_, rfl⟩
          rw [hgx] at z1 z2 ⊢
          rw [hgy] at z2 ⊢
          have hgxy : g < gx ∧ gx < gy ∧ gy < W1.heap.size ∧ wr.heap.size < gx := by omega
          obtain ⟨hgx1, hgx2, hgx3, hgx4⟩ := hgxy
          have OW := own_keep (unhide hI).own J1
          have RA := stk_range OW rfl hat.out
          have RB := stk_range OW rfl hbt.out
          have TX := there_box z1 zero_81
          have TY := there_box z2 zero_81
          have ca1 := oneV_one s.data.toList a
          have cal := oneV_length s.data.toList a
          have cb1 := oneV_one s.data.toList a2
          have cbl := oneV_length s.data.toList a2
          obtain ⟨ca, hca⟩ : ∃ ca, oneV s.data.toList a = ca := ⟨_, rfl⟩
          rw [hca] at RA ca1 cal
          obtain ⟨cb, hcb⟩ : ∃ cb, oneV s.data.toList a2 = cb := ⟨_, rfl⟩
          rw [hcb] at RB cb1 cbl
          have HCA : Opq (oneV s.data.toList a = ca) := ⟨hca⟩
          have HCB : Opq (oneV s.data.toList a2 = cb) := ⟨hcb⟩
          have hcia : (Try.prog.info? 73).map (·.size) = some ca.length := by rw [cal]; kernel_rfl
          have hcib : (Try.prog.info? 73).map (·.size) = some cb.length := by rw [cbl]; kernel_rfl
          have Z1 : Opq (W1.heap[gx]? = some (.cells Try.zeroCells73 73 (0, 0))) := ⟨z1⟩
          have Z2 : Opq (W1.heap[gy]? = some (.cells Try.zeroCells73 73 (0, 0))) := ⟨z2⟩
          have Z0 : Opq (W1.heap[wr.heap.size]? = some (pbox 6 0)) := ⟨z0⟩
          have ZS : Opq (W1.heap.size = wr.heap.size + 5) := ⟨zs⟩
          clear hca hcb hgx hgy z1 z2 z0 zs OW
          refine wp_region_noPanic ?_
          refine wp_region_held_drew (S := fun w' => w'.rangeAt g (j * 81) ca ∧ w'.rangeAt g (q * 81) cb) (by kernel_rfl) ⟨RA, RB⟩ (fun hHeld => ?_)
          refine take0 (v := .slice (some ⟨g, 0, none⟩) m sc) (by kernel_rfl) (by kernel_rfl) (by kernel_rfl) (fun _ _ _ h => h) (Or.inl ⟨by rfl, by intro w hSw; (try dsimp only at hSw); go_simp⟩) hHeld ?_
          simp only [Act.put, List.setIfInBounds_toArray, List.set_cons_zero, List.set_cons_succ]
          refine take1 (v := .int .i64 (j : Int)) (by kernel_rfl) (by kernel_rfl) (by kernel_rfl) (fun _ _ _ h => h) (Or.inl ⟨by rfl, by intro w hSw; (try dsimp only at hSw); go_simp⟩) hHeld ?_
          simp only [Act.put, List.setIfInBounds_toArray, List.set_cons_zero, List.set_cons_succ]
          refine take2 (v := .pointer (some ⟨g, j * 81, none⟩)) (by kernel_rfl) (by kernel_rfl) (by kernel_rfl) (fun _ _ _ h => h) (Or.inl ⟨by rfl, by intro w hSw; (try dsimp only at hSw); go_simp⟩) hHeld ?_
          simp only [Act.put, List.setIfInBounds_toArray, List.set_cons_zero, List.set_cons_succ]
          refine take3 (v := .agg ca.toArray) (by kernel_rfl) (by kernel_rfl) (by kernel_rfl) (fun _ _ _ h => h) (yieldsIf_load_mid (by rfl) 73 (.tmp 31) rfl g (j * 81) rfl ca _ (fun w h => h.1) Try.underlying73 rfl hcia) hHeld ?_
          simp only [Act.put, List.setIfInBounds_toArray, List.set_cons_zero, List.set_cons_succ]
          refine take4 (v := .slice (some ⟨g, 0, none⟩) m sc) (by kernel_rfl) (by kernel_rfl) (by kernel_rfl) (fun _ _ _ h => h) (Or.inl ⟨by rfl, by intro w hSw; (try dsimp only at hSw); go_simp⟩) hHeld ?_
          simp only [Act.put, List.setIfInBounds_toArray, List.set_cons_zero, List.set_cons_succ]
          refine take5 (v := .slice (some ⟨g, 0, none⟩) m sc) (by kernel_rfl) (by kernel_rfl) (by kernel_rfl) (fun _ _ _ h => h) (Or.inl ⟨by rfl, by intro w hSw; (try dsimp only at hSw); go_simp⟩) hHeld ?_
          simp only [Act.put, List.setIfInBounds_toArray, List.set_cons_zero, List.set_cons_succ]
          refine take6 (v := .int .i64 (m : Int)) (by kernel_rfl) (by kernel_rfl) (by kernel_rfl) (fun _ _ _ h => h) (Or.inl ⟨by rfl, by intro w hSw; (try dsimp only at hSw); go_simp⟩) hHeld ?_
          simp only [Act.put, List.setIfInBounds_toArray, List.set_cons_zero, List.set_cons_succ]
          refine take7 (v := .int .i64 (q : Int)) (by kernel_rfl) (by kernel_rfl) (by kernel_rfl) (fun _ _ _ h => h) (Or.inl ⟨by rfl, by intro w hSw; (try dsimp only at hSw); go_simp⟩) hHeld ?_
          simp only [Act.put, List.setIfInBounds_toArray, List.set_cons_zero, List.set_cons_succ]
          refine take8 (v := .pointer (some ⟨g, q * 81, none⟩)) (by kernel_rfl) (by kernel_rfl) (by kernel_rfl) (fun _ _ _ h => h) (Or.inl ⟨by rfl, by intro w hSw; (try dsimp only at hSw); go_simp⟩) hHeld ?_
          simp only [Act.put, List.setIfInBounds_toArray, List.set_cons_zero, List.set_cons_succ]
          refine take9 (v := .agg cb.toArray) (by kernel_rfl) (by kernel_rfl) (by kernel_rfl) (fun _ _ _ h => h) (yieldsIf_load_mid (by rfl) 73 (.tmp 37) rfl g (q * 81) rfl cb _ (fun w h => h.2) Try.underlying73 rfl hcib) hHeld ?_
          simp only [Act.put, List.setIfInBounds_toArray, List.set_cons_zero, List.set_cons_succ]
          refine store10 (by kernel_rfl) rfl 73 (.tmp 9) (.tmp 32) rfl rfl gx 81 ca rfl rfl ((World.there_drew _ _ _ _).2 TX) cal hcia ca1 ⟨World.rangeAt_setCells_apart hHeld.1 gx 0 ca (.inl (by omega)), World.rangeAt_setCells_apart hHeld.2 gx 0 ca (.inl (by omega))⟩ ?_
          refine store11 (by kernel_rfl) rfl 73 (.tmp 10) (.tmp 38) rfl rfl gy 81 cb rfl rfl (World.there_setCells ((World.there_drew _ _ _ _).2 TY) gx 0 ca) cbl hcib cb1 ⟨World.rangeAt_setCells_apart (World.rangeAt_setCells_apart hHeld.1 gx 0 ca (.inl (by omega))) gy 0 cb (.inl (by omega)), World.rangeAt_setCells_apart (World.rangeAt_setCells_apart hHeld.2 gx 0 ca (.inl (by omega))) gy 0 cb (.inl (by omega))⟩ ?_
          refine wpAnyH_done (by kernel_rfl) ?_ _
          refine NoPanic.normal ?_
          generalize hW2 : World.setCells _ _ _ _ = W2
          obtain ⟨XA, XB, hk0, J2w, hs2⟩ := two_stores hW2 Z1.out Z2.out Z0.out hgx4 hgx2 J1 HCA.out HCB.out
          have HS2 : Opq (W2.heap.size = W1.heap.size) := ⟨hs2⟩
          have hk1 : wr.heap.size < W2.heap.size := by omega
          clear hW2 hHeld RA RB TX TY ca1 cb1 cal cbl hcia hcib HCA HCB Z1 Z2 Z0 hs2
          have hgx3' : gy < W2.heap.size := by rw [HS2.out]; exact hgx3
          have HXA := hide XA
          have HXB := hide XB
          clear XA XB
          go_wp2_with fail
          obtain ⟨W3, hW3⟩ : ∃ W3, W2.alloc (.cells Try.zeroCells73 73) = W3 := ⟨_, rfl⟩
          have z5 : Opq (W3.heap[W2.heap.size]? = some (.cells Try.zeroCells73 73 (0, 0))) := ⟨by rw [← hW3]; exact heap_alloc_new _ _⟩
          have YA := hide (show ArrB W3 gx _ by rw [← hW3]; exact (unhide HXA).alloc _)
          have YB := hide (show ArrB W3 gy _ by rw [← hW3]; exact (unhide HXB).alloc _)
          have J3 : Below wr.heap.size wr W3 := by rw [← hW3]; exact J2w.alloc (Nat.le_of_lt hk1) _
          have JG3 : W2.heap.size < W3.heap.size := by rw [← hW3, World.size_alloc]; omega
          rw [hW3]
          clear hW3 HXA HXB J2w hk0
          generalize W2.heap.size = g12 at *
          refine (filled_pack s.size 78 (fun i j => (upTo s.data.toList.length (a.sp s.data.toList) i j && upTo s.data.toList.length (a2.sp s.data.toList) i j)) #[.pointer (some ⟨gx, 0, none⟩), .pointer (some ⟨gy, 0, none⟩)] _ h8 enter_of4 (fun W' hW i j hij hj => (app22 _ _ _ _).symm ▸ of4_any W' _ _ i j _ _ hij (by omega) ((unhide YA).up hW) ((unhide YB).up hW))).mono ?_
          rintro r w8 ⟨C8, rfl, hC8, hC8s, hb8⟩
          have hT := arr_ev (T := .bin 6 a a2) HSL (fun i j h1 h2 => by rw [upTo_at h1 (by rw [HSL.out]; exact h2), upTo_at h1 (by rw [HSL.out]; exact h2)]; simp [Ex.sp]) hC8
          obtain ⟨hst, J2⟩ := own_store hT ((hb8.block _ JG3).trans z5.out) zero_81
          have h12 : wr.heap.size ≤ g12 := by omega
          have J0 := below_setRow (J3.trans (hb8.mono J3.size)) h12 C8
          have JG2 : g12 < (w8.setRow g12 C8).heap.size := by rw [size_setRow]; have := hb8.size; omega
          clear z5 hb8 hC8 hT J3 JG3
          go_wp2
          generalize World.setRow _ _ _ = W5 at *
          clear hst
          obtain ⟨cs, HCS, hcl, JR2, hci, NR, JO, JB, JC, JL, JN, JW, JV⟩ := round_pack (w := w) (sc := sc) (SA := (some ⟨g, 0, none⟩)) (us := us) (T := .bin 6 a a2) J0 h12 J2 JG2 (unhide hI).size (HM.out ▸ (unhide hI).own) hpre HM.out HJ.out
          have hau := Try.underlying73
          clear J2
          go_region_held3 (fun w' => w'.rangeAt g12 0 cs) (first | exact JR2 | exact JC | exact JR | (go_keep_ranges))
            (first | (rw [fold_span cs hcl]; rotate_left; rfl; refine step_append_span rfl (.tmp 78) (.tmp 80) rfl (w.heap.size + 2) (.slice (some ⟨g, 0, none⟩) j sc) j s.data.toList us rfl JO W5.heap.size (.bin 6 a a2) rfl (by rw [HCS.out]; exact NR) (by omega) JB ?_; intro v9 w9 hown9 hgrow9; have JR := range_grown JC hgrow9 JN JL))
          have HX := hide (SpI.next (unhide hI) JW hgrow9 JV HJ hown9 hle.out HF.out HG.out)
          clear JR2 JC JR NR JO JB JL JN JW JV hown9 hgrow9 hci hau
          go_wp2
          go_roundw
          case rel => exact ⟨i + 1, us ++ [.bin 6 a a2], by go_num, by omega, HX⟩
          case measure => simp [intOf]; omega
    · obtain rfl : i = n := by omega
      have hr := (unhide hI).run
      have hte : e.take e.length = e := List.take_length
      rw [← HL.out, hte, HV.out] at hr
      have h1 : ts.length = 1 := by injection hr with hr; omega
      obtain ⟨t, ht⟩ : ∃ t, ts = [t] := by
        match ts, h1 with
        | [t], _ => exact ⟨t, rfl⟩
      subst ht
      have hfl := (unhide hI).fl
      rw [← HL.out, hte] at hfl
      have HF : Opq (t.flat = e) := ⟨by simpa [flats] using hfl⟩
      have HG : Opq t.good := ⟨(unhide hI).gd t (by simp)⟩
      obtain ⟨SA, sc, hsv, hsc, hSA⟩ := own_shape (unhide hI).own
      subst hsv
      obtain ⟨g, rfl⟩ := hSA (by simp)
      have RA := stk_range (q := 0) (unhide hI).own rfl rfl
      rw [Nat.zero_mul] at RA
      obtain ⟨C, hC, hCs⟩ := arr_pack (upTo s.data.toList.length (t.sp s.data.toList))
      obtain ⟨hst, -⟩ := own_store hC (unhide hI).rb zero_81
      have HR : Hid (ArrB (wr.setRow (w.heap.size + 1) C) (w.heap.size + 1) (upTo s.data.toList.length (t.sp s.data.toList))) := by
        rw [← hC.out]; exact Lib.hid (ArrB.row _ (unhide hI).rb)
      have hb := below_setRow (g := w.heap.size + 1) (unhide hI).bl (by omega) C
      simp only [List.length_singleton]
      clear hr hte h1 hfl hSA
      go_wp2_with (refine wpList_load_rng rfl (.tmp 84) rfl g rfl C _ _ hC RA ?_)
      exact bodyPost_ret (v := .agg C) (ret_pack2 (p := 4) rfl hC _ _ (w.heap.size + 1) rfl HR) rfl ⟨t, HG.out, HF.out, _, rfl, hC, hCs, hb⟩
end Go.Proofs.Ytgcggmlekmjpdaa

