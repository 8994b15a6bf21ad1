/-
  Slices of parts that are made: append, slices.Clone, slices.Concat.
-/
import Derived.Test.YtadibjjjdbglaaaOpnd
import Derived.Laws.AppendOwnNone
import Derived.Lib.AppendZeros
namespace Go.Proofs.Ytadibjjjdbglaaa
open Go.RowKit
set_option linter.unusedVariables false
set_option maxRecDepth 100000

/-- A slice of parts whose length and capacity are in order; nil is empty. -/
def SL (w : World) (B : Nat) (A : Option Addr) (n c : Nat) (e : List Pt) : Prop := PS w B A n e ∧ n ≤ c ∧ c ≤ maxLen ∧ (A = none → n = 0 ∧ c = 0)
theorem SL.keep {w w' : World} {B B' : Nat} {A : Option Addr} {n c : Nat} {e : List Pt} (h : SL w B A n c e) (hB : B ≤ B') (hk : ∀ b o, b < B → w'.cell? ⟨b, o, none⟩ = w.cell? ⟨b, o, none⟩) : SL w' B' A n c e :=
  ⟨h.1.keep hB hk, h.2⟩
theorem SL.below {w w' : World} {B : Nat} {A : Option Addr} {n c : Nat} {e : List Pt} (h : SL w B A n c e) (hB : B ≤ w.heap.size) (hb : Below w.heap.size w w') : SL w' B A n c e :=
  ⟨h.1.below hB hb, h.2⟩
/-- It is kept where old memory is kept, and may be said of the new memory's end. -/
theorem SL.up {w w' : World} {A : Option Addr} {n c : Nat} {e : List Pt} (h : SL w w.heap.size A n c e) (hb : Below w.heap.size w w') : SL w' w'.heap.size A n c e :=
  h.keep hb.size fun b o hlt => hb.cell (p := ⟨b, o, none⟩) hlt
theorem PS.up {w w' : World} {A : Option Addr} {n : Nat} {e : List Pt} (h : PS w w.heap.size A n e) (hb : Below w.heap.size w w') : PS w' w'.heap.size A n e :=
  h.keep hb.size fun b o hlt => hb.cell (p := ⟨b, o, none⟩) hlt
theorem PS.upA {w : World} {A : Option Addr} {n : Nat} {e : List Pt} (h : PS w w.heap.size A n e) (o : Obj) : PS (w.alloc o) (w.alloc o).heap.size A n e :=
  h.keep (by simp) fun b o' hlt => World.cell?_alloc_lt w o ⟨b, o', none⟩ hlt
theorem SL.tree {w : World} {B : Nat} {A : Option Addr} {n c : Nat} {t : Ex} (h : PS w B A n t.flat) (hc : n ≤ c) (hcm : c ≤ maxLen) : SL w B A n c t.flat := by
  refine ⟨h, hc, hcm, ?_⟩
  rintro rfl
  have hp := Ex.sz_pos t
  have hn := h.len
  obtain ⟨b, off, e, -⟩ := h.addr (by omega)
  cases e
/-- The cells of the new parts, as 'append' wants them. -/
theorem PS.news {w : World} {B b off : Nat} {n : Nat} {e : List Pt} (h : PS w B (some ⟨b, off, none⟩) n e) : ∀ j u, (flatV e)[j]? = some u → w.cell? ((⟨b, off, none⟩ : Addr).add j) = some u := by
  intro j u hj
  have hlt : j < (flatV e).length := (List.getElem?_eq_some_iff.1 hj).1
  rw [flatV_length] at hlt
  have hl := h.1
  obtain ⟨b', off', e1, hb, hc⟩ := h.2 (by omega)
  injection e1 with e1
  injection e1 with e1 e2
  subst e1; subst e2
  have hadd : (⟨b, off, none⟩ : Addr).add j = ⟨b, off + j, none⟩ := by unfold Addr.add; split <;> simp_all
  rw [hadd]
  have hi : j / 2 < e.length := by omega
  have h1 := List.getElem?_eq_getElem hi
  obtain ⟨f1, f2⟩ := flatV_get (k := (e[j / 2]).1) (l := (e[j / 2]).2) h1
  obtain ⟨c1, c2⟩ := hc (j / 2) _ _ h1
  rcases Nat.mod_two_eq_zero_or_one j with hm | hm
  · have ej : j = j / 2 * 2 := by omega
    rw [ej] at hj ⊢
    rw [f1] at hj
    rw [← hj]
    exact c1
  · have ej : j = j / 2 * 2 + 1 := by omega
    rw [ej] at hj ⊢
    rw [f2] at hj
    rw [← hj, ← Nat.add_assoc]
    exact c2
theorem flatV_one (e : List Pt) : ∀ u ∈ flatV e, u.oneCell' = true := by
  induction e with
  | nil => intro u hu; cases hu
  | cons p e ih =>
    intro u hu
    simp only [flatV, List.mem_cons] at hu
    rcases hu with rfl | rfl | hu
    · rfl
    · rfl
    · exact ih u hu
/-- A row of one part, just laid. -/
theorem PS.one (w : World) (B : Nat) (k l : Int) (t : TypeId) (hB : w.heap.size < B) : PS (w.alloc (.cells #[.int .i64 k, .int .i64 l] t)) B (some ⟨w.heap.size, 0, none⟩) 1 [(k, l)] := by
  refine ⟨rfl, fun _ => ⟨_, _, rfl, hB, fun i k' l' hi => ?_⟩⟩
  have : i = 0 := by have := (List.getElem?_eq_some_iff.1 hi).1; simp at this; exact this
  subst this
  simp only [List.getElem?_cons_zero, Option.some.injEq] at hi
  injection hi with h1 h2
  subst h1; subst h2
  exact ⟨by simp [World.cell?_alloc_new], by simp [World.cell?_alloc_new]⟩
/-- A row of no part, just laid. -/
theorem own_empty (w : World) (base : Nat) (t : TypeId) (hb : base ≤ w.heap.size) : (w.alloc (.cells #[] t)).ownsRow base t 2 (.slice (some ⟨w.heap.size, 0, none⟩) 0 0) 0 [] :=
  ⟨rfl, .inr ⟨w.heap.size, 0, #[], rfl, hb, heap_alloc_new w _, Nat.le_refl _, by simp [maxLen], rfl, rfl⟩⟩
theorem own_nil (w : World) (base : Nat) (t : TypeId) : w.ownsRow base t 2 (.slice none 0 0) 0 [] := ⟨rfl, .inl ⟨rfl, rfl⟩⟩
/-- An own row is one slice more that reads as parts. -/
theorem SL_own {w : World} {base n : Nat} {t : TypeId} {v : Value} {e : List Pt} (h : w.ownsRow base t 2 v n (flatV e)) (hn : n ≤ maxLen) : ∃ A c, v = .slice A n c ∧ SL w w.heap.size A n c e := by
  obtain ⟨A, c, rfl, hc, hp⟩ := PS_own h
  refine ⟨A, c, rfl, hp, hc, ?_, ?_⟩
  · rcases h.2 with ⟨h0, _⟩ | ⟨g', cap', cur', e1, e2, e3, e4, e5, -⟩
    · injection h0 with _ _ h1; subst h1; simp [maxLen]
    · injection e1 with _ _ h1; subst h1; exact e5
  · rintro rfl
    rcases h.2 with ⟨h0, _⟩ | ⟨g', cap', cur', e1, -⟩
    · injection h0 with _ h1 h2; exact ⟨h1, h2⟩
    · injection e1 with h1; cases h1

theorem own_len {w : World} {base n : Nat} {t : TypeId} {v : Value} {e : List Pt} (h : w.ownsRow base t 2 v n (flatV e)) : e.length = n := by
  have := h.1; rw [flatV_length] at this; omega
theorem own_block {w : World} {base n size : Nat} {t : TypeId} {v : Value} {xs : List Value} (h : w.ownsRow base t size v n xs) : ∀ k, v.ownBlock = some k → base ≤ k := by
  intro k hk
  rcases h.2 with ⟨rfl, _⟩ | ⟨g', cap', cur', rfl, e2, -⟩
  · cases hk
  · simp only [Value.ownBlock, Option.some.injEq] at hk; omega

/-- 'append(v, x...)' on an own row of parts, x any slice of parts. -/
theorem wpList_append_parts {w : World} {ops : Array Oper} {rest : List Oper} {o : Oper} {a : Act} {Q : Exit → Act → World → Prop} (hgd : o.guard = none) (s x : Operand)
    (ho : o.op = .call { callee := .builtin .append, args := #[s, x], argTypes := #[23, 23] })
    (base B : Nat) (v : Value) (n : Nat) (e1 : List Pt) (hs : a.eval s = v) (hown : w.ownsRow base 45 2 v n (flatV e1))
    (A : Option Addr) (m c : Nat) (e2 : List Pt) (hx : a.eval x = .slice A m c) (hA : A = none → m = 0 ∧ c = 0) (hp : PS w B A m e2)
    (hm : n + m ≤ 1000000000) (hbase : base ≤ w.heap.size)
    (h : ∀ v' w', w'.ownsRow base 45 2 v' (n + m) (flatV (e1 ++ e2)) → w.grownBy w' v.ownBlock → wpList Try.prog ops Q rest (a.put o.dst v') w') : wpList Try.prog ops Q (o :: rest) a w := by
  obtain ⟨i0, hi0, hz0, hz1, hz2⟩ := info_parts part_info
  cases A with
  | none =>
    obtain ⟨rfl, rfl⟩ := hA rfl
    have he : e2 = [] := List.eq_nil_of_length_eq_zero hp.1
    subst he
    refine wpList_append_own_none hgd s x 23 ho base 45 i0 2 Try.underlying23 hi0 v n (flatV e1) hs hown hx ?_
    have := h v w (by rw [List.append_nil]; exact hown) (World.grownBy.refl w _)
    exact this
  | some ad =>
    by_cases hm0 : m = 0
    · subst hm0
      have he : e2 = [] := List.eq_nil_of_length_eq_zero hp.1
      subst he
      refine wpList_append_own w hgd s x 23 ho base 45 i0 (part 0 0) 2 16 Try.underlying23 hi0 hz0 hz1 hz2 rfl (by decide) v n (flatV e1) hs hown ad 0 c [] hx rfl (by simp) (by simp) (by unfold maxLen; omega) (by omega) hbase ?_
      intro v' w' h1 h2 _
      exact h v' w' (by rw [List.append_nil]; rw [List.append_nil] at h1; exact h1) h2
    · obtain ⟨b, off, e, -⟩ := hp.2 (by omega)
      injection e with e
      subst e
      refine wpList_append_own w hgd s x 23 ho base 45 i0 (part 0 0) 2 16 Try.underlying23 hi0 hz0 hz1 hz2 rfl (by decide) v n (flatV e1) hs hown ⟨b, off, none⟩ m c (flatV e2) hx (by rw [flatV_length, hp.1]) hp.news (flatV_one e2) (by unfold maxLen; omega) (by omega) hbase ?_
      intro v' w' h1 h2 _
      exact h v' w' (by rw [flatV_append]; exact h1) h2
/-- What leaves a row of parts of the call's own. -/
def OwnD (w : World) (e : List Pt) (r : Ending) (w' : World) : Prop :=
  ∃ v, r = .returned v ∧ w'.ownsRow w.heap.size 45 2 v e.length (flatV e) ∧ Below w.heap.size w w'
theorem OwnD.sl {w : World} {e : List Pt} {r : Ending} {w' : World} (h : OwnD w e r w') (hl : e.length ≤ 1000000000) : ∃ A c, r = .returned (.slice A e.length c) ∧ SL w' w'.heap.size A e.length c e ∧ w'.ownsRow w.heap.size 45 2 (.slice A e.length c) e.length (flatV e) ∧ Below w.heap.size w w' := by
  obtain ⟨v, rfl, h1, h2⟩ := h
  obtain ⟨A, c, rfl, h3⟩ := SL_own h1 (by unfold maxLen; omega)
  exact ⟨A, c, rfl, h3, h1, h2⟩

/-- 's == nil' of a slice of parts. -/
theorem eql_nil (W : World) (A : Option Addr) (n c : Nat) : (binOp .eql 23 (.slice A n c) (.slice none 0 0)).run Try.prog W = .ok (.bool A.isNone) W := by
  simp only [binOp]
  simp [run_equal_slice_nil W 23 45 A n c Try.underlying23]
theorem clone_any (w : World) (A : Option Addr) (n c : Nat) (e : List Pt) (h : SL w w.heap.size A n c e) (hn : n ≤ 500000000) :
    Calls Try.prog 51 #[.slice A n c] w (OwnD w e) := by
  obtain ⟨hp, hnc, hcm, hA⟩ := h
  have hl := hp.1
  unfold maxLen at hcm
  cases A with
  | none =>
    obtain ⟨rfl, rfl⟩ := hA rfl
    have he : e = [] := List.eq_nil_of_length_eq_zero hl
    subst he
    clear hp hA
    have hnil := fun W => eql_nil W none 0 0
    go_enter Try.func51, Try.ntmps51
    go_wp2
    go_ret
    exact ⟨_, rfl, own_nil _ _ _, Below.refl _ _⟩
  | some ad =>
    have HP := hide (hp.upA (.cells #[] 45))
    have HL := Lib.hid hl
    clear hp hA hl
    have hnil := fun W => eql_nil W (some ad) n c
    go_enter Try.func51, Try.ntmps51
    go_wp2_with (at_builtin; go_must (refine wpList_append_parts rfl (.tmp 5) (.tmp 6) rfl w.heap.size _ _ 0 [] rfl (own_empty w _ _ (Nat.le_refl _)) (some ad) n c e rfl (by intro h; cases h) (unhide HP) (by omega) (by simp) ?_); go_must (intro v' w' hown' hgrow))
    go_ret
    refine ⟨_, rfl, ?_, ((Below.refl w.heap.size w).alloc (Nat.le_refl _) _).grown hgrow (by simp) (own_block (own_empty w w.heap.size 45 (Nat.le_refl _)))⟩
    have := HL.out
    rw [this]
    simpa using hown'
/-- slices.Grow of nil: an own row of no element. -/
def GrowD (w : World) (r : Ending) (w' : World) : Prop := ∃ v, r = .returned v ∧ w'.ownsRow w.heap.size 45 2 v 0 [] ∧ Below w.heap.size w w'
theorem grow_any (w : World) (n : Nat) (hn : n ≤ 1000000000) : Calls Try.prog 115 #[.slice none 0 0, .int .i64 (n : Int)] w (GrowD w) := by
  by_cases h0 : n = 0
  · subst h0
    go_enter Try.func115, Try.ntmps115
    go_wp2
    go_ret
    exact ⟨_, rfl, own_nil _ _ _, Below.refl _ _⟩
  · obtain ⟨i0, hi0, hz0, hz1, hz2⟩ := info_parts part_info
    have hr := fun ty => Lib.run_append_nil_zeros (P := Try.prog) w 23 3 ty 45 i0 (part 0 0) .i64 .i64 Try.underlying23 Try.underlying3 hi0 hz0 n (by omega) (by rw [hz1]; omega) (by omega) (by rw [hz2]; omega)
    have hg1 := grownCap_le_maxLen w n 0 45 (by unfold maxLen; omega)
    have hg0 := grownCap_ge w n 0 45
    generalize grownCap w n 0 45 = C at *
    obtain ⟨Z, hZ⟩ : ∃ Z, Builtin.zeroCells (part 0 0).cells n ++ Builtin.zeroCells (part 0 0).cells (C - n) = Z := ⟨_, rfl⟩
    have hZs : Z.size = C * 2 := by
      rw [← hZ, Array.size_append, size_zeroCells, size_zeroCells]
      show n * 2 + (C - n) * 2 = C * 2
      omega
    rw [hZ] at hr
    clear hZ hi0 hz0 hz1 hz2
    have HZ := Lib.hid hZs
    clear hZs
    have HR := hide hr
    clear hr
    have n1 : 0 < (n : Int) := by omega
    have n2 : (n : Int) ≤ 1000000000 := by omega
    have n3 : 0 < n := by omega
    go_enter Try.func115, Try.ntmps115
    go_wp2_with (at_builtin; refine Lib.wpList_append_run _ rfl _ _ _ _ rfl _ _ rfl rfl _ _ (unhide HR _) ?_)
    go_ret
    refine ⟨_, rfl, ⟨rfl, .inr ⟨w.heap.size, C, Z, rfl, Nat.le_refl _, heap_alloc_new w.drew _, Nat.zero_le _, hg1, HZ.out, rfl⟩⟩, ?_⟩
    exact ((Below.refl w.heap.size w).drew).alloc (Nat.le_refl _) _
/-- A slice of slices of parts. -/
abbrev SlV := Option Addr × Nat × Nat × List Pt
def RowS (w : World) (B : Nat) (G : Option Addr) (m : Nat) (xs : List SlV) : Prop :=
  xs.length = m ∧ (0 < m → ∃ g off, G = some ⟨g, off, none⟩ ∧ g < B ∧ ∀ i A n c e, xs[i]? = some (A, n, c, e) → w.cell? ⟨g, off + i, none⟩ = some (.slice A n c) ∧ SL w B A n c e)
theorem RowS.nil {w : World} {B : Nat} {G : Option Addr} : RowS w B G 0 [] := ⟨rfl, fun h => absurd h (by omega)⟩
theorem RowS.below {w w' : World} {B : Nat} {G : Option Addr} {m : Nat} {xs : List SlV} (h : RowS w B G m xs) (hB : B ≤ w.heap.size) (hb : Below w.heap.size w w') : RowS w' B G m xs :=
  ⟨h.1, fun hm => by
    obtain ⟨g, off, e1, e2, e3⟩ := h.2 hm
    exact ⟨g, off, e1, e2, fun i A n c e hi => ⟨(hb.cell (p := ⟨g, off + i, none⟩) (by show g < _; omega)).trans (e3 i A n c e hi).1, (e3 i A n c e hi).2.below hB hb⟩⟩⟩
theorem RowS.at {w : World} {B : Nat} {G : Option Addr} {m : Nat} {xs : List SlV} (h : RowS w B G m xs) {i : Nat} (hi : i < m) :
    ∃ g off A n c e, G = some ⟨g, off, none⟩ ∧ g < B ∧ xs[i]? = some (A, n, c, e) ∧ w.cell? ⟨g, off + i, none⟩ = some (.slice A n c) ∧ SL w B A n c e := by
  obtain ⟨g, off, e1, e2, e3⟩ := h.2 (by omega)
  have hl : i < xs.length := by rw [h.1]; exact hi
  obtain ⟨c1, c2⟩ := e3 i xs[i].1 xs[i].2.1 xs[i].2.2.1 xs[i].2.2.2 (List.getElem?_eq_getElem hl)
  exact ⟨g, off, _, _, _, _, e1, e2, List.getElem?_eq_getElem hl, c1, c2⟩
def cats : List SlV → List Pt
  | [] => []
  | x :: r => x.2.2.2 ++ cats r
theorem cats_append (a b : List SlV) : cats (a ++ b) = cats a ++ cats b := by
  induction a with
  | nil => rfl
  | cons x a ih => simp [cats, ih]
theorem cats_take (xs : List SlV) (i : Nat) : (cats (xs.take i)).length ≤ (cats xs).length := by
  have h : cats xs = cats (xs.take i) ++ cats (xs.drop i) := by rw [← cats_append, List.take_append_drop]
  rw [h, List.length_append]; omega
theorem cats_next {xs : List SlV} {i : Nat} {A : Option Addr} {n c : Nat} {e : List Pt} (h : xs[i]? = some (A, n, c, e)) : cats (xs.take (i + 1)) = cats (xs.take i) ++ e := by
  obtain ⟨hlt, he⟩ := List.getElem?_eq_some_iff.1 h
  rw [List.take_succ_eq_append_getElem hlt, he, cats_append]; simp [cats]

set_option maxHeartbeats 1000000 in
theorem concat_any (w : World) (G : Option Addr) (m c : Nat) (xs : List SlV) (h : RowS w w.heap.size G m xs) (hm : m ≤ 1000) (hT : (cats xs).length ≤ 500000000) :
    Calls Try.prog 100 #[.slice G m c] w (OwnD w (cats xs)) := by
  have HT := Lib.hid hT
  have HR := hide h
  have HX := Lib.hid h.1
  clear h hT
  go_enter Try.func100, Try.ntmps100
  go_wp2
  go_loop [3, 11] (fun s i => ∃ k sv : Nat, i = .int .i64 k ∧ s = .int .i64 sv ∧ k ≤ m ∧ Hid (sv = (cats (xs.take k)).length) ∧ sv ≤ 500000000) (fun _ i => m - (intOf i).toNat)
  case atStart => exact ⟨0, 0, rfl, rfl, Nat.zero_le _, Lib.hid rfl, by omega⟩
  case round =>
    obtain ⟨k, sv, rfl, rfl, hk, hs, hsv⟩ := hrel
    by_cases hlt : k < m
    · obtain ⟨g, off, A, n, c', e, rfl, hg, hx, hc, hsl⟩ := (unhide HR).at hlt
      have hl := hsl.1.1
      have hnx := cats_next hx
      have hle := cats_take xs (k + 1)
      rw [hnx, List.length_append, hl] at hle
      have hnn : sv + n ≤ 500000000 := by have := hs.out; have := HT.out; omega
      have HN := Lib.hid hnx
      have HL := Lib.hid hl
      clear hnx hle hx hl hsl
      go_wp2
      go_round
      case rel => exact ⟨k + 1, sv + n, by go_num, by go_num, by omega, Lib.hid (by rw [HN.out, List.length_append, HL.out, hs.out]), hnn⟩
      case measure => simp [intOf]; omega
    · obtain rfl : k = m := by omega
      have hsv2 : Hid (sv = (cats xs).length) := by
        have h1 := hs.out
        rw [List.take_of_length_le (by rw [HX.out]; omega)] at h1
        exact Lib.hid h1
      clear hs
      go_wp2_with (go_at_call 115; refine (grow_any _ sv (by omega)).mono ?_; rintro r w1 ⟨v, rfl, hown, hb⟩)
      go_loopw [6, 27] (fun v i wr => ∃ j : Nat, i = .int .i64 j ∧ j ≤ k ∧ wr.ownsRow w.heap.size 45 2 v (cats (xs.take j)).length (flatV (cats (xs.take j))) ∧ Below w.heap.size w wr) (fun _ i _ => k - (intOf i).toNat)
      case atStart => exact ⟨0, rfl, Nat.zero_le _, hown, hb⟩
      case round =>
        clear hown hb
        obtain ⟨j, rfl, hj, hown, hb⟩ := hrel
        by_cases hlt2 : j < k
        · obtain ⟨g, off, A, n, c', e, rfl, hg, hx, hc, hsl⟩ := ((unhide HR).below (Nat.le_refl _) hb).at hlt2
          have hl := hsl.1.1
          have hnx := cats_next hx
          have hle := cats_take xs (j + 1)
          rw [hnx, List.length_append, hl] at hle
          have hnn : (cats (xs.take j)).length + n ≤ 500000000 := by have := HT.out; omega
          have HN := Lib.hid hnx
          have HL := Lib.hid hl
          have HO := hide hown
          have HS := hide hsl
          have hz := hb.size
          clear hnx hle hx hl hsl hown
          go_wp2_with (at_builtin; go_must (refine wpList_append_parts rfl (.tmp 31) (.tmp 32) rfl w.heap.size _ _ _ _ rfl (unhide HO) A n c' e rfl (unhide HS).2.2.2 (unhide HS).1 (by omega) (by omega) ?_); go_must (intro v' w' hown' hgrow))
          go_roundw
          case rel => exact ⟨j + 1, by go_num, by omega, by rw [HN.out, List.length_append, HL.out]; exact hown', hb.grown hgrow hz (own_block (unhide HO))⟩
          case measure => simp [intOf]; omega
        · obtain rfl : j = k := by omega
          rw [List.take_of_length_le (by rw [HX.out]; omega)] at hown
          go_wp2
          go_ret
          exact ⟨_, rfl, hown, hb⟩
end Go.Proofs.Ytadibjjjdbglaaa
