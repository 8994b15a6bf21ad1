/-
  Steps of a region that draws its order, by hand: for regions with two loads of long arrays.
-/
import Derived.Deep.RegionHeld3
import Derived.Deep.MidRow
namespace Go.Proofs.Ytgcggmlekmjpdaa
open Go
set_option linter.unusedVariables false
variable {P : Program} {md : Region.Mode} {Q : Exit → Act → World → Prop} {S : World → Prop} {fuel : Nat} {listed : Array Bool} {a : Act} {w : World}

theorem take0 { o : Oper} {post : List Oper} {v : Value} (hs : Region.noSelect (o :: post).toArray = true) (hf : Region.free md (o :: post).toArray listed 0 = true) (hr : (Region.ready md (o :: post).toArray listed).contains 0 = true)
    (hQ : ∀ c a w, Q (.panic c) (a.put o.dst v) w → Q (.panic c) a w) (hy : YieldsIf P (o :: post).toArray S o v a) (hS : S w)
    (h : wpAnyH P md (o :: post).toArray Q S fuel (listed.setIfInBounds 0 true) (a.put o.dst v) w) : wpAnyH P md (o :: post).toArray Q S (fuel + 1) listed a w :=
  wpAnyH_take (i := 0) (by simp) hs hf hr hQ hy hS h

theorem take1 {x0 o : Oper} {post : List Oper} {v : Value} (hs : Region.noSelect (x0 :: o :: post).toArray = true) (hf : Region.free md (x0 :: o :: post).toArray listed 1 = true) (hr : (Region.ready md (x0 :: o :: post).toArray listed).contains 1 = true)
    (hQ : ∀ c a w, Q (.panic c) (a.put o.dst v) w → Q (.panic c) a w) (hy : YieldsIf P (x0 :: o :: post).toArray S o v a) (hS : S w)
    (h : wpAnyH P md (x0 :: o :: post).toArray Q S fuel (listed.setIfInBounds 1 true) (a.put o.dst v) w) : wpAnyH P md (x0 :: o :: post).toArray Q S (fuel + 1) listed a w :=
  wpAnyH_take (i := 1) (by simp) hs hf hr hQ hy hS h

theorem take2 {x0 x1 o : Oper} {post : List Oper} {v : Value} (hs : Region.noSelect (x0 :: x1 :: o :: post).toArray = true) (hf : Region.free md (x0 :: x1 :: o :: post).toArray listed 2 = true) (hr : (Region.ready md (x0 :: x1 :: o :: post).toArray listed).contains 2 = true)
    (hQ : ∀ c a w, Q (.panic c) (a.put o.dst v) w → Q (.panic c) a w) (hy : YieldsIf P (x0 :: x1 :: o :: post).toArray S o v a) (hS : S w)
    (h : wpAnyH P md (x0 :: x1 :: o :: post).toArray Q S fuel (listed.setIfInBounds 2 true) (a.put o.dst v) w) : wpAnyH P md (x0 :: x1 :: o :: post).toArray Q S (fuel + 1) listed a w :=
  wpAnyH_take (i := 2) (by simp) hs hf hr hQ hy hS h

theorem take3 {x0 x1 x2 o : Oper} {post : List Oper} {v : Value} (hs : Region.noSelect (x0 :: x1 :: x2 :: o :: post).toArray = true) (hf : Region.free md (x0 :: x1 :: x2 :: o :: post).toArray listed 3 = true) (hr : (Region.ready md (x0 :: x1 :: x2 :: o :: post).toArray listed).contains 3 = true)
    (hQ : ∀ c a w, Q (.panic c) (a.put o.dst v) w → Q (.panic c) a w) (hy : YieldsIf P (x0 :: x1 :: x2 :: o :: post).toArray S o v a) (hS : S w)
    (h : wpAnyH P md (x0 :: x1 :: x2 :: o :: post).toArray Q S fuel (listed.setIfInBounds 3 true) (a.put o.dst v) w) : wpAnyH P md (x0 :: x1 :: x2 :: o :: post).toArray Q S (fuel + 1) listed a w :=
  wpAnyH_take (i := 3) (by simp) hs hf hr hQ hy hS h

theorem take4 {x0 x1 x2 x3 o : Oper} {post : List Oper} {v : Value} (hs : Region.noSelect (x0 :: x1 :: x2 :: x3 :: o :: post).toArray = true) (hf : Region.free md (x0 :: x1 :: x2 :: x3 :: o :: post).toArray listed 4 = true) (hr : (Region.ready md (x0 :: x1 :: x2 :: x3 :: o :: post).toArray listed).contains 4 = true)
    (hQ : ∀ c a w, Q (.panic c) (a.put o.dst v) w → Q (.panic c) a w) (hy : YieldsIf P (x0 :: x1 :: x2 :: x3 :: o :: post).toArray S o v a) (hS : S w)
    (h : wpAnyH P md (x0 :: x1 :: x2 :: x3 :: o :: post).toArray Q S fuel (listed.setIfInBounds 4 true) (a.put o.dst v) w) : wpAnyH P md (x0 :: x1 :: x2 :: x3 :: o :: post).toArray Q S (fuel + 1) listed a w :=
  wpAnyH_take (i := 4) (by simp) hs hf hr hQ hy hS h

theorem take5 {x0 x1 x2 x3 x4 o : Oper} {post : List Oper} {v : Value} (hs : Region.noSelect (x0 :: x1 :: x2 :: x3 :: x4 :: o :: post).toArray = true) (hf : Region.free md (x0 :: x1 :: x2 :: x3 :: x4 :: o :: post).toArray listed 5 = true) (hr : (Region.ready md (x0 :: x1 :: x2 :: x3 :: x4 :: o :: post).toArray listed).contains 5 = true)
    (hQ : ∀ c a w, Q (.panic c) (a.put o.dst v) w → Q (.panic c) a w) (hy : YieldsIf P (x0 :: x1 :: x2 :: x3 :: x4 :: o :: post).toArray S o v a) (hS : S w)
    (h : wpAnyH P md (x0 :: x1 :: x2 :: x3 :: x4 :: o :: post).toArray Q S fuel (listed.setIfInBounds 5 true) (a.put o.dst v) w) : wpAnyH P md (x0 :: x1 :: x2 :: x3 :: x4 :: o :: post).toArray Q S (fuel + 1) listed a w :=
  wpAnyH_take (i := 5) (by simp) hs hf hr hQ hy hS h

theorem take6 {x0 x1 x2 x3 x4 x5 o : Oper} {post : List Oper} {v : Value} (hs : Region.noSelect (x0 :: x1 :: x2 :: x3 :: x4 :: x5 :: o :: post).toArray = true) (hf : Region.free md (x0 :: x1 :: x2 :: x3 :: x4 :: x5 :: o :: post).toArray listed 6 = true) (hr : (Region.ready md (x0 :: x1 :: x2 :: x3 :: x4 :: x5 :: o :: post).toArray listed).contains 6 = true)
    (hQ : ∀ c a w, Q (.panic c) (a.put o.dst v) w → Q (.panic c) a w) (hy : YieldsIf P (x0 :: x1 :: x2 :: x3 :: x4 :: x5 :: o :: post).toArray S o v a) (hS : S w)
    (h : wpAnyH P md (x0 :: x1 :: x2 :: x3 :: x4 :: x5 :: o :: post).toArray Q S fuel (listed.setIfInBounds 6 true) (a.put o.dst v) w) : wpAnyH P md (x0 :: x1 :: x2 :: x3 :: x4 :: x5 :: o :: post).toArray Q S (fuel + 1) listed a w :=
  wpAnyH_take (i := 6) (by simp) hs hf hr hQ hy hS h

theorem take7 {x0 x1 x2 x3 x4 x5 x6 o : Oper} {post : List Oper} {v : Value} (hs : Region.noSelect (x0 :: x1 :: x2 :: x3 :: x4 :: x5 :: x6 :: o :: post).toArray = true) (hf : Region.free md (x0 :: x1 :: x2 :: x3 :: x4 :: x5 :: x6 :: o :: post).toArray listed 7 = true) (hr : (Region.ready md (x0 :: x1 :: x2 :: x3 :: x4 :: x5 :: x6 :: o :: post).toArray listed).contains 7 = true)
    (hQ : ∀ c a w, Q (.panic c) (a.put o.dst v) w → Q (.panic c) a w) (hy : YieldsIf P (x0 :: x1 :: x2 :: x3 :: x4 :: x5 :: x6 :: o :: post).toArray S o v a) (hS : S w)
    (h : wpAnyH P md (x0 :: x1 :: x2 :: x3 :: x4 :: x5 :: x6 :: o :: post).toArray Q S fuel (listed.setIfInBounds 7 true) (a.put o.dst v) w) : wpAnyH P md (x0 :: x1 :: x2 :: x3 :: x4 :: x5 :: x6 :: o :: post).toArray Q S (fuel + 1) listed a w :=
  wpAnyH_take (i := 7) (by simp) hs hf hr hQ hy hS h

theorem take8 {x0 x1 x2 x3 x4 x5 x6 x7 o : Oper} {post : List Oper} {v : Value} (hs : Region.noSelect (x0 :: x1 :: x2 :: x3 :: x4 :: x5 :: x6 :: x7 :: o :: post).toArray = true) (hf : Region.free md (x0 :: x1 :: x2 :: x3 :: x4 :: x5 :: x6 :: x7 :: o :: post).toArray listed 8 = true) (hr : (Region.ready md (x0 :: x1 :: x2 :: x3 :: x4 :: x5 :: x6 :: x7 :: o :: post).toArray listed).contains 8 = true)
    (hQ : ∀ c a w, Q (.panic c) (a.put o.dst v) w → Q (.panic c) a w) (hy : YieldsIf P (x0 :: x1 :: x2 :: x3 :: x4 :: x5 :: x6 :: x7 :: o :: post).toArray S o v a) (hS : S w)
    (h : wpAnyH P md (x0 :: x1 :: x2 :: x3 :: x4 :: x5 :: x6 :: x7 :: o :: post).toArray Q S fuel (listed.setIfInBounds 8 true) (a.put o.dst v) w) : wpAnyH P md (x0 :: x1 :: x2 :: x3 :: x4 :: x5 :: x6 :: x7 :: o :: post).toArray Q S (fuel + 1) listed a w :=
  wpAnyH_take (i := 8) (by simp) hs hf hr hQ hy hS h

theorem take9 {x0 x1 x2 x3 x4 x5 x6 x7 x8 o : Oper} {post : List Oper} {v : Value} (hs : Region.noSelect (x0 :: x1 :: x2 :: x3 :: x4 :: x5 :: x6 :: x7 :: x8 :: o :: post).toArray = true) (hf : Region.free md (x0 :: x1 :: x2 :: x3 :: x4 :: x5 :: x6 :: x7 :: x8 :: o :: post).toArray listed 9 = true) (hr : (Region.ready md (x0 :: x1 :: x2 :: x3 :: x4 :: x5 :: x6 :: x7 :: x8 :: o :: post).toArray listed).contains 9 = true)
    (hQ : ∀ c a w, Q (.panic c) (a.put o.dst v) w → Q (.panic c) a w) (hy : YieldsIf P (x0 :: x1 :: x2 :: x3 :: x4 :: x5 :: x6 :: x7 :: x8 :: o :: post).toArray S o v a) (hS : S w)
    (h : wpAnyH P md (x0 :: x1 :: x2 :: x3 :: x4 :: x5 :: x6 :: x7 :: x8 :: o :: post).toArray Q S fuel (listed.setIfInBounds 9 true) (a.put o.dst v) w) : wpAnyH P md (x0 :: x1 :: x2 :: x3 :: x4 :: x5 :: x6 :: x7 :: x8 :: o :: post).toArray Q S (fuel + 1) listed a w :=
  wpAnyH_take (i := 9) (by simp) hs hf hr hQ hy hS h

theorem take10 {x0 x1 x2 x3 x4 x5 x6 x7 x8 x9 o : Oper} {post : List Oper} {v : Value} (hs : Region.noSelect (x0 :: x1 :: x2 :: x3 :: x4 :: x5 :: x6 :: x7 :: x8 :: x9 :: o :: post).toArray = true) (hf : Region.free md (x0 :: x1 :: x2 :: x3 :: x4 :: x5 :: x6 :: x7 :: x8 :: x9 :: o :: post).toArray listed 10 = true) (hr : (Region.ready md (x0 :: x1 :: x2 :: x3 :: x4 :: x5 :: x6 :: x7 :: x8 :: x9 :: o :: post).toArray listed).contains 10 = true)
    (hQ : ∀ c a w, Q (.panic c) (a.put o.dst v) w → Q (.panic c) a w) (hy : YieldsIf P (x0 :: x1 :: x2 :: x3 :: x4 :: x5 :: x6 :: x7 :: x8 :: x9 :: o :: post).toArray S o v a) (hS : S w)
    (h : wpAnyH P md (x0 :: x1 :: x2 :: x3 :: x4 :: x5 :: x6 :: x7 :: x8 :: x9 :: o :: post).toArray Q S fuel (listed.setIfInBounds 10 true) (a.put o.dst v) w) : wpAnyH P md (x0 :: x1 :: x2 :: x3 :: x4 :: x5 :: x6 :: x7 :: x8 :: x9 :: o :: post).toArray Q S (fuel + 1) listed a w :=
  wpAnyH_take (i := 10) (by simp) hs hf hr hQ hy hS h

theorem store10 {x0 x1 x2 x3 x4 x5 x6 x7 x8 x9 o : Oper} {post : List Oper} (hr : Region.ready md (x0 :: x1 :: x2 :: x3 :: x4 :: x5 :: x6 :: x7 :: x8 :: x9 :: o :: post).toArray listed = [10]) (hg : o.guard = none) (ty : TypeId) (x y : Operand) (hop : o.op = .store ty x y) (hd : o.dst = none) (b n : Nat) (cs : List Value)
    (hx : a.eval x = .pointer (some ⟨b, 0, none⟩)) (hy : a.eval y = .agg cs.toArray) (ht : w.there b 0 n) (hl : cs.length = n) (hi : (P.info? ty).map (·.size) = some cs.length) (h1 : ∀ v ∈ cs, v.oneCell' = true) (hS : S (w.setCells b 0 cs))
    (h : wpAnyH P md (x0 :: x1 :: x2 :: x3 :: x4 :: x5 :: x6 :: x7 :: x8 :: x9 :: o :: post).toArray Q S fuel (listed.setIfInBounds 10 true) a (w.setCells b 0 cs)) : wpAnyH P md (x0 :: x1 :: x2 :: x3 :: x4 :: x5 :: x6 :: x7 :: x8 :: x9 :: o :: post).toArray Q S (fuel + 1) listed a w := by
  refine wpAnyH_ready hr (by simp) (AllReadyH.cons (o := o) (by simp) (fun K hK => ?_) AllReadyH.nil)
  have hw : Region.wanted o (yielded (x0 :: x1 :: x2 :: x3 :: x4 :: x5 :: x6 :: x7 :: x8 :: x9 :: o :: post).toArray a.tmps) = true := by simp [Region.wanted, hg]
  rw [if_pos hw]
  refine wp_store_mid ty x y hop b 0 cs.toArray hx hy (by rw [List.size_toArray, hl]; exact ht) (by rw [List.size_toArray]; exact hi) (all_oneCell_toArray h1) ?_
  have e : a.put o.dst undef = a := by rw [hd]; rfl
  rw [e]
  exact hK.out _ _ hS (fun _ => h)

theorem take11 {x0 x1 x2 x3 x4 x5 x6 x7 x8 x9 x10 o : Oper} {post : List Oper} {v : Value} (hs : Region.noSelect (x0 :: x1 :: x2 :: x3 :: x4 :: x5 :: x6 :: x7 :: x8 :: x9 :: x10 :: o :: post).toArray = true) (hf : Region.free md (x0 :: x1 :: x2 :: x3 :: x4 :: x5 :: x6 :: x7 :: x8 :: x9 :: x10 :: o :: post).toArray listed 11 = true) (hr : (Region.ready md (x0 :: x1 :: x2 :: x3 :: x4 :: x5 :: x6 :: x7 :: x8 :: x9 :: x10 :: o :: post).toArray listed).contains 11 = true)
    (hQ : ∀ c a w, Q (.panic c) (a.put o.dst v) w → Q (.panic c) a w) (hy : YieldsIf P (x0 :: x1 :: x2 :: x3 :: x4 :: x5 :: x6 :: x7 :: x8 :: x9 :: x10 :: o :: post).toArray S o v a) (hS : S w)
    (h : wpAnyH P md (x0 :: x1 :: x2 :: x3 :: x4 :: x5 :: x6 :: x7 :: x8 :: x9 :: x10 :: o :: post).toArray Q S fuel (listed.setIfInBounds 11 true) (a.put o.dst v) w) : wpAnyH P md (x0 :: x1 :: x2 :: x3 :: x4 :: x5 :: x6 :: x7 :: x8 :: x9 :: x10 :: o :: post).toArray Q S (fuel + 1) listed a w :=
  wpAnyH_take (i := 11) (by simp) hs hf hr hQ hy hS h

theorem store11 {x0 x1 x2 x3 x4 x5 x6 x7 x8 x9 x10 o : Oper} {post : List Oper} (hr : Region.ready md (x0 :: x1 :: x2 :: x3 :: x4 :: x5 :: x6 :: x7 :: x8 :: x9 :: x10 :: o :: post).toArray listed = [11]) (hg : o.guard = none) (ty : TypeId) (x y : Operand) (hop : o.op = .store ty x y) (hd : o.dst = none) (b n : Nat) (cs : List Value)
    (hx : a.eval x = .pointer (some ⟨b, 0, none⟩)) (hy : a.eval y = .agg cs.toArray) (ht : w.there b 0 n) (hl : cs.length = n) (hi : (P.info? ty).map (·.size) = some cs.length) (h1 : ∀ v ∈ cs, v.oneCell' = true) (hS : S (w.setCells b 0 cs))
    (h : wpAnyH P md (x0 :: x1 :: x2 :: x3 :: x4 :: x5 :: x6 :: x7 :: x8 :: x9 :: x10 :: o :: post).toArray Q S fuel (listed.setIfInBounds 11 true) a (w.setCells b 0 cs)) : wpAnyH P md (x0 :: x1 :: x2 :: x3 :: x4 :: x5 :: x6 :: x7 :: x8 :: x9 :: x10 :: o :: post).toArray Q S (fuel + 1) listed a w := by
  refine wpAnyH_ready hr (by simp) (AllReadyH.cons (o := o) (by simp) (fun K hK => ?_) AllReadyH.nil)
  have hw : Region.wanted o (yielded (x0 :: x1 :: x2 :: x3 :: x4 :: x5 :: x6 :: x7 :: x8 :: x9 :: x10 :: o :: post).toArray a.tmps) = true := by simp [Region.wanted, hg]
  rw [if_pos hw]
  refine wp_store_mid ty x y hop b 0 cs.toArray hx hy (by rw [List.size_toArray, hl]; exact ht) (by rw [List.size_toArray]; exact hi) (all_oneCell_toArray h1) ?_
  have e : a.put o.dst undef = a := by rw [hd]; rfl
  rw [e]
  exact hK.out _ _ hS (fun _ => h)

theorem take12 {x0 x1 x2 x3 x4 x5 x6 x7 x8 x9 x10 x11 o : Oper} {post : List Oper} {v : Value} (hs : Region.noSelect (x0 :: x1 :: x2 :: x3 :: x4 :: x5 :: x6 :: x7 :: x8 :: x9 :: x10 :: x11 :: o :: post).toArray = true) (hf : Region.free md (x0 :: x1 :: x2 :: x3 :: x4 :: x5 :: x6 :: x7 :: x8 :: x9 :: x10 :: x11 :: o :: post).toArray listed 12 = true) (hr : (Region.ready md (x0 :: x1 :: x2 :: x3 :: x4 :: x5 :: x6 :: x7 :: x8 :: x9 :: x10 :: x11 :: o :: post).toArray listed).contains 12 = true)
    (hQ : ∀ c a w, Q (.panic c) (a.put o.dst v) w → Q (.panic c) a w) (hy : YieldsIf P (x0 :: x1 :: x2 :: x3 :: x4 :: x5 :: x6 :: x7 :: x8 :: x9 :: x10 :: x11 :: o :: post).toArray S o v a) (hS : S w)
    (h : wpAnyH P md (x0 :: x1 :: x2 :: x3 :: x4 :: x5 :: x6 :: x7 :: x8 :: x9 :: x10 :: x11 :: o :: post).toArray Q S fuel (listed.setIfInBounds 12 true) (a.put o.dst v) w) : wpAnyH P md (x0 :: x1 :: x2 :: x3 :: x4 :: x5 :: x6 :: x7 :: x8 :: x9 :: x10 :: x11 :: o :: post).toArray Q S (fuel + 1) listed a w :=
  wpAnyH_take (i := 12) (by simp) hs hf hr hQ hy hS h

end Go.Proofs.Ytgcggmlekmjpdaa

