/-
  Texts of expressions: plain functions, no program in sight. What a printed tree reads back as.
-/
import Derived.Test.YtadibjjjdbglaaaSimp
namespace Go.Proofs.Ytadibjjjdbglaaa
open Go.RowKit
set_option linter.unusedVariables false

/-- How tightly a kind binds. -/
def levK (k : Int) : Nat := if k = 5 then 0 else if k = 6 then 1 else if k = 4 then 2 else if k = 7 then 3 else if k = 8 then 4 else 5
def leafC (k l : Int) : UInt8 := if k = 1 then 48 else if k = 2 then 49 else UInt8.ofNat (97 + l).toNat
def signT (k : Int) : List UInt8 := if k = 5 then [124] else if k = 6 then [38] else []
/-- In brackets where told. -/
def brk (b : Bool) (l : List UInt8) : List UInt8 := if b = true then 40 :: (l ++ [41]) else l
theorem levK_bd (k : Int) : levK k ≤ 5 := by
  unfold levK
  repeat (first | omega | split)
namespace Ex
theorem lev_leaf {k l : Int} (hg : (leaf k l).good) : levK (leaf k l).kind = 5 := by
  show levK k = 5
  rcases hg with ⟨h | h, -⟩ | ⟨h, -⟩ <;> (subst h; decide)
theorem lev_un7 (a : Ex) : levK (un 7 a).kind = 3 := by show levK 7 = 3; decide
theorem lev_un8 (a : Ex) : levK (un 8 a).kind = 4 := by show levK 8 = 4; decide
theorem lev_bin {k : Int} {a b : Ex} (hg : (bin k a b).good) : levK (bin k a b).kind ≤ 2 := by
  show levK k ≤ 2
  rcases hg.1 with rfl | rfl | rfl <;> decide
def txt : Ex → List UInt8
  | leaf k l => [leafC k l]
  | un k a => if k = 7 then 33 :: brk (decide (levK a.kind < 3)) a.txt else brk (decide (levK a.kind < 4)) a.txt ++ [42]
  | bin k a b => brk (decide (levK a.kind < levK k)) a.txt ++ signT k ++ brk (decide (levK b.kind < levK k + 1)) b.txt
/-- The text of an operand that has to bind at least so tightly. -/
def br (l : Nat) (t : Ex) : List UInt8 := brk (decide (levK t.kind < l)) t.txt
theorem br_low {l : Nat} {t : Ex} (h : l ≤ levK t.kind) : t.br l = t.txt := by
  unfold br brk; rw [if_neg (by simp; omega)]
theorem br_high {l : Nat} {t : Ex} (h : levK t.kind < l) : t.br l = 40 :: (t.txt ++ [41]) := by
  unfold br brk; rw [if_pos (by simp; omega)]
theorem br_zero (t : Ex) : t.br 0 = t.txt := br_low (Nat.zero_le _)
theorem txt_un7 (a : Ex) : (un 7 a).txt = 33 :: a.br 3 := by simp [txt, br]
theorem txt_un8 (a : Ex) : (un 8 a).txt = a.br 4 ++ [42] := by simp [txt, br]
theorem txt_bin (k : Int) (a b : Ex) : (bin k a b).txt = a.br (levK k) ++ signT k ++ b.br (levK k + 1) := rfl
theorem brk_len (b : Bool) (l : List UInt8) : l.length ≤ (brk b l).length ∧ (brk b l).length ≤ l.length + 2 := by
  unfold brk; split <;> simp <;> omega
theorem br_len (l : Nat) (t : Ex) : t.txt.length ≤ (t.br l).length ∧ (t.br l).length ≤ t.txt.length + 2 := brk_len _ _
theorem sign_len (k : Int) : (signT k).length ≤ 1 := by unfold signT; split <;> (try split) <;> simp
theorem txt_len (t : Ex) : t.txt.length + 3 ≤ 4 * t.sz ∧ 1 ≤ t.txt.length := by
  induction t with
  | leaf k l => simp [txt, sz]
  | un k a ih =>
    have h1 := brk_len (decide (levK a.kind < 3)) a.txt
    have h2 := brk_len (decide (levK a.kind < 4)) a.txt
    simp only [txt, sz]
    split <;> simp <;> omega
  | bin k a b iha ihb =>
    have h1 := brk_len (decide (levK a.kind < levK k)) a.txt
    have h2 := brk_len (decide (levK b.kind < levK k + 1)) b.txt
    have h3 := sign_len k
    simp only [txt, sz, List.length_append]
    omega
end Ex
/-- The text of a list of parts. -/
def txtS (e : List Pt) (s : List UInt8) : Prop := (exprB e = false ∧ s = []) ∨ ∃ t : Ex, t.good ∧ t.flat = e ∧ t.sz ≤ 60 ∧ s = t.txt

/-- The reader, of a level from a text ('false'), and its loop behind a first operand ('true'); 'J' tells which bytes go on with an operand that is joined. -/
def rlT (J : UInt8 → Bool) : Nat → Bool → Nat → List Pt → List UInt8 → Option (List Pt × List UInt8)
  | 0, _, _, _, _ => none
  | f + 1, false, l, _, r =>
    if l = 5 then
      match r with
      | [] => none
      | c :: q =>
        if c = 48 then some ([(1, 0)], q)
        else if c = 49 then some ([(2, 0)], q)
        else if letB c = true then some ([(3, digI c)], q)
        else if c = 40 then
          match rlT J f false 0 [] q with
          | none => none
          | some (_, []) => none
          | some (e, d :: q2) => if d = 41 then some (e, q2) else none
        else none
    else if l = 3 ∧ r.head? = some 33 then
      match rlT J f false 3 [] r.tail with
      | none => none
      | some (e, q) => some (e ++ [(7, 0)], q)
    else
      match rlT J f false (l + 1) [] r with
      | none => none
      | some (e, q) => rlT J f true l e q
  | _ + 1, true, _, e, [] => some (e, [])
  | f + 1, true, l, e, c :: q =>
    if l = 4 ∧ c = 42 then rlT J f true l (e ++ [(8, 0)]) q
    else if (l = 0 ∧ c = 124) ∨ (l = 1 ∧ c = 38) then
      match rlT J f false (l + 1) [] q with
      | none => none
      | some (x, q2) => rlT J f true l (e ++ x ++ [(if l = 0 then 5 else 6, 0)]) q2
    else if l = 2 ∧ J c = true then
      match rlT J f false 3 [] (c :: q) with
      | none => none
      | some (x, q2) => rlT J f true l (e ++ x ++ [(4, 0)]) q2
    else some (e, c :: q)
def rdT (J : UInt8 → Bool) (f l : Nat) (r : List UInt8) : Option (List Pt × List UInt8) := rlT J f false l [] r
def loT (J : UInt8 → Bool) (f l : Nat) (e : List Pt) (r : List UInt8) : Option (List Pt × List UInt8) := rlT J f true l e r
section
variable {J : UInt8 → Bool}
theorem rdT_five (f : Nat) (r : List UInt8) : rdT J (f + 1) 5 r = match r with
      | [] => none
      | c :: q =>
        if c = 48 then some ([(1, 0)], q)
        else if c = 49 then some ([(2, 0)], q)
        else if letB c = true then some ([(3, digI c)], q)
        else if c = 40 then
          match rdT J f 0 q with
          | none => none
          | some (_, []) => none
          | some (e, d :: q2) => if d = 41 then some (e, q2) else none
        else none := by rw [rdT, rlT.eq_def]; rfl
theorem rdT_not (f : Nat) (q : List UInt8) : rdT J (f + 1) 3 (33 :: q) = match rdT J f 3 q with
      | none => none
      | some (e, q) => some (e ++ [(7, 0)], q) := by rw [rdT, rlT.eq_def]; rfl
theorem rdT_low (f l : Nat) (r : List UInt8) (h5 : l ≠ 5) (h3 : ¬ (l = 3 ∧ r.head? = some 33)) : rdT J (f + 1) l r = match rdT J f (l + 1) r with
      | none => none
      | some (e, q) => loT J f l e q := by rw [rdT, rlT.eq_def]; simp only [if_neg h5, if_neg h3]; rfl
theorem loT_nil (f l : Nat) (e : List Pt) : loT J (f + 1) l e [] = some (e, []) := by rw [loT, rlT]
theorem loT_cons (f l : Nat) (e : List Pt) (c : UInt8) (q : List UInt8) : loT J (f + 1) l e (c :: q) =
    if l = 4 ∧ c = 42 then loT J f l (e ++ [(8, 0)]) q
    else if (l = 0 ∧ c = 124) ∨ (l = 1 ∧ c = 38) then
      match rdT J f (l + 1) q with
      | none => none
      | some (x, q2) => loT J f l (e ++ x ++ [(if l = 0 then 5 else 6, 0)]) q2
    else if l = 2 ∧ J c = true then
      match rdT J f 3 (c :: q) with
      | none => none
      | some (x, q2) => loT J f l (e ++ x ++ [(4, 0)]) q2
    else some (e, c :: q) := by rw [loT, rlT]; rfl
end
/-- How much fuel the reader needs at most. -/
def needR (n l : Nat) : Nat := 8 * n + (7 - l)
def needL (n : Nat) : Nat := 8 * n + 7

/-- The bytes that begin an operand; those that never do. -/
def begC (c : UInt8) : Bool := c == 48 || c == 49 || letB c || c == 40 || c == 33
def endC (c : UInt8) : Bool := c == 124 || c == 38 || c == 41 || c == 42
structure JOk (J : UInt8 → Bool) : Prop where
  yes : ∀ c, begC c = true → J c = true
  no : ∀ c, endC c = true → J c = false
/-- Behind an operand of a level the reader stops at this text. -/
def stopT (l : Nat) (r : List UInt8) : Prop :=
  ∀ c, r.head? = some c → (l ≤ 4 → c ≠ 42) ∧ (l ≤ 2 → endC c = true) ∧ (l ≤ 1 → c ≠ 38) ∧ (l = 0 → c ≠ 124)
theorem stopT.mono {l m : Nat} {r : List UInt8} (h : stopT l r) (hm : l ≤ m) : stopT m r := fun c hc =>
  ⟨fun k => (h c hc).1 (by omega), fun k => (h c hc).2.1 (by omega), fun k => (h c hc).2.2.1 (by omega), fun k => (h c hc).2.2.2 (by omega)⟩
theorem stopT.nil (l : Nat) : stopT l [] := fun c hc => by cases hc
theorem stopT.close (l : Nat) (r : List UInt8) : stopT l (41 :: r) := fun c hc => by
  simp at hc; subst hc; exact ⟨fun _ => by decide, fun _ => by decide, fun _ => by decide, fun _ => by decide⟩
theorem Ex.br_head (t : Ex) (hg : t.good) (l : Nat) (r : List UInt8) : ∃ c q, t.br l ++ r = c :: q ∧ begC c = true := by
  induction t generalizing l r with
  | leaf k i =>
    by_cases h : levK (Ex.kind (.leaf k i)) < l
    · rw [Ex.br_high h]; exact ⟨_, _, rfl, by decide⟩
    · rw [Ex.br_low (by omega)]
      refine ⟨_, _, rfl, ?_⟩
      rcases hg with ⟨h | h, hl⟩ | ⟨h, h1, h2⟩
      · subst h; rfl
      · subst h; rfl
      · subst h
        rcases (show i = 0 ∨ i = 1 ∨ i = 2 by omega) with rfl | rfl | rfl <;> decide
  | un k a ih =>
    by_cases h : levK (Ex.kind (.un k a)) < l
    · rw [Ex.br_high h]; exact ⟨_, _, rfl, by decide⟩
    · rw [Ex.br_low (by omega)]
      rcases hg.1 with rfl | rfl
      · rw [Ex.txt_un7]; exact ⟨_, _, rfl, by decide⟩
      · rw [Ex.txt_un8]
        obtain ⟨c, q, h1, h2⟩ := ih hg.2 4 ([42] ++ r)
        exact ⟨c, q, by rw [List.append_assoc, h1], h2⟩
  | bin k a b iha ihb =>
    by_cases h : levK (Ex.kind (.bin k a b)) < l
    · rw [Ex.br_high h]; exact ⟨_, _, rfl, by decide⟩
    · rw [Ex.br_low (by omega), Ex.txt_bin]
      obtain ⟨c, q, h1, h2⟩ := iha hg.2.1 (levK k) (signT k ++ (b.br (levK k + 1) ++ r))
      exact ⟨c, q, by rw [List.append_assoc, List.append_assoc, h1], h2⟩
theorem begC_ne {c : UInt8} (h : begC c = true) : c ≠ 42 ∧ endC c = false := by
  have e : c.toNat < 256 := c.toNat_lt
  have : ∀ n : Fin 256, begC (UInt8.ofNat n) = true → (UInt8.ofNat n) ≠ 42 ∧ endC (UInt8.ofNat n) = false := by decide +kernel
  have h2 := this ⟨c.toNat, e⟩
  simp only [UInt8.ofNat_toNat] at h2
  exact h2 h
theorem stopT.beg {r : List UInt8} {l : Nat} (hl : 3 ≤ l) (h : ∃ c q, r = c :: q ∧ begC c = true) : stopT l r := by
  obtain ⟨c, q, rfl, h⟩ := h
  intro d hd
  simp at hd; subst hd
  exact ⟨fun _ => (begC_ne h).1, fun k => by omega, fun k => by omega, fun k => by omega⟩

section
variable {J : UInt8 → Bool}
theorem loT_stop (f l : Nat) (e : List Pt) (r : List UInt8) (hJ : JOk J) (h : stopT l r) (hl : l ≤ 4) : loT J (f + 1) l e r = some (e, r) := by
  cases r with
  | nil => exact loT_nil _ _ _
  | cons c q =>
    obtain ⟨h1, h2, h3, h4⟩ := h c rfl
    rw [loT_cons, if_neg (fun k => h1 (by omega) k.2)]
    rw [if_neg (by rintro (⟨k, e⟩ | ⟨k, e⟩); exact h4 k e; exact h3 (by omega) e)]
    rw [if_neg]
    rintro ⟨k, e⟩
    have := hJ.no c (h2 (by omega))
    rw [this] at e; cases e
/-- What the reader gives on a printed tree. 'A': whole; 'B': up to the level's own loop. -/
def RdA (J : UInt8 → Bool) (t : Ex) (l : Nat) : Prop := ∀ f r, stopT l r → needR (t.br l ++ r).length l ≤ f → rdT J f l (t.br l ++ r) = some (t.flat, r)
def RdB (J : UInt8 → Bool) (t : Ex) (l : Nat) : Prop := ∀ f r, stopT (l + 1) r → needR (t.br l ++ r).length l ≤ f → ∃ g, needL r.length ≤ g ∧ rdT J f l (t.br l ++ r) = loT J g l t.flat r
theorem RdA.of_B {t : Ex} {l : Nat} (hJ : JOk J) (hl : l ≤ 4) (h : RdB J t l) : RdA J t l := by
  intro f r hs hf
  obtain ⟨g, hg, e⟩ := h f r (hs.mono (Nat.le_succ _)) hf
  obtain ⟨g', rfl⟩ : ∃ g', g = g' + 1 := ⟨g - 1, by unfold needL at hg; omega⟩
  rw [e, loT_stop _ _ _ _ hJ hs hl]
theorem fuel_pos {n l f : Nat} (h : needR n l ≤ f) (hl : l ≤ 5) : ∃ g, f = g + 1 := ⟨f - 1, by unfold needR at h; omega⟩
/-- A text in brackets, or a leaf. -/
theorem RdA.five_high {t : Ex} (h0 : RdA J t 0) (hk : levK t.kind < 5) : RdA J t 5 := by
  intro f r hs hf
  obtain ⟨g, rfl⟩ := fuel_pos hf (by omega)
  rw [Ex.br_high hk] at hf ⊢
  rw [List.cons_append, rdT_five]
  simp only [show (40 : UInt8) ≠ 48 by decide, show (40 : UInt8) ≠ 49 by decide, show letB 40 = false by decide, if_false, if_true]
  have e : t.txt ++ [41] ++ r = t.br 0 ++ (41 :: r) := by rw [Ex.br_zero]; simp
  rw [e, h0 g (41 :: r) (stopT.close _ _) (by rw [← e]; unfold needR at hf ⊢; simp at hf ⊢; omega)]
  rfl
theorem RdA.leaf {k l : Int} (hg : (Ex.leaf k l).good) : RdA J (.leaf k l) 5 := by
  intro f r hs hf
  obtain ⟨g, rfl⟩ := fuel_pos hf (by omega)
  have hk : 5 ≤ levK (Ex.leaf k l).kind := by rw [Ex.lev_leaf hg]; omega
  rw [Ex.br_low hk, Ex.txt, List.singleton_append, rdT_five]
  rcases hg with ⟨h | h, hl⟩ | ⟨h, h1, h2⟩
  · subst h; subst hl; rfl
  · subst h; subst hl; rfl
  · subst h
    rcases (show l = 0 ∨ l = 1 ∨ l = 2 by omega) with rfl | rfl | rfl <;> rfl
/-- One level down: the tree binds more tightly, or stands in brackets. -/
theorem RdB.down {t : Ex} {l : Nat} (hg : t.good) (hl : l ≤ 4) (h : RdA J t (l + 1)) (hne : levK t.kind ≠ l) : RdB J t l := by
  intro f r hs hf
  obtain ⟨g, rfl⟩ := fuel_pos hf (by omega)
  have e : t.br l = t.br (l + 1) := by
    by_cases hlt : levK t.kind < l
    · rw [Ex.br_high hlt, Ex.br_high (by omega)]
    · rw [Ex.br_low (by omega), Ex.br_low (by omega)]
  have h33 : ¬ (l = 3 ∧ (t.br l ++ r).head? = some 33) := by
    rintro ⟨rfl, hh⟩
    by_cases hlt : levK t.kind < 3
    · rw [Ex.br_high hlt] at hh; simp at hh
    · have h4 : 4 ≤ levK t.kind := by omega
      clear hlt e hf hs h hl hne
      -- a tree at this level begins with a leaf or a bracket
      have key : ∀ u : Ex, u.good → ∀ r, (u.br 4 ++ r).head? ≠ some 33 := by
        intro u
        induction u with
        | leaf k i =>
          intro hg r
          rw [Ex.br_low (by rw [Ex.lev_leaf hg]; omega)]
          rcases hg with ⟨h | h, -⟩ | ⟨h, h1, h2⟩
          · subst h; simp [Ex.txt, leafC]
          · subst h; simp [Ex.txt, leafC]
          · subst h
            rcases (show i = 0 ∨ i = 1 ∨ i = 2 by omega) with rfl | rfl | rfl <;> simp [Ex.txt, leafC]
        | un k a ih =>
          intro hg r
          rcases hg.1 with rfl | rfl
          · rw [Ex.br_high (by rw [Ex.lev_un7]; omega)]; simp
          · rw [Ex.br_low (by rw [Ex.lev_un8]; omega), Ex.txt_un8, List.append_assoc]; exact ih hg.2 _
        | bin k a b _ _ =>
          intro hg r
          rw [Ex.br_high (by have := Ex.lev_bin hg; omega)]; simp
      refine key t hg r ?_
      rw [Ex.br_low h4]
      rw [Ex.br_low (by omega)] at hh
      exact hh
  rw [rdT_low _ _ _ (by omega) h33]
  have hlen : (t.br l ++ r).length = (t.br (l + 1) ++ r).length := by rw [e]
  have hp : 1 ≤ (t.br l).length := by have := (t.br_len l).1; have := t.txt_len.2; omega
  rw [e, h g r hs (by rw [← e]; unfold needR at hf ⊢; omega)]
  refine ⟨g, ?_, rfl⟩
  unfold needR at hf; unfold needL; simp at hf; omega
/-- All levels from the ones at which the tree's own operation is read. -/
theorem RdA.all {t : Ex} (hg : t.good) (hJ : JOk J) (hown : levK t.kind = 5 ∨ (levK t.kind < 5 ∧ RdA J t (levK t.kind) ∧ (levK t.kind ≠ 3 → RdB J t (levK t.kind)))) :
    (∀ l, l ≤ 5 → RdA J t l) ∧ (∀ l, l ≤ 4 → l ≠ 3 → RdB J t l) := by
  have hlev := levK_bd t.kind
  -- from a level down to 0
  have downA : ∀ m, m ≤ 5 → RdA J t m → (∀ l, l ≤ m → (∀ j, l ≤ j → j < m → levK t.kind ≠ j) → RdA J t l) := by
    intro m hm hA l hl hne
    obtain ⟨d, rfl⟩ : ∃ d, m = l + d := ⟨m - l, by omega⟩
    induction d generalizing l with
    | zero => exact hA
    | succ d ih =>
      have h1 : RdA J t (l + 1) := ih (l + 1) (by omega) (by rwa [show l + 1 + d = l + (d + 1) by omega]) (by omega) (fun j a b => hne j (by omega) (by omega))
      exact RdA.of_B hJ (by omega) (RdB.down hg (by omega) h1 (hne l (Nat.le_refl _) (by omega)))
  have all : ∀ l, l ≤ 5 → RdA J t l := by
    rcases hown with h5 | ⟨hlt, hA, -⟩
    · have h := (show RdA J t 5 from by
        cases t with
        | leaf k i => exact RdA.leaf hg
        | un k a => exfalso; rcases hg.1 with rfl | rfl; rw [Ex.lev_un7] at h5; omega; rw [Ex.lev_un8] at h5; omega
        | bin k a b => exfalso; have := Ex.lev_bin hg; omega)
      intro l hl
      exact downA 5 (by omega) h l hl (fun j _ b => by omega)
    · have h0 := downA _ hlev hA 0 (Nat.zero_le _) (fun j _ b => by omega)
      have h5 := RdA.five_high h0 hlt
      intro l hl
      by_cases hle : l ≤ levK t.kind
      · exact downA _ hlev hA l hle (fun j _ b => by omega)
      · exact downA 5 (by omega) h5 l hl (fun j a b => by omega)
  refine ⟨all, fun l hl h3 => ?_⟩
  by_cases he : levK t.kind = l
  · rcases hown with h5 | ⟨_, _, hB⟩
    · omega
    · have := hB (by omega); rwa [he] at this
  · exact RdB.down hg hl (all (l + 1) (by omega)) he
theorem lev_sign {k : Int} (h : k = 4 ∨ k = 5 ∨ k = 6) : levK k ≤ 2 := by rcases h with rfl | rfl | rfl <;> decide
/-- A printed tree reads back as itself. -/
theorem rdT_txt (hJ : JOk J) (t : Ex) (hg : t.good) : (∀ l, l ≤ 5 → RdA J t l) ∧ (∀ l, l ≤ 4 → l ≠ 3 → RdB J t l) := by
  induction t with
  | leaf k l => exact RdA.all hg hJ (.inl (Ex.lev_leaf hg))
  | un k a ih =>
    obtain ⟨ihA, ihB⟩ := ih hg.2
    refine RdA.all hg hJ (.inr ?_)
    rcases hg.1 with rfl | rfl
    · rw [Ex.lev_un7]
      refine ⟨by omega, ?_, fun h => absurd rfl h⟩
      intro f r hs hf
      obtain ⟨g, rfl⟩ := fuel_pos hf (by omega)
      rw [Ex.br_low (by rw [Ex.lev_un7]; omega), Ex.txt_un7] at hf ⊢
      rw [List.cons_append, rdT_not]
      rw [ihA 3 (by omega) g r hs (by unfold needR at hf ⊢; simp at hf ⊢; omega)]
      rfl
    · have hB : RdB J (Ex.un 8 a) 4 := by
        intro f r hs hf
        rw [Ex.br_low (by rw [Ex.lev_un8]; omega), Ex.txt_un8, List.append_assoc] at hf ⊢
        obtain ⟨g, hg1, e⟩ := ihB 4 (by omega) (by omega) f ([42] ++ r) (fun c hc => ⟨fun k => by omega, fun k => by omega, fun k => by omega, fun k => by omega⟩) hf
        obtain ⟨g', rfl⟩ : ∃ g', g = g' + 1 := ⟨g - 1, by unfold needL at hg1; omega⟩
        refine ⟨g', ?_, ?_⟩
        · unfold needL at hg1 ⊢; simp at hg1; omega
        · rw [e, List.singleton_append, loT_cons, if_pos ⟨rfl, rfl⟩]; rfl
      rw [Ex.lev_un8]
      exact ⟨by omega, RdA.of_B hJ (by omega) hB, fun _ => hB⟩
  | bin k a b iha ihb =>
    obtain ⟨ihaA, ihaB⟩ := iha hg.2.1
    obtain ⟨ihbA, ihbB⟩ := ihb hg.2.2
    refine RdA.all hg hJ (.inr ?_)
    have hl2 := lev_sign hg.1
    have hB : RdB J (Ex.bin k a b) (levK k) := by
      intro f r hs hf
      rw [Ex.br_low (show levK k ≤ levK (Ex.bin k a b).kind from Nat.le_refl _), Ex.txt_bin, List.append_assoc, List.append_assoc] at hf ⊢
      have hstop : stopT (levK k + 1) (signT k ++ (b.br (levK k + 1) ++ r)) := by
        rcases hg.1 with rfl | rfl | rfl
        · exact stopT.beg (by decide) (Ex.br_head b hg.2.2 _ _)
        · intro c hc
          have : (124 : UInt8) = c := by simpa [signT] using hc
          subst this
          exact ⟨fun _ => by decide, fun _ => by decide, fun _ => by decide, fun k => by revert k; decide⟩
        · intro c hc
          have : (38 : UInt8) = c := by simpa [signT] using hc
          subst this
          exact ⟨fun _ => by decide, fun _ => by decide, fun k => by revert k; decide, fun k => by revert k; decide⟩
      obtain ⟨g, hg1, e⟩ := ihaB (levK k) (by omega) (by omega) f (signT k ++ (b.br (levK k + 1) ++ r)) hstop hf
      obtain ⟨g', rfl⟩ : ∃ g', g = g' + 1 := ⟨g - 1, by unfold needL at hg1; omega⟩
      have hb1 : 1 ≤ (b.br (levK k + 1)).length := by have := (b.br_len (levK k + 1)).1; have := b.txt_len.2; omega
      have hbA := ihbA (levK k + 1) (by omega) g' r hs (by
        unfold needL at hg1; unfold needR
        rcases hg.1 with rfl | rfl | rfl <;> simp [signT, levK] at hg1 ⊢ <;> omega)
      refine ⟨g', ?_, ?_⟩
      · unfold needL at hg1 ⊢; simp at hg1; omega
      · rw [e]
        rcases hg.1 with rfl | rfl | rfl
        · obtain ⟨c, q, hcq, hcb⟩ := Ex.br_head b hg.2.2 3 r
          have hne := begC_ne hcb
          show loT J (g' + 1) 2 a.flat ([] ++ (b.br 3 ++ r)) = _
          have hbA' : rdT J g' 3 (c :: q) = some (b.flat, r) := by rw [← hcq]; exact hbA
          rw [List.nil_append, hcq, loT_cons, if_neg (by omega), if_neg (by omega), if_pos ⟨rfl, hJ.yes c hcb⟩, hbA']
          rfl
        · show loT J (g' + 1) 0 a.flat (124 :: (b.br 1 ++ r)) = _
          have hbA' : rdT J g' 1 (b.br 1 ++ r) = some (b.flat, r) := hbA
          rw [loT_cons, if_neg (by omega), if_pos (.inl ⟨rfl, rfl⟩), hbA']
          rfl
        · show loT J (g' + 1) 1 a.flat (38 :: (b.br 2 ++ r)) = _
          have hbA' : rdT J g' 2 (b.br 2 ++ r) = some (b.flat, r) := hbA
          rw [loT_cons, if_neg (by omega), if_pos (.inr ⟨rfl, rfl⟩), hbA']
          rfl
    exact ⟨by show levK k < 5; omega, RdA.of_B hJ (show levK k ≤ 4 by omega) hB, fun _ => hB⟩
theorem rd_whole (hJ : JOk J) {t : Ex} (hg : t.good) {f : Nat} (hf : needR t.txt.length 0 ≤ f) : rdT J f 0 t.txt = some (t.flat, []) := by
  have h := (rdT_txt hJ t hg).1 0 (by omega) f [] (stopT.nil _) (by rw [Ex.br_zero]; simpa using hf)
  rwa [Ex.br_zero, List.append_nil] at h
/-- A text in further brackets reads back as the text without. -/
theorem rd_bracketed (hJ : JOk J) {t : Ex} (hg : t.good) {f : Nat} (hf : needR (t.txt.length + 2) 0 ≤ f) : rdT J f 0 (40 :: (t.txt ++ [41])) = some (t.flat, []) := by
  have h0 := (rdT_txt hJ t hg).1 0 (by omega)
  have go : ∀ d l, l + d = 5 → ∀ f, needR (t.txt.length + 2) l ≤ f → rdT J f l (40 :: (t.txt ++ [41])) = some (t.flat, []) := by
    intro d
    induction d with
    | zero =>
      intro l hl f hf
      obtain rfl : l = 5 := by omega
      obtain ⟨g, rfl⟩ := fuel_pos hf (by omega)
      rw [rdT_five]
      simp only [show (40 : UInt8) ≠ 48 by decide, show (40 : UInt8) ≠ 49 by decide, show letB 40 = false by decide, if_false, if_true]
      have e : t.txt ++ [41] = t.br 0 ++ (41 :: []) := by rw [Ex.br_zero]
      rw [e, h0 g [41] (stopT.close _ _) (by rw [← e]; unfold needR at hf ⊢; simp at hf ⊢; omega)]
      rfl
    | succ d ih =>
      intro l hl f hf
      obtain ⟨g, rfl⟩ := fuel_pos hf (by omega)
      rw [rdT_low _ _ _ (by omega) (by rintro ⟨-, h⟩; simp at h), ih (l + 1) (by omega) g (by unfold needR at hf ⊢; omega)]
      obtain ⟨g', rfl⟩ : ∃ g', g = g' + 1 := ⟨g - 1, by unfold needR at hf; omega⟩
      exact loT_nil _ _ _
  exact go 5 0 (by omega) f hf
end
theorem begC_ok : JOk begC := ⟨fun _ h => h, fun c h => by
  rcases hb : begC c
  · rfl
  · rw [(begC_ne hb).2] at h; cases h⟩
theorem txt_inj {t u : Ex} (ht : t.good) (hu : u.good) (h : t.txt = u.txt) : t.flat = u.flat := by
  have h1 := rd_whole begC_ok ht (Nat.le_refl _)
  have h2 := rd_whole begC_ok hu (Nat.le_refl _)
  rw [h, h2] at h1
  injection h1 with h1
  injection h1 with h1 _
  exact h1.symm
theorem txtS.uniq {e : List Pt} {s s' : List UInt8} (h : txtS e s) (h' : txtS e s') : s = s' := by
  rcases h with ⟨hv, rfl⟩ | ⟨t, hg, hf, hs, rfl⟩
  · rcases h' with ⟨-, rfl⟩ | ⟨u, hg', hf', hs', -⟩
    · rfl
    · rw [exprB_iff.2 ⟨u, hg', hf', hs'⟩] at hv; cases hv
  · rcases h' with ⟨hv, -⟩ | ⟨u, hg', hf', hs', rfl⟩
    · rw [exprB_iff.2 ⟨t, hg, hf, hs⟩] at hv; cases hv
    · rw [Ex.flat_inj hg hg' (hf.trans hf'.symm)]
end Go.Proofs.Ytadibjjjdbglaaa
