/-
  The walk of the exact law on automata without the states that cannot be reached.
-/
import Derived.Test.YtcphbncgkemdoaaToOwn
import Derived.Test.YtcphbncgkemdoaaOpenDfa
namespace Go.Proofs.Ytcphbncgkemdoaa
open Go.RowKit
set_option linter.unusedVariables false
set_option maxRecDepth 100000

/-- Roles within a range alone. -/
def lim (f : Nat → Nat) (lo hi : Nat) : Nat → Nat := fun b => if lo ≤ b ∧ b < hi then f b else 0
theorem OwnA.lim {f : Nat → Nat} {w : World} {B lo hi : Nat} {A : Option Addr} {n c : Nat} {rs : List RowV} {A2 : Option Addr} {n2 c2 : Nat} {es : List Bool} (h : OwnA f w B A n c rs A2 n2 c2 es) (hlo : lo ≤ B) (hhi : w.heap.size ≤ hi) : OwnA (lim f lo hi) w B A n c rs A2 n2 c2 es := by
  have key : ∀ {i : Nat} {t : TypeId} {v : Value} {k : Nat} {xs : List Value}, RowO f i w B t v k xs → RowO (Proofs.Ytcphbncgkemdoaa.lim f lo hi) i w B t v k xs := fun {i t v k xs} hr =>
    ⟨hr.1, fun b e => by
      have h1 := hr.1.lt b e
      have h2 := hr.2 b e
      show (if lo ≤ b ∧ b < hi then f b else 0) = i
      rw [if_pos ⟨by omega, by omega⟩]; exact h2⟩
  exact ⟨key h.1, fun j r hj => ⟨key (h.2.1 j r hj).1, (h.2.1 j r hj).2⟩, key h.2.2⟩
/-- What lies outside a range stays. -/
def Kp (lo hi : Nat) (w w' : World) : Prop := w'.os = w.os ∧ w'.tape = w.tape ∧ w'.output = w.output ∧ w.heap.size ≤ w'.heap.size ∧ ∀ b, b < w.heap.size → b < lo ∨ hi ≤ b → w'.heap[b]? = w.heap[b]?
theorem Tn.kp {f : Nat → Nat} {lo hi p : Nat} {w w' : World} (h : Tn (lim f lo hi) p w w') (hp : 0 < p) : Kp lo hi w w' :=
  ⟨h.1, h.2.1, h.2.2.1, h.2.2.2.1, fun b hb ho => h.2.2.2.2 b hb (by show (if lo ≤ b ∧ b < hi then f b else 0) < p; rw [if_neg (by omega)]; exact hp)⟩
theorem Kp.below {lo hi : Nat} {w w' : World} (h : Kp lo hi w w') (hl : lo ≤ w.heap.size) : Below lo w w' := ⟨h.1, h.2.1, h.2.2.1, h.2.2.2.1, fun b hb => h.2.2.2.2 b (by omega) (.inl hb)⟩
theorem RowO.kp {f : Nat → Nat} {i lo hi : Nat} {w w' : World} {base : Nat} {t : TypeId} {v : Value} {n : Nat} {xs : List Value} (h : RowO f i w base t v n xs) (hk : Kp lo hi w w') (hb : hi ≤ base) : RowO f i w' base t v n xs := by
  refine ⟨⟨h.1.1, ?_⟩, h.2⟩
  rcases h.1.2 with h2 | ⟨g, cap, cur, e1, e2, e3, e4⟩
  · exact .inl h2
  · exact .inr ⟨g, cap, cur, e1, e2, (hk.2.2.2.2 g (blk_lt e3) (.inr (by omega))).trans e3, e4⟩
theorem OwnA.kp {f : Nat → Nat} {lo hi : Nat} {w w' : World} {B : Nat} {A : Option Addr} {n c : Nat} {rs : List RowV} {A2 : Option Addr} {n2 c2 : Nat} {es : List Bool} (h : OwnA f w B A n c rs A2 n2 c2 es) (hk : Kp lo hi w w') (hb : hi ≤ B) : OwnA f w' B A n c rs A2 n2 c2 es :=
  ⟨h.1.kp hk hb, fun j r hj => ⟨(h.2.1 j r hj).1.kp hk hb, (h.2.1 j r hj).2⟩, h.2.2.kp hk hb⟩
theorem OwnA.bel {f : Nat → Nat} {w w' : World} {B : Nat} {A : Option Addr} {n c : Nat} {rs : List RowV} {A2 : Option Addr} {n2 c2 : Nat} {es : List Bool} (h : OwnA f w B A n c rs A2 n2 c2 es) (hb : Below w.heap.size w w') : OwnA f w' B A n c rs A2 n2 c2 es := h.keep (bel_gr hb) none_r (fun _ _ => rfl)
theorem cells2 {w : World} {g : Nat} {a b : Value} (h : w.heap[g]? = some (.cells #[a, b] 50)) : w.cell? ⟨g, 0, none⟩ = some a ∧ w.cell? ⟨g, 1, none⟩ = some b := ⟨by rw [cell_of_row w _ 0 _ _ _ h]; rfl, by rw [cell_of_row w _ 1 _ _ _ h]; rfl⟩
theorem lens {rs : List RowV} {L : Nat} (h : ∀ z ∈ nums rs, z.length ≤ L) (hl : ∀ (j : Nat) (r : RowV), rs[j]? = some r → r.2.1 = r.2.2.2.length) : ∀ r ∈ rs, r.2.1 ≤ L := by
  intro r hr
  obtain ⟨j, hj, he⟩ := List.mem_iff_getElem.1 hr
  rw [hl j r (by rw [List.getElem?_eq_getElem hj, he])]
  exact h _ (List.mem_map.2 ⟨r, hr, rfl⟩)
theorem outR_len (rows : List (List Int)) (m : Nat) : ∀ z ∈ outR rows m, z.length ≤ 3 := by
  intro z hz
  unfold outR at hz
  split at hz
  · obtain ⟨j, -, rfl⟩ := List.mem_map.1 hz
    exact Nat.le_refl _
  · cases hz
set_option maxHeartbeats 16000000 in
theorem wFnExactDfaTrim (A : Option Addr) (n c : Nat) (A2 : Option Addr) (m c2 : Nat) (rs : List RowV) (bs : List Bool) (w : World) (hw : DfaIn w A n A2 m rs bs) : Calls Try.prog 14 #[dfaV A n c A2 m c2] w fun r w' => r = .returned (.bool true) ∧ Below w.heap.size w w' := by
  obtain ⟨hn, hm, hr, hS⟩ := hw
  unfold maxLen at hn hm hr
  have hb0 : Below w.heap.size w (w.alloc (.cells #[.slice A n c, .slice A2 m c2] 47)) := (Below.refl _ _).alloc (Nat.le_refl _) _
  obtain ⟨W, hW⟩ : ∃ W, w.alloc (.cells #[.slice A n c, .slice A2 m c2] 47) = W := ⟨_, rfl⟩
  have b0 : W.heap[w.heap.size]? = some (.cells #[.slice A n c, .slice A2 m c2] 47) := by rw [← hW]; exact heap_alloc_new _ _
  have l0 : w.heap.size < W.heap.size := (Array.getElem?_eq_some_iff.1 b0).1
  rw [hW] at hb0
  have HS := hide (hS.up hb0)
  have HB0 := hide hb0
  have HW := Lib.hid hW
  have cells : Hid (∀ W', Below W.heap.size W W' → W'.cell? ⟨w.heap.size, 0, none⟩ = some (.slice A n c) ∧ W'.cell? ⟨w.heap.size, 1, none⟩ = some (.slice A2 m c2)) := fun W' hb => by
    have d := (hb.block _ l0).trans b0
    exact ⟨by rw [cell_of_row W' _ 0 _ _ _ d]; rfl, by rw [cell_of_row W' _ 1 _ _ _ d]; rfl⟩
  have hsz := szDfa_any W A n c A2 m c2 rs 1048576 (unhide HS).1 (by omega) (by omega) hr (by omega) (by omega)
  clear hS hb0 b0 hW
  go_enter Try.func14, Try.ntmps14
  go_wp2_with fail
  rw [HW.out]
  refine hsz.mono ?_
  rintro r w1 ⟨hb1, z, rfl, hz0, hz⟩
  by_cases hz1 : z < 0
  · go_wp2
    go_ret
    exact ⟨rfl, (unhide HB0).trans (hb1.mono (unhide HB0).size)⟩
  obtain ⟨n1, m1, hall⟩ := hz (by omega)
  have hnn : n ≤ 1048576 := by omega
  have hmm : m ≤ 1048576 := by omega
  have HR := Lib.hid (show ∀ r ∈ rs, r.2.1 ≤ 1048576 from fun r hr => by have := hall r hr; omega)
  clear hall hz
  obtain ⟨p0, p1⟩ := (unhide cells) w1 hb1
  have hz1' : ¬ z < 0 := hz1
  go_wp2_with fail
  refine (toDfa_any w1 A n c A2 m c2 rs bs ((unhide HS).up hb1) hnn hmm HR.out).mono ?_
  rintro r w2 ⟨rs2, g2, g2', rfl, hnm2, hmm2, hS2, hb2⟩
  have hbb2 := hb1.trans (hb2.mono hb1.size)
  go_wp2_with fail
  refine (specDfaTrim_any w2 _ n n _ m m rs2 bs hS2 hnn hmm hmm2).mono ?_
  rintro r w3 ⟨hb3, A0, n0, c0, A02, m0, c02, rs0, rfl, h040, hm0, hnum0, hr0, hS0⟩
  have hbb3 := hbb2.trans (hb3.mono hbb2.size)
  rw [hnm2] at hnum0 hS0
  subst hm0
  obtain ⟨RO, hRO⟩ : ∃ RO, outR (nums rs) m = RO := ⟨_, rfl⟩
  obtain ⟨EO, hEO⟩ : ∃ EO, outE (nums rs) m bs = EO := ⟨_, rfl⟩
  rw [hRO] at hnum0
  rw [hEO] at hS0
  have HRO := Lib.hid hRO
  have HEO := Lib.hid hEO
  have HN0 := Lib.hid hnum0
  have HS0 := hide hS0
  have HR0 := Lib.hid hr0
  clear hnm2 hmm2 hS2 p0 p1 hRO hEO hnum0 hS0 hr0
  -- w0 lies in a block
  have b4 := heap_alloc_new w3 (.cells #[.slice A0 m0 c0, .slice A02 m0 c02] 50)
  have h34 : Below w3.heap.size w3 (w3.alloc (.cells #[.slice A0 m0 c0, .slice A02 m0 c02] 50)) := (Below.refl _ _).alloc (Nat.le_refl _) _
  obtain ⟨W4, hW4⟩ : ∃ W4, w3.alloc (.cells #[.slice A0 m0 c0, .slice A02 m0 c02] 50) = W4 := ⟨_, rfl⟩
  rw [hW4] at b4 h34
  have l4 : w3.heap.size < W4.heap.size := blk_lt b4
  have hbb4 := hbb3.trans (h34.mono hbb3.size)
  have B4 := Lib.hid b4
  have H34 := Lib.hid h34
  have HW4 := Lib.hid hW4
  have HBB4 := Lib.hid hbb4
  have p4 : ((w3.alloc (.cells #[.slice A0 m0 c0, .slice A02 m0 c02] 50)).cell? ⟨w.heap.size, 0, none⟩ = some (.slice A n c)) ∧ ((w3.alloc (.cells #[.slice A0 m0 c0, .slice A02 m0 c02] 50)).cell? ⟨w.heap.size, 1, none⟩ = some (.slice A2 m c2)) := by rw [hW4]; exact (unhide cells) W4 hbb4
  obtain ⟨p40, p41⟩ := p4
  have hX := toDfa_own W4 A n c A2 m c2 rs bs ((unhide HS).up hbb4) hnn hmm HR.out
  clear b4 h34 hW4 hbb2 hbb3 hbb4
  go_wp2_with fail
  rw [HW4.out]
  refine hX.mono ?_
  rintro r w5 ⟨fx, rsx, gx, gx2, rfl, hnmx, hmmx, hOx, hb5⟩
  have hOx' := hOx.lim (lo := W4.heap.size) (hi := w5.heap.size) (Nat.le_refl _) (Nat.le_refl _)
  obtain ⟨Fx, hFx⟩ : ∃ Fx, lim fx W4.heap.size w5.heap.size = Fx := ⟨_, rfl⟩
  rw [hFx] at hOx'
  have HFX := Lib.hid hFx
  have HNX := Lib.hid hnmx
  have HMX := Lib.hid hmmx
  have HX5 := hide hOx'
  clear hX p40 p41 hOx hOx' hFx hnmx hmmx
  -- x0 lies in a block
  have b6 := heap_alloc_new w5 (.cells #[.slice (some ⟨gx, 0, none⟩) n n, .slice (some ⟨gx2, 0, none⟩) m m] 50)
  have h56 : Below w5.heap.size w5 (w5.alloc (.cells #[.slice (some ⟨gx, 0, none⟩) n n, .slice (some ⟨gx2, 0, none⟩) m m] 50)) := (Below.refl _ _).alloc (Nat.le_refl _) _
  obtain ⟨W6, hW6⟩ : ∃ W6, w5.alloc (.cells #[.slice (some ⟨gx, 0, none⟩) n n, .slice (some ⟨gx2, 0, none⟩) m m] 50) = W6 := ⟨_, rfl⟩
  rw [hW6] at b6 h56
  have l6 : w5.heap.size < W6.heap.size := blk_lt b6
  have h46 := hb5.trans (h56.mono hb5.size)
  have HX6 := hide ((unhide HX5).bel h56)
  have hG := implDfaTrim_any W6 (some ⟨gx, 0, none⟩) n n (some ⟨gx2, 0, none⟩) m m rsx bs (unhide HX6).dfa hnn hmm HMX.out
  rw [HNX.out] at hG
  have B6 := Lib.hid b6
  have H46 := Lib.hid h46
  have HW6 := Lib.hid hW6
  have z45 := hb5.size
  clear b6 h56 hW6 hb5 h46 HX5
  go_wp2_with fail
  rw [HW6.out]
  refine hG.mono ?_
  rintro r w7 ⟨hb7, fg, Ag, ng, cg, Ag2, cg2, rsg, rfl, hg40, hnumg, hOg⟩
  rw [HRO.out] at hnumg
  rw [HEO.out] at hOg
  have hlen : ng = m0 := by
    have q1 := hOg.1.1.1
    have q2 := (unhide HS0).1.len
    have q3 : (nums rsg).length = (nums rs0).length := by rw [hnumg, HN0.out]
    rw [nums_len, nums_len, q2] at q3
    rw [List.length_map] at q1
    omega
  subst hlen
  have hOg' := hOg.lim (lo := W6.heap.size) (hi := w7.heap.size) (Nat.le_refl _) (Nat.le_refl _)
  obtain ⟨Fg, hFg⟩ : ∃ Fg, lim fg W6.heap.size w7.heap.size = Fg := ⟨_, rfl⟩
  rw [hFg] at hOg'
  have hLg : ∀ r ∈ rsg, r.2.1 ≤ 3 := lens (by rw [hnumg, ← HRO.out]; exact outR_len _ _) (fun j r hj => (hOg'.2.1 j r hj).2)
  have HFG := Lib.hid hFg
  have HNG := Lib.hid hnumg
  have HLG := Lib.hid hLg
  have b8 := heap_alloc_new w7 (.cells #[.slice Ag ng cg, .slice Ag2 ng cg2] 50)
  have h78 : Below w7.heap.size w7 (w7.alloc (.cells #[.slice Ag ng cg, .slice Ag2 ng cg2] 50)) := (Below.refl _ _).alloc (Nat.le_refl _) _
  obtain ⟨W8, hW8⟩ : ∃ W8, w7.alloc (.cells #[.slice Ag ng cg, .slice Ag2 ng cg2] 50) = W8 := ⟨_, rfl⟩
  rw [hW8] at b8 h78
  have l8 : w7.heap.size < W8.heap.size := blk_lt b8
  have h68 : Below W6.heap.size W6 W8 := hb7.trans (h78.mono hb7.size)
  have h48 : Below W4.heap.size W4 W8 := H46.out.trans (h68.mono H46.out.size)
  have HG8 := hide (hOg'.bel h78)
  have HX8 := hide ((unhide HX6).bel h68)
  have HS8 := hide ((unhide HS0).up (H34.out.trans (h48.mono H34.out.size)))
  have d84 := (h48.block _ l4).trans B4.out
  obtain ⟨q40, q41⟩ := cells2 d84
  have hq := eqDfa_any W8 Ag A0 Ag2 A02 ng cg c0 ng cg2 c02 rsg rs0 EO (unhide HG8).dfa (unhide HS8) (by omega) (by omega) (fun r hr => by have := HLG.out r hr; omega) (fun r hr => by have := HR0.out r hr; omega) (hnumg.trans HN0.out.symm)
  have B8 := Lib.hid b8
  have H68 := Lib.hid h68
  have H48 := Lib.hid h48
  have HW8 := Lib.hid hW8
  have z67 := hb7.size
  have q4x : (w7.alloc (.cells #[.slice Ag ng cg, .slice Ag2 ng cg2] 50)).cell? ⟨w3.heap.size, 0, none⟩ = some (.slice A0 ng c0) ∧ (w7.alloc (.cells #[.slice Ag ng cg, .slice Ag2 ng cg2] 50)).cell? ⟨w3.heap.size, 1, none⟩ = some (.slice A02 ng c02) := by rw [hW8]; exact ⟨q40, q41⟩
  obtain ⟨q4a, q4b⟩ := q4x
  clear hOg hOg' hFg hnumg hLg b8 h78 hW8 hb7 h68 h48 d84 q40 q41 hG HX6
  go_wp2_with fail
  rw [HW8.out]
  refine hq.mono ?_
  rintro r w9 ⟨rfl, hb9⟩
  clear hq q4a q4b
  have h49 := H48.out.trans (hb9.mono H48.out.size)
  have h69 := H68.out.trans (hb9.mono H68.out.size)
  have hW9 : Below W.heap.size W w9 := HBB4.out.trans (h49.mono HBB4.out.size)
  have HG9 := hide ((unhide HG8).bel hb9)
  have HX9 := hide ((unhide HX8).bel hb9)
  have HS9 : Hid (DfaS w9.drew A n A2 m rs bs) := (unhide HS).up hW9.drew
  have HXD : Hid (DfaS w9.drew (some ⟨gx, 0, none⟩) n (some ⟨gx2, 0, none⟩) m rsx bs) := (unhide HX9).dfa
  have s0 : w9.drew.cell? ⟨w.heap.size, 0, none⟩ = some (.slice A n c) ∧ w9.drew.cell? ⟨w.heap.size, 1, none⟩ = some (.slice A2 m c2) := (unhide cells) w9.drew hW9.drew
  have d96 : w9.heap[w5.heap.size]? = some (.cells #[.slice (some ⟨gx, 0, none⟩) n n, .slice (some ⟨gx2, 0, none⟩) m m] 50) := (h69.block _ l6).trans B6.out
  have s1 : w9.drew.cell? ⟨w5.heap.size, 0, none⟩ = some (.slice (some ⟨gx, 0, none⟩) n n) ∧ w9.drew.cell? ⟨w5.heap.size, 1, none⟩ = some (.slice (some ⟨gx2, 0, none⟩) m m) := cells2 d96
  have S0 := Lib.hid s0
  have S1 := Lib.hid s1
  have k0 : w.heap.size < w9.heap.size := by have := hW9.size; omega
  have k6 : w5.heap.size < w9.heap.size := by have := h69.size; omega
  have H49 := Lib.hid h49
  have H69 := Lib.hid h69
  have HB9 := Lib.hid hb9
  have HW9 := Lib.hid hW9
  clear s0 s1 d96 h49 h69 hb9 hW9 HX8 HG8
  go_upto_region 10 with fail
  go_cut [31] from 22 to 31 (fun b wx => b = .bool false ∧ Below w9.heap.size w9 wx)
  case first =>
    go_region_held3 (fun w' => (w'.cell? ⟨w.heap.size, 0, none⟩ = some (.slice A n c) ∧ w'.cell? ⟨w.heap.size, 1, none⟩ = some (.slice A2 m c2)) ∧ w'.cell? ⟨w5.heap.size, 0, none⟩ = some (.slice (some ⟨gx, 0, none⟩) n n) ∧ w'.cell? ⟨w5.heap.size, 1, none⟩ = some (.slice (some ⟨gx2, 0, none⟩) m m))
      (first
        | (exact ⟨S0.out, S1.out⟩)
        | (exact ⟨⟨(hy7.cell (p := ⟨w.heap.size, 0, none⟩) k0).trans S0.out.1, (hy7.cell (p := ⟨w.heap.size, 1, none⟩) k0).trans S0.out.2⟩, (hy7.cell (p := ⟨w5.heap.size, 0, none⟩) k6).trans S1.out.1, (hy7.cell (p := ⟨w5.heap.size, 1, none⟩) k6).trans S1.out.2⟩)
        | (exact ⟨⟨(hy78.cell (p := ⟨w.heap.size, 0, none⟩) k0).trans S0.out.1, (hy78.cell (p := ⟨w.heap.size, 1, none⟩) k0).trans S0.out.2⟩, (hy78.cell (p := ⟨w5.heap.size, 0, none⟩) k6).trans S1.out.1, (hy78.cell (p := ⟨w5.heap.size, 1, none⟩) k6).trans S1.out.2⟩))
      (first
        | (go_at_call 37; (with_reducible refine (toDfa_any _ A n c A2 m c2 rs bs (unhide HS9) hnn hmm HR.out).mono ?_); rintro r y7 ⟨rs7, g7, g7', rfl, hnm7, hmm7, hS7, hy7⟩)
        | (go_at_call 39; (with_reducible refine (eqDfa_any _ _ _ _ _ n n n m m m rsx rs7 bs ((unhide HXD).up hy7) hS7 hnn hmm HMX.out hmm7 (HNX.out.trans hnm7.symm)).mono ?_); rintro r y8 ⟨rfl, hy8⟩; have hy78 := hy7.trans (hy8.mono hy7.size)))
    all_goals
      go_wp2_with fail
      go_meet
      exact ⟨rfl, ⟨hy78.os, hy78.tape, hy78.output, hy78.size, hy78.block⟩⟩
  case rest =>
    obtain ⟨rfl, h9c⟩ := hcut
    clear S0 S1 HS9 HXD
    have h4c := H49.out.trans (h9c.mono H49.out.size)
    have h6c := H69.out.trans (h9c.mono H69.out.size)
    have HXc := hide ((unhide HX9).bel h9c)
    have HGc := hide ((unhide HG9).bel h9c)
    have d6 : wc.heap[w5.heap.size]? = some (.cells #[.slice (some ⟨gx, 0, none⟩) n n, .slice (some ⟨gx2, 0, none⟩) m m] 50) := (h6c.block _ l6).trans B6.out
    obtain ⟨q50, q51⟩ := cells2 d6
    have hM := markDfa_any Fx wc W4.heap.size (some ⟨gx, 0, none⟩) n n rsx (some ⟨gx2, 0, none⟩) m m bs (unhide HXc) hnn hmm HMX.out
    have hz98 : W8.heap.size ≤ w9.heap.size := HB9.out.size
    have d8 : wc.heap[w7.heap.size]? = some (.cells #[.slice Ag ng cg, .slice Ag2 ng cg2] 50) := ((HB9.out.trans (h9c.mono hz98)).block _ l8).trans B8.out
    have hbd := off_bd HMX.out 1 n
    rw [List.take_of_length_le (by have := (unhide HXc).1.1.1; rw [List.length_map] at this; omega)] at hbd
    obtain ⟨K, hK⟩ : ∃ K, off 1 rsx + (m : Int) = K := ⟨_, rfl⟩
    have hK0 : 0 ≤ K := by omega
    have hK1 : ¬ K < 0 := by omega
    have HK := Lib.hid hK
    have D8 := Lib.hid d8
    have H4c := Lib.hid h4c
    have H6c := Lib.hid h6c
    clear d6 d8 h4c h6c hK HXc HX9 HG9 h9c
    go_wp2_with fail
    refine hM.mono ?_
    rintro r w12 ⟨rfl, -, hT⟩
    rw [HK.out]
    rw [← HFX.out] at hT
    have hkp := hT.kp (by omega)
    have z4c : W4.heap.size ≤ wc.heap.size := H4c.out.size
    have z6c : W6.heap.size ≤ wc.heap.size := H6c.out.size
    have h412 := H4c.out.trans (hkp.below z4c)
    have HG12 := hide ((unhide HGc).kp hkp (by omega))
    have d8 := (hkp.2.2.2.2 w7.heap.size (blk_lt D8.out) (.inr (by omega))).trans D8.out
    have d4 := (h412.block _ l4).trans B4.out
    obtain ⟨q40, q41⟩ := cells2 d4
    obtain ⟨q80, q81⟩ := cells2 d8
    have HS12 := hide ((unhide HS0).up (H34.out.trans (h412.mono H34.out.size)))
    have hq := eqDfa_any w12 Ag A0 Ag2 A02 ng cg c0 ng cg2 c02 rsg rs0 EO (unhide HG12).dfa (unhide HS12) (by omega) (by omega) (fun r hr => by have := HLG.out r hr; omega) (fun r hr => by have := HR0.out r hr; omega) (HNG.out.trans HN0.out.symm)
    have H412 := Lib.hid h412
    have D12 := Lib.hid d8
    have z12 : wc.heap.size ≤ w12.heap.size := hkp.2.2.2.1
    clear hT hkp d8 d4 hM q50 q51 h412 HGc
    go_wp2_with fail
    refine hq.mono ?_
    rintro r w13 ⟨rfl, hb13⟩
    have h413 := H412.out.trans (hb13.mono H412.out.size)
    have HG13 := hide ((unhide HG12).bel hb13)
    have d8 := (hb13.block _ (blk_lt D12.out)).trans D12.out
    obtain ⟨q80, q81⟩ := cells2 d8
    have hM := markDfa_any Fg w13 W6.heap.size Ag ng cg rsg Ag2 ng cg2 EO (unhide HG13) (by omega) (by omega) (fun r hr => by have := HLG.out r hr; omega)
    obtain ⟨M, hMM⟩ : ∃ M, off 1 rsg + (ng : Int) = M := ⟨_, rfl⟩
    have hbd2 := off_bd (fun r hr => (by have := HLG.out r hr; omega : r.2.1 ≤ 1048576)) 1 ng
    rw [List.take_of_length_le (by have := (unhide HG13).1.1.1; rw [List.length_map] at this; omega)] at hbd2
    have hM0 : ¬ M < 0 := by omega
    have hMne : (M != M) = false := by simp
    have HMM := Lib.hid hMM
    have D13 := Lib.hid d8
    have H413 := Lib.hid h413
    have z13 := hb13.size
    clear d8 hMM hq h413 HG12 hb13
    go_wp2_with fail
    refine hM.mono ?_
    rintro r w14 ⟨rfl, hH, hT⟩
    rw [HMM.out]
    rw [← HFG.out] at hT
    have hkp := hT.kp (by omega)
    have z613 : W6.heap.size ≤ w13.heap.size := by omega
    have z46 : W4.heap.size ≤ W6.heap.size := H46.out.size
    have h414 := H413.out.trans ((hkp.below z613).mono z46)
    have d8 := (hkp.2.2.2.2 w7.heap.size (blk_lt D13.out) (.inr (Nat.le_refl _))).trans D13.out
    obtain ⟨q80, q81⟩ := cells2 d8
    have HH14 := hide hH
    have hq := heldDfa_any w14 Ag ng cg rsg Ag2 ng cg2 hH (by omega) (by omega) (fun r hr => by have := HLG.out r hr; omega)
    rw [HMM.out] at hq
    have D14 := Lib.hid d8
    have H414 := Lib.hid h414
    clear hT hkp d8 hM h414 hH HG13
    go_wp2_with fail
    refine hq.mono ?_
    rintro r w15 ⟨rfl, hb15⟩
    have h415 := H414.out.trans (hb15.mono H414.out.size)
    have HH15 := hide ((unhide HH14).up hb15)
    have d8 := (hb15.block _ (blk_lt D14.out)).trans D14.out
    have hW15 : Below W.heap.size W w15 := HBB4.out.trans (h415.mono HBB4.out.size)
    obtain ⟨p0, p1⟩ := (unhide cells) w15 hW15
    have D15 := Lib.hid d8
    have H415 := Lib.hid h415
    have HW15 := Lib.hid hW15
    clear d8 h415 hW15 hq hb15
    go_wp2_with fail
    refine (toDfa_any w15 A n c A2 m c2 rs bs ((unhide HS).up HW15.out) hnn hmm HR.out).mono ?_
    rintro r w16 ⟨rs16, g16, g16', rfl, hnm16, hmm16, hS16, hb16⟩
    go_wp2_with fail
    refine (implDfaTrim_any w16 _ n n _ m m rs16 bs hS16 hnn hmm hmm16).mono ?_
    rintro r w17 ⟨hb17, fh, Ah, nh, ch, Ah2, ch2, rsh, rfl, hh40, hnumh, hOh⟩
    rw [hnm16, HRO.out] at hnumh
    rw [hnm16, HEO.out] at hOh
    have hlen : nh = ng := by
      have q1 := hOh.1.1.1
      have q2 := (unhide HS0).1.len
      have q3 : (nums rsh).length = (nums rs0).length := by rw [hnumh, HN0.out]
      rw [nums_len, nums_len, q2] at q3
      rw [List.length_map] at q1
      omega
    subst hlen
    have hLh : ∀ r ∈ rsh, r.2.1 ≤ 3 := lens (by rw [hnumh, ← HRO.out]; exact outR_len _ _) (fun j r hj => (hOh.2.1 j r hj).2)
    have hb1517 := hb16.trans (hb17.mono hb16.size)
    have b18 := heap_alloc_new w17 (.cells #[.slice Ah nh ch, .slice Ah2 nh ch2] 50)
    have h1718 : Below w17.heap.size w17 (w17.alloc (.cells #[.slice Ah nh ch, .slice Ah2 nh ch2] 50)) := (Below.refl _ _).alloc (Nat.le_refl _) _
    obtain ⟨W18, hW18⟩ : ∃ W18, w17.alloc (.cells #[.slice Ah nh ch, .slice Ah2 nh ch2] 50) = W18 := ⟨_, rfl⟩
    rw [hW18] at b18 h1718
    have h1518 := hb1517.trans (h1718.mono hb1517.size)
    have h418 := H415.out.trans (h1518.mono H415.out.size)
    have HO18 := hide (hOh.bel h1718)
    have d4 := (h418.block _ l4).trans B4.out
    obtain ⟨q40, q41⟩ := cells2 d4
    have HS18 := hide ((unhide HS0).up (H34.out.trans (h418.mono H34.out.size)))
    have hq := eqDfa_any W18 Ah A0 Ah2 A02 nh ch c0 nh ch2 c02 rsh rs0 EO (unhide HO18).dfa (unhide HS18) (by omega) (by omega) (fun r hr => by have := hLh r hr; omega) (fun r hr => by have := HR0.out r hr; omega) (hnumh.trans HN0.out.symm)
    have HW18 := Lib.hid hW18
    have H1518 := Lib.hid h1518
    have H418 := Lib.hid h418
    have q4x : (w17.alloc (.cells #[.slice Ah nh ch, .slice Ah2 nh ch2] 50)).cell? ⟨w3.heap.size, 0, none⟩ = some (.slice A0 nh c0) ∧ (w17.alloc (.cells #[.slice Ah nh ch, .slice Ah2 nh ch2] 50)).cell? ⟨w3.heap.size, 1, none⟩ = some (.slice A02 nh c02) := by rw [hW18]; exact ⟨q40, q41⟩
    obtain ⟨q4a, q4b⟩ := q4x
    clear hW18 h1518 h418 d4 q40 q41 b18 h1718 hOh hnumh hLh hnm16 hmm16 hS16 hb16 hb17 hb1517
    go_wp2_with fail
    rw [HW18.out]
    refine hq.mono ?_
    rintro r w19 ⟨rfl, hb19⟩
    have h1519 := H1518.out.trans (hb19.mono H1518.out.size)
    have h419 := H418.out.trans (hb19.mono H418.out.size)
    have d8 := (h1519.block _ (blk_lt D15.out)).trans D15.out
    obtain ⟨q80, q81⟩ := cells2 d8
    have hh := heldDfa_any w19 Ag nh cg rsg Ag2 nh cg2 ((unhide HH15).up h1519) (by omega) (by omega) (fun r hr => by have := HLG.out r hr; omega)
    rw [HMM.out] at hh
    have H419 := Lib.hid h419
    clear d8 hq q4a q4b h1519 h419 hb19
    go_wp2_with fail
    refine hh.mono ?_
    rintro r w20 ⟨rfl, hb20⟩
    have hfin : Below w.heap.size w w20 := (unhide HB0).trans ((HBB4.out.trans ((H419.out.trans (hb20.mono H419.out.size)).mono HBB4.out.size)).mono (unhide HB0).size)
    have HFIN := Lib.hid hfin
    clear hh hfin hb20
    go_wp2
    go_ret
    exact ⟨rfl, HFIN.out⟩
end Go.Proofs.Ytcphbncgkemdoaa
