/-
  Closed facts on the whole program, which every row of this seat asks. No condition.
-/
import Derived.Test.YtcphbncgkemdoaaRows
import Derived.ProofKit
import Derived.JoinedOf
namespace Go.Proofs.Ytcphbncgkemdoaa
open Go.RowKit Go.ChangeShapes Go.WideShapes Go.ChangeAt
set_option maxRecDepth 100000

namespace Facts
theorem band {a b : Bool} (ha : a = true) (hb : b = true) : (a && b) = true := by rw [ha, hb]; rfl
/-- The closed facts of a row, one by one, over variables. -/
theorem closed_of {P : Program} {f : FuncId} {fn : Func} {s : ChangeSpec} {c : OpenClaim}
    (k1 : c.wf (OpenSpec.ofChange s) = true)
    (k2 : laidOutB P = true)
    (k3 : mapsRowed P = true)
    (k4 : fn.params.all (P.readableRec ·) = true)
    (k5 : namedTie P c.named s.vars = true)
    (k6 : (c.stops == []) = true)
    (k7 : (P.stops == []) = true)
    (k8 : (c.knobs == []) = true)
    (k9 : (P.stopKnobs == []) = true)
    (k10 : (c.inPlace == P.inPlace f) = true)
    (k11 : (c.unfollowed == P.unfollowed f) = true)
    (k12 : (c.recurses == P.recurses f) = true)
    (k13 : (c.named == P.varsNamed f) = true)
    (k14 : (c.maps == (fn.params.toList ++ s.plain.varTypes P).any (P.mapsRec ·)) = true)
    (k15 : (c.ifaces == (fn.params.toList ++ s.plain.varTypes P).any (P.ifacesRec ·)) = true)
    (k16 : (c.mapsOut == P.mapsAmong fn.resultTypes.toList) = true)
    (k17 : (c.loops == (fn.params.toList ++ s.plain.varTypes P).any (P.loopsFrom ·)) = true)
    (k18 : (c.wideKeys == (fn.params.toList ++ s.plain.varTypes P ++ fn.resultTypes.toList).any (P.wideKeysFrom ·)) = true)
    (k19 : s.vars.all (P.varReadable ·) = true)
    (k20 : fn.resultTypes.all (fun t => P.readableRec t && decide (t < P.types.size)) = true)
    (k21 : (c.ifacesOut == fn.resultTypes.toList.any (P.ifacesRec ·)) = true)
    (k22 : (c.loopsOut == fn.resultTypes.toList.any (P.loopsFrom ·)) = true)
    (k23 : (c.plainKeys == P.plainKeys) = true)
    (k24 : c.shortTexts.isNone = true)
    (k25 : P.stopsHeard = true)
    (k26 : P.mayEnter = true)
    (k27 : (c.lifted == P.liftsFinal) = true)
    (k28 : (P.make == some c.make) = true)
    (k29 : (c.kinds == (if c.domain.isEmpty then [] else fn.params.toList.map fun t => match P.underlying t with | some (.int k) => some k | _ => none)) = true)
    (k30 : (c.pinned == c.pinnedBy) = true)
    (k31 : (c.veiled == (fn.params.toList ++ s.plain.varTypes P ++ fn.resultTypes.toList).any (P.veiledRec ·)) = true)
    (k32 : c.veiledFits P fn.params.toList (fn.params.toList ++ s.plain.varTypes P ++ fn.resultTypes.toList) = true) : joinedFacts P f fn s c = true := by
  unfold joinedFacts
  exact (band (band (band (band (band (band (band (band (band (band (band (band (band (band (band (band (band (band (band (band (band (band (band (band (band (band (band (band (band (band (band k1 k2) k3) k4) k5) k6) k7) k8) k9) k10) k11) k12) k13) k14) k15) k16) k17) k18) k19) k20) k21) k22) k23) k24) k25) k26) k27) k28) k29) k30) k31) k32)
/-- The words of the program's head, sign by sign. -/
def signs : List Char := [Char.ofNat 104, Char.ofNat 97, Char.ofNat 114, Char.ofNat 110, Char.ofNat 101, Char.ofNat 115, Char.ofNat 115, Char.ofNat 32, Char.ofNat 54, Char.ofNat 48, Char.ofNat 52, Char.ofNat 97, Char.ofNat 50, Char.ofNat 49, Char.ofNat 101, Char.ofNat 98, Char.ofNat 101, Char.ofNat 54, Char.ofNat 50, Char.ofNat 57, Char.ofNat 100, Char.ofNat 48, Char.ofNat 55, Char.ofNat 53, Char.ofNat 51, Char.ofNat 102, Char.ofNat 53, Char.ofNat 102, Char.ofNat 100, Char.ofNat 51, Char.ofNat 54, Char.ofNat 50, Char.ofNat 97, Char.ofNat 99, Char.ofNat 49, Char.ofNat 97, Char.ofNat 55, Char.ofNat 99, Char.ofNat 49, Char.ofNat 55, Char.ofNat 98, Char.ofNat 57, Char.ofNat 100, Char.ofNat 48, Char.ofNat 57, Char.ofNat 53, Char.ofNat 98, Char.ofNat 54, Char.ofNat 51, Char.ofNat 56, Char.ofNat 51, Char.ofNat 51, Char.ofNat 52, Char.ofNat 57, Char.ofNat 56, Char.ofNat 48, Char.ofNat 52, Char.ofNat 49, Char.ofNat 55, Char.ofNat 97, Char.ofNat 50, Char.ofNat 54, Char.ofNat 48, Char.ofNat 48, Char.ofNat 51, Char.ofNat 101, Char.ofNat 54, Char.ofNat 52, Char.ofNat 48, Char.ofNat 50, Char.ofNat 102, Char.ofNat 97, Char.ofNat 32, Char.ofNat 99, Char.ofNat 117, Char.ofNat 116, Char.ofNat 32, Char.ofNat 97, Char.ofNat 116, Char.ofNat 32, Char.ofNat 108, Char.ofNat 111, Char.ofNat 111, Char.ofNat 112, Char.ofNat 46, Char.ofNat 101, Char.ofNat 120, Char.ofNat 97, Char.ofNat 109, Char.ofNat 112, Char.ofNat 108, Char.ofNat 101, Char.ofNat 47, Char.ofNat 114, Char.ofNat 101, Char.ofNat 103, Char.ofNat 117, Char.ofNat 108, Char.ofNat 97, Char.ofNat 114, Char.ofNat 108, Char.ofNat 97, Char.ofNat 110, Char.ofNat 103, Char.ofNat 117, Char.ofNat 97, Char.ofNat 103, Char.ofNat 101, Char.ofNat 115, Char.ofNat 47, Char.ofNat 108, Char.ofNat 97, Char.ofNat 119, Char.ofNat 115, Char.ofNat 46, Char.ofNat 70, Char.ofNat 110, Char.ofNat 69, Char.ofNat 120, Char.ofNat 97, Char.ofNat 99, Char.ofNat 116, Char.ofNat 67, Char.ofNat 111, Char.ofNat 110, Char.ofNat 115, Char.ofNat 116, Char.ofNat 97, Char.ofNat 110, Char.ofNat 116, Char.ofNat 115, Char.ofNat 32, Char.ofNat 108, Char.ofNat 111, Char.ofNat 111, Char.ofNat 112, Char.ofNat 46, Char.ofNat 101, Char.ofNat 120, Char.ofNat 97, Char.ofNat 109, Char.ofNat 112, Char.ofNat 108, Char.ofNat 101, Char.ofNat 47, Char.ofNat 114, Char.ofNat 101, Char.ofNat 103, Char.ofNat 117, Char.ofNat 108, Char.ofNat 97, Char.ofNat 114, Char.ofNat 108, Char.ofNat 97, Char.ofNat 110, Char.ofNat 103, Char.ofNat 117, Char.ofNat 97, Char.ofNat 103, Char.ofNat 101, Char.ofNat 115, Char.ofNat 47, Char.ofNat 108, Char.ofNat 97, Char.ofNat 119, Char.ofNat 115, Char.ofNat 46, Char.ofNat 70, Char.ofNat 110, Char.ofNat 69, Char.ofNat 120, Char.ofNat 97, Char.ofNat 99, Char.ofNat 116, Char.ofNat 80, Char.ofNat 97, Char.ofNat 114, Char.ofNat 116, Char.ofNat 86, Char.ofNat 97, Char.ofNat 108, Char.ofNat 105, Char.ofNat 100, Char.ofNat 32, Char.ofNat 108, Char.ofNat 111, Char.ofNat 111, Char.ofNat 112, Char.ofNat 46, Char.ofNat 101, Char.ofNat 120, Char.ofNat 97, Char.ofNat 109, Char.ofNat 112, Char.ofNat 108, Char.ofNat 101, Char.ofNat 47, Char.ofNat 114, Char.ofNat 101, Char.ofNat 103, Char.ofNat 117, Char.ofNat 108, Char.ofNat 97, Char.ofNat 114, Char.ofNat 108, Char.ofNat 97, Char.ofNat 110, Char.ofNat 103, Char.ofNat 117, Char.ofNat 97, Char.ofNat 103, Char.ofNat 101, Char.ofNat 115, Char.ofNat 47, Char.ofNat 108, Char.ofNat 97, Char.ofNat 119, Char.ofNat 115, Char.ofNat 46, Char.ofNat 70, Char.ofNat 110, Char.ofNat 69, Char.ofNat 120, Char.ofNat 97, Char.ofNat 99, Char.ofNat 116, Char.ofNat 87, Char.ofNat 111, Char.ofNat 114, Char.ofNat 100, Char.ofNat 86, Char.ofNat 97, Char.ofNat 108, Char.ofNat 105, Char.ofNat 100, Char.ofNat 32, Char.ofNat 108, Char.ofNat 111, Char.ofNat 111, Char.ofNat 112, Char.ofNat 46, Char.ofNat 101, Char.ofNat 120, Char.ofNat 97, Char.ofNat 109, Char.ofNat 112, Char.ofNat 108, Char.ofNat 101, Char.ofNat 47, Char.ofNat 114, Char.ofNat 101, Char.ofNat 103, Char.ofNat 117, Char.ofNat 108, Char.ofNat 97, Char.ofNat 114, Char.ofNat 108, Char.ofNat 97, Char.ofNat 110, Char.ofNat 103, Char.ofNat 117, Char.ofNat 97, Char.ofNat 103, Char.ofNat 101, Char.ofNat 115, Char.ofNat 47, Char.ofNat 108, Char.ofNat 97, Char.ofNat 119, Char.ofNat 115, Char.ofNat 46, Char.ofNat 70, Char.ofNat 110, Char.ofNat 69, Char.ofNat 120, Char.ofNat 97, Char.ofNat 99, Char.ofNat 116, Char.ofNat 87, Char.ofNat 111, Char.ofNat 114, Char.ofNat 100, Char.ofNat 115, Char.ofNat 79, Char.ofNat 102, Char.ofNat 32, Char.ofNat 108, Char.ofNat 111, Char.ofNat 111, Char.ofNat 112, Char.ofNat 46, Char.ofNat 101, Char.ofNat 120, Char.ofNat 97, Char.ofNat 109, Char.ofNat 112, Char.ofNat 108, Char.ofNat 101, Char.ofNat 47, Char.ofNat 114, Char.ofNat 101, Char.ofNat 103, Char.ofNat 117, Char.ofNat 108, Char.ofNat 97, Char.ofNat 114, Char.ofNat 108, Char.ofNat 97, Char.ofNat 110, Char.ofNat 103, Char.ofNat 117, Char.ofNat 97, Char.ofNat 103, Char.ofNat 101, Char.ofNat 115, Char.ofNat 47, Char.ofNat 108, Char.ofNat 97, Char.ofNat 119, Char.ofNat 115, Char.ofNat 46, Char.ofNat 70, Char.ofNat 110, Char.ofNat 69, Char.ofNat 120, Char.ofNat 97, Char.ofNat 99, Char.ofNat 116, Char.ofNat 84, Char.ofNat 117, Char.ofNat 114, Char.ofNat 110, Char.ofNat 87, Char.ofNat 111, Char.ofNat 114, Char.ofNat 100, Char.ofNat 32, Char.ofNat 108, Char.ofNat 111, Char.ofNat 111, Char.ofNat 112, Char.ofNat 46, Char.ofNat 101, Char.ofNat 120, Char.ofNat 97, Char.ofNat 109, Char.ofNat 112, Char.ofNat 108, Char.ofNat 101, Char.ofNat 47, Char.ofNat 114, Char.ofNat 101, Char.ofNat 103, Char.ofNat 117, Char.ofNat 108, Char.ofNat 97, Char.ofNat 114, Char.ofNat 108, Char.ofNat 97, Char.ofNat 110, Char.ofNat 103, Char.ofNat 117, Char.ofNat 97, Char.ofNat 103, Char.ofNat 101, Char.ofNat 115, Char.ofNat 47, Char.ofNat 108, Char.ofNat 97, Char.ofNat 119, Char.ofNat 115, Char.ofNat 46, Char.ofNat 70, Char.ofNat 110, Char.ofNat 69, Char.ofNat 120, Char.ofNat 97, Char.ofNat 99, Char.ofNat 116, Char.ofNat 80, Char.ofNat 97, Char.ofNat 114, Char.ofNat 116, Char.ofNat 78, Char.ofNat 101, Char.ofNat 101, Char.ofNat 100, Char.ofNat 115, Char.ofNat 32, Char.ofNat 108, Char.ofNat 111, Char.ofNat 111, Char.ofNat 112, Char.ofNat 46, Char.ofNat 101, Char.ofNat 120, Char.ofNat 97, Char.ofNat 109, Char.ofNat 112, Char.ofNat 108, Char.ofNat 101, Char.ofNat 47, Char.ofNat 114, Char.ofNat 101, Char.ofNat 103, Char.ofNat 117, Char.ofNat 108, Char.ofNat 97, Char.ofNat 114, Char.ofNat 108, Char.ofNat 97, Char.ofNat 110, Char.ofNat 103, Char.ofNat 117, Char.ofNat 97, Char.ofNat 103, Char.ofNat 101, Char.ofNat 115, Char.ofNat 47, Char.ofNat 108, Char.ofNat 97, Char.ofNat 119, Char.ofNat 115, Char.ofNat 46, Char.ofNat 70, Char.ofNat 110, Char.ofNat 69, Char.ofNat 120, Char.ofNat 97, Char.ofNat 99, Char.ofNat 116, Char.ofNat 87, Char.ofNat 111, Char.ofNat 114, Char.ofNat 100, Char.ofNat 65, Char.ofNat 116, Char.ofNat 32, Char.ofNat 108, Char.ofNat 111, Char.ofNat 111, Char.ofNat 112, Char.ofNat 46, Char.ofNat 101, Char.ofNat 120, Char.ofNat 97, Char.ofNat 109, Char.ofNat 112, Char.ofNat 108, Char.ofNat 101, Char.ofNat 47, Char.ofNat 114, Char.ofNat 101, Char.ofNat 103, Char.ofNat 117, Char.ofNat 108, Char.ofNat 97, Char.ofNat 114, Char.ofNat 108, Char.ofNat 97, Char.ofNat 110, Char.ofNat 103, Char.ofNat 117, Char.ofNat 97, Char.ofNat 103, Char.ofNat 101, Char.ofNat 115, Char.ofNat 47, Char.ofNat 108, Char.ofNat 97, Char.ofNat 119, Char.ofNat 115, Char.ofNat 46, Char.ofNat 70, Char.ofNat 110, Char.ofNat 69, Char.ofNat 120, Char.ofNat 97, Char.ofNat 99, Char.ofNat 116, Char.ofNat 87, Char.ofNat 111, Char.ofNat 114, Char.ofNat 100, Char.ofNat 82, Char.ofNat 97, Char.ofNat 110, Char.ofNat 107, Char.ofNat 32, Char.ofNat 108, Char.ofNat 111, Char.ofNat 111, Char.ofNat 112, Char.ofNat 46, Char.ofNat 101, Char.ofNat 120, Char.ofNat 97, Char.ofNat 109, Char.ofNat 112, Char.ofNat 108, Char.ofNat 101, Char.ofNat 47, Char.ofNat 114, Char.ofNat 101, Char.ofNat 103, Char.ofNat 117, Char.ofNat 108, Char.ofNat 97, Char.ofNat 114, Char.ofNat 108, Char.ofNat 97, Char.ofNat 110, Char.ofNat 103, Char.ofNat 117, Char.ofNat 97, Char.ofNat 103, Char.ofNat 101, Char.ofNat 115, Char.ofNat 47, Char.ofNat 108, Char.ofNat 97, Char.ofNat 119, Char.ofNat 115, Char.ofNat 46, Char.ofNat 70, Char.ofNat 110, Char.ofNat 69, Char.ofNat 120, Char.ofNat 97, Char.ofNat 99, Char.ofNat 116, Char.ofNat 69, Char.ofNat 120, Char.ofNat 112, Char.ofNat 114, Char.ofNat 86, Char.ofNat 97, Char.ofNat 108, Char.ofNat 105, Char.ofNat 100, Char.ofNat 32, Char.ofNat 108, Char.ofNat 111, Char.ofNat 111, Char.ofNat 112, Char.ofNat 46, Char.ofNat 101, Char.ofNat 120, Char.ofNat 97, Char.ofNat 109, Char.ofNat 112, Char.ofNat 108, Char.ofNat 101, Char.ofNat 47, Char.ofNat 114, Char.ofNat 101, Char.ofNat 103, Char.ofNat 117, Char.ofNat 108, Char.ofNat 97, Char.ofNat 114, Char.ofNat 108, Char.ofNat 97, Char.ofNat 110, Char.ofNat 103, Char.ofNat 117, Char.ofNat 97, Char.ofNat 103, Char.ofNat 101, Char.ofNat 115, Char.ofNat 47, Char.ofNat 108, Char.ofNat 97, Char.ofNat 119, Char.ofNat 115, Char.ofNat 46, Char.ofNat 70, Char.ofNat 110, Char.ofNat 69, Char.ofNat 120, Char.ofNat 97, Char.ofNat 99, Char.ofNat 116, Char.ofNat 68, Char.ofNat 102, Char.ofNat 97, Char.ofNat 86, Char.ofNat 97, Char.ofNat 108, Char.ofNat 105, Char.ofNat 100, Char.ofNat 32, Char.ofNat 108, Char.ofNat 111, Char.ofNat 111, Char.ofNat 112, Char.ofNat 46, Char.ofNat 101, Char.ofNat 120, Char.ofNat 97, Char.ofNat 109, Char.ofNat 112, Char.ofNat 108, Char.ofNat 101, Char.ofNat 47, Char.ofNat 114, Char.ofNat 101, Char.ofNat 103, Char.ofNat 117, Char.ofNat 108, Char.ofNat 97, Char.ofNat 114, Char.ofNat 108, Char.ofNat 97, Char.ofNat 110, Char.ofNat 103, Char.ofNat 117, Char.ofNat 97, Char.ofNat 103, Char.ofNat 101, Char.ofNat 115, Char.ofNat 47, Char.ofNat 108, Char.ofNat 97, Char.ofNat 119, Char.ofNat 115, Char.ofNat 46, Char.ofNat 70, Char.ofNat 110, Char.ofNat 69, Char.ofNat 120, Char.ofNat 97, Char.ofNat 99, Char.ofNat 116, Char.ofNat 78, Char.ofNat 102, Char.ofNat 97, Char.ofNat 86, Char.ofNat 97, Char.ofNat 108, Char.ofNat 105, Char.ofNat 100, Char.ofNat 32, Char.ofNat 108, Char.ofNat 111, Char.ofNat 111, Char.ofNat 112, Char.ofNat 46, Char.ofNat 101, Char.ofNat 120, Char.ofNat 97, Char.ofNat 109, Char.ofNat 112, Char.ofNat 108, Char.ofNat 101, Char.ofNat 47, Char.ofNat 114, Char.ofNat 101, Char.ofNat 103, Char.ofNat 117, Char.ofNat 108, Char.ofNat 97, Char.ofNat 114, Char.ofNat 108, Char.ofNat 97, Char.ofNat 110, Char.ofNat 103, Char.ofNat 117, Char.ofNat 97, Char.ofNat 103, Char.ofNat 101, Char.ofNat 115, Char.ofNat 47, Char.ofNat 108, Char.ofNat 97, Char.ofNat 119, Char.ofNat 115, Char.ofNat 46, Char.ofNat 70, Char.ofNat 110, Char.ofNat 69, Char.ofNat 120, Char.ofNat 97, Char.ofNat 99, Char.ofNat 116, Char.ofNat 68, Char.ofNat 102, Char.ofNat 97, Char.ofNat 84, Char.ofNat 114, Char.ofNat 105, Char.ofNat 109]
theorem order : Try.prog.initOrder = String.ofList signs := by kernel_rfl
theorem orderL : Try.prog.initOrder.toList = signs := by rw [order, String.toList_ofList]
theorem cutHead : behindMainWord (wordsSigns signs) = "cut".toList :: (behindMainWord (wordsSigns signs)).tail := by kernel_rfl
theorem cutStrip : stripLifts liftWords (behindMainWord (wordsSigns signs)) = ([], behindMainWord (wordsSigns signs)) := by kernel_rfl
/-! The same of any program whose head reads so: stated over a variable, so that nothing is run here. -/
theorem headLifts_of {P : Program} {l : List Char} (h : P.initOrder.toList = l) {x : List String × List (List Char)} (hs : stripLifts liftWords (behindMainWord (wordsSigns l)) = x) (hx : x.1 = []) : P.headLifts = [] := by
  unfold Program.headLifts
  rw [h, hs]
  simp [hx]
theorem lifts_of {P : Program} {l : List Char} (h : P.initOrder.toList = l) {c : List Char} {r : List (List Char)} (hb : behindMainWord (wordsSigns l) = c :: r) (hc : (c == "carried".toList) = false) (hl : P.headLifts = []) : P.liftsFinal = false := by
  unfold Program.liftsFinal
  rw [h, hb, hl]
  simp at hc
  simp [hc]
theorem make_of {P : Program} {l : List Char} (h : P.initOrder.toList = l) {c : List Char} {r : List (List Char)} (hb : behindMainWord (wordsSigns l) = c :: r) (h1 : (c == "gc".toList || c == "spec".toList) = false) (h2 : (c == "cut".toList) = true) : P.make = some .cut := by
  unfold Program.make
  rw [h, hb]
  simp only [h1, h2, Bool.true_or, if_true]
  simp
theorem enter_of {P : Program} {l : List Char} (h : P.initOrder.toList = l) {c : List Char} {r : List (List Char)} (hb : behindMainWord (wordsSigns l) = c :: r) (hs : stripLifts liftWords (behindMainWord (wordsSigns l)) = ([], behindMainWord (wordsSigns l)))
    (h2 : (c == "cut".toList) = true) (h3 : P.laysLater = false) (h4 : P.bearsReflect = false) (h5 : P.doorFits [] = true) : P.mayEnter = true := by
  unfold Program.mayEnter
  rw [h]
  rw [hb] at hs ⊢
  simp only [hs, h3, h4, h5]
  simp at h2
  simp [h2]
theorem lifts : Try.prog.liftsFinal = false := lifts_of orderL cutHead (by kernel_rfl) (headLifts_of orderL cutStrip rfl)
theorem make : Try.prog.make = some .cut := make_of orderL cutHead (by kernel_rfl) (by kernel_rfl)
theorem enter : Try.prog.mayEnter = true := enter_of orderL cutHead cutStrip (by kernel_rfl) (by kernel_rfl) (by kernel_rfl) (by kernel_rfl)
theorem laid : laidOutB Try.prog = true := by kernel_rfl
theorem rowed : mapsRowed Try.prog = true := by kernel_rfl
theorem stops : Try.prog.stops = [] := by kernel_rfl
theorem knobs : Try.prog.stopKnobs = [] := by kernel_rfl
theorem keys : Try.prog.plainKeys = true := by kernel_rfl
theorem heard : Try.prog.stopsHeard = true := by kernel_rfl
theorem own : ownKnob Try.prog.godebug = none := by kernel_rfl
end Facts
end Go.Proofs.Ytcphbncgkemdoaa
