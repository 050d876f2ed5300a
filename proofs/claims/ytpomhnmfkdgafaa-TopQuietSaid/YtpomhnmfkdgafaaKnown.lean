/- Closed facts of the whole program that each statement's frame asks, proved once. -/
import Derived.Test.YtpomhnmfkdgafaaRows
import Derived.Test.YtpomhnmfkdgafaaChecked
import Derived.ProofKit
import Derived.OpenShut
import Derived.ChangeOld
import Derived.Below
import Derived.Lib.SmallJoins
namespace Go.Proofs.Ytpomhnmfkdgafaa.known
open Go.ChangeShapes Go.WideShapes Go.ChangeAt Go.RowKit Go.Joins
set_option linter.unusedVariables false
theorem word_one : ∀ (w r : List Char), w.all (fun c => c != Char.ofNat 32) = true → wordsSigns (w ++ Char.ofNat 32 :: r) = w :: wordsSigns r
  | [], r, _ => by rw [List.nil_append, wordsSigns]
  | c :: w, r, h => by
    simp only [List.all_cons, Bool.and_eq_true, bne_iff_ne, ne_eq] at h
    rw [List.cons_append, wordsSigns]
    · rw [word_one w r h.2]
    · exact h.1
def chk (l : List Char) : Bool := l.take 77 == "harness".toList ++ Char.ofNat 32 :: ((l.drop 8).take 64 ++ Char.ofNat 32 :: ("cut".toList ++ [Char.ofNat 32])) && ((l.drop 8).take 64).all (fun c => c != Char.ofNat 32) && isSumSigns ((l.drop 8).take 64)
theorem words_of (l : List Char) (h : chk l = true) : behindMainWord (wordsSigns l) = "cut".toList :: wordsSigns (l.drop 77) := by
  simp only [chk, Bool.and_eq_true, beq_iff_eq] at h
  obtain ⟨⟨h, hs⟩, h2⟩ := h
  generalize (l.drop 8).take 64 = s at *
  have e : l = ("harness".toList ++ Char.ofNat 32 :: (s ++ Char.ofNat 32 :: ("cut".toList ++ [Char.ofNat 32]))) ++ l.drop 77 := by rw [← h, List.take_append_drop]
  generalize l.drop 77 = R at *
  rw [e]
  have : ("harness".toList ++ Char.ofNat 32 :: (s ++ Char.ofNat 32 :: ("cut".toList ++ [Char.ofNat 32]))) ++ R = "harness".toList ++ Char.ofNat 32 :: (s ++ Char.ofNat 32 :: ("cut".toList ++ Char.ofNat 32 :: R)) := by simp
  rw [this, word_one _ _ (by decide), word_one _ _ hs, word_one _ _ (by decide)]
  unfold behindMainWord
  exact if_pos (by rw [h2]; decide)
set_option maxRecDepth 100000 in
theorem head : ∃ L, Try.prog.initOrder = String.ofList L ∧ chk L = true := ⟨_, rfl, by kernel_rfl⟩
theorem behind : ∃ R, behindMainWord (wordsSigns Try.prog.initOrder.toList) = "cut".toList :: R := by
  obtain ⟨L, h1, h2⟩ := head
  exact ⟨_, by rw [h1, String.toList_ofList, words_of L h2]⟩
theorem strip (R : List (List Char)) : stripLifts liftWords ("cut".toList :: R) = ([], "cut".toList :: R) := by rfl
theorem may_of (P : Program) (R : List (List Char)) (hR : behindMainWord (wordsSigns P.initOrder.toList) = "cut".toList :: R) (h1 : P.laysLater = false) (h2 : P.bearsReflect = false) (h3 : P.doorFits [] = true) : P.mayEnter = true := by
  unfold Program.mayEnter
  rw [hR]
  simp only [strip, h1, h2, h3]
  rfl
theorem lift_of (P : Program) (R : List (List Char)) (hR : behindMainWord (wordsSigns P.initOrder.toList) = "cut".toList :: R) : P.liftsFinal = false := by
  unfold Program.liftsFinal Program.headLifts
  simp only [hR, strip]
  rfl
theorem make_of (P : Program) (R : List (List Char)) (hR : behindMainWord (wordsSigns P.initOrder.toList) = "cut".toList :: R) : P.make = some .cut := by
  unfold Program.make Program.headLifts
  simp only [hR, strip]
  rfl
theorem may : Try.prog.mayEnter = true := by
  obtain ⟨R, hR⟩ := behind
  exact may_of _ R hR (by kernel_rfl) (by kernel_rfl) (by kernel_rfl)
theorem lift : Try.prog.liftsFinal = false := by
  obtain ⟨R, hR⟩ := behind
  exact lift_of _ R hR
theorem make : Try.prog.make = some .cut := by
  obtain ⟨R, hR⟩ := behind
  exact make_of _ R hR
theorem and_tt {a b : Bool} (ha : a = true) (hb : b = true) : (a && b) = true := by rw [ha, hb]; rfl
theorem joined_of {P : Program} (hmay : P.mayEnter = true) (hlift : P.liftsFinal = false) (hmake : P.make = some .cut) {f : FuncId} {fn : Func} {s : ChangeSpec} {c : OpenClaim} (h1 : c.wf (OpenSpec.ofChange s) = true) (h2 : laidOutB P = true) (h3 : mapsRowed P = true)
    (h4 : fn.params.all (P.readableRec ·) = true) (h5 : namedTie P c.named s.vars = true)
    (h6 : (c.stops == []) = true) (h7 : (P.stops == []) = true) (h8 : (c.knobs == []) = true) (h9 : (P.stopKnobs == []) = true)
    (h10 : (c.inPlace == P.inPlace f) = true) (h11 : (c.unfollowed == P.unfollowed f) = true) (h12 : (c.recurses == P.recurses f) = true) (h13 : (c.named == P.varsNamed f) = true)
    (h14 : (c.maps == (fn.params.toList ++ s.plain.varTypes P).any (P.mapsRec ·)) = true) (h15 : (c.ifaces == (fn.params.toList ++ s.plain.varTypes P).any (P.ifacesRec ·)) = true) (h16 : (c.mapsOut == P.mapsAmong fn.resultTypes.toList) = true)
    (h17 : (c.loops == (fn.params.toList ++ s.plain.varTypes P).any (P.loopsFrom ·)) = true) (h18 : (c.wideKeys == (fn.params.toList ++ s.plain.varTypes P ++ fn.resultTypes.toList).any (P.wideKeysFrom ·)) = true)
    (h19 : s.vars.all (P.varReadable ·) = true) (h20 : fn.resultTypes.all (fun t => P.readableRec t && decide (t < P.types.size)) = true) (h21 : (c.ifacesOut == fn.resultTypes.toList.any (P.ifacesRec ·)) = true) (h22 : (c.loopsOut == fn.resultTypes.toList.any (P.loopsFrom ·)) = true)
    (h23 : (c.plainKeys == P.plainKeys) = true) (h24 : c.shortTexts.isNone = true) (h25 : P.stopsHeard = true) (h27 : c.lifted = false) (h28 : c.make = .cut)
    (h29 : (c.kinds == (if c.domain.isEmpty then [] else fn.params.toList.map fun t => match P.underlying t with | some (.int k) => some k | _ => none)) = true) (h30 : (c.pinned == c.pinnedBy) = true) (h31 : (c.veiled == (fn.params.toList ++ s.plain.varTypes P ++ fn.resultTypes.toList).any (P.veiledRec ·)) = true) (h32 : c.veiledFits P fn.params.toList (fn.params.toList ++ s.plain.varTypes P ++ fn.resultTypes.toList) = true) :
    joinedFacts P f fn s c = true := by
  unfold joinedFacts
  rw [h1, h2, h3, h4, h5, h6, h7, h8, h9, h10, h11, h12, h13, h14, h15, h16, h17, h18, h19, h20, h21, h22, h23, h24, h25, hmay, hlift, h27, hmake, h28]
  have e1 : (false == false) = true := rfl
  have e2 : (some Make.cut == some Make.cut) = true := by decide
  rw [e1, e2]
  simp only [Bool.true_and]
  exact and_tt (and_tt (and_tt h29 h30) h31) h32
end Go.Proofs.Ytpomhnmfkdgafaa.known
