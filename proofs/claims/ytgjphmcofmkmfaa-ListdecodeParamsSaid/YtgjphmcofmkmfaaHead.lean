/- The closed facts on the program's head that every row of this seat asks: it may enter, how it was made, no lift is final. -/
import Derived.Test.YtgjphmcofmkmfaaRows
import Derived.ProofKit
namespace Go.Proofs.Ytgjphmcofmkmfaa.Head
def rest_ : String := "at codewright/codewrightlaw41.ListdecodeParams codewright/codewrightlaw41.ListdecodeLimit codewright/codewrightlaw40.BivariateAdds codewright/codewrightlaw40.BivariateDegrees codewright/codewrightlaw40.BivariateMultiplicities codewright/codewrightlaw40.BivariateRoots codewright/codewrightlaw40.BivariateAllRoots codewright/codewrightlaw40.BivariateFactors codewright/codewrightlaw40.BivariateValues codewright/codewrightlaw40.BivariateSubstitutes codewright/codewrightlaw40.BivariateHasse codewright/codewrightlaw40.BivariateTaylor codewright/codewrightlaw41.ListdecodeInterpolates codewright/codewrightlaw40.BivariateInterpolates codewright/codewrightlaw40.BivariateLeast codewright/codewrightlaw40.BivariateCounts"
theorem io_ : Try.pinned.checked.prog.initOrder = "harness 98fb069fef7de9d7e242ada11c1d17a4a9f27ce9fddb54f230d3315c0ca8d914 cut " ++ rest_ := by kernel_rfl
theorem ws_ (t : List Char) : behindMainWord (wordsSigns ("harness 98fb069fef7de9d7e242ada11c1d17a4a9f27ce9fddb54f230d3315c0ca8d914 cut ".toList ++ t)) = "cut".toList :: wordsSigns t := by kernel_rfl
theorem bw_ : behindMainWord (wordsSigns Try.pinned.checked.prog.initOrder.toList) = "cut".toList :: wordsSigns rest_.toList := by
  rw [io_, String.toList_append, ws_]
theorem lays_ : Try.pinned.checked.prog.laysLater = false := by kernel_rfl
theorem refl_ : Try.pinned.checked.prog.bearsReflect = false := by kernel_rfl
theorem door_ : Try.pinned.checked.prog.doorFits [] = true := by kernel_rfl
theorem strip_ (t : List (List Char)) : stripLifts liftWords ("cut".toList :: t) = ([], "cut".toList :: t) := by kernel_rfl
theorem enter_of {P : Program} {t : List (List Char)} (h : behindMainWord (wordsSigns P.initOrder.toList) = "cut".toList :: t) (h1 : P.laysLater = false) (h2 : P.bearsReflect = false) (h3 : P.doorFits [] = true) : P.mayEnter = true := by
  unfold Program.mayEnter
  rw [h]
  simp only [strip_, h1, h2, h3]
  kernel_rfl
theorem enter_ : Try.pinned.checked.prog.mayEnter = true := enter_of bw_ lays_ refl_ door_
theorem lifts_of {P : Program} {t : List (List Char)} (h : behindMainWord (wordsSigns P.initOrder.toList) = "cut".toList :: t) : P.headLifts = [] := by
  unfold Program.headLifts
  rw [h]
  simp only [strip_]
  kernel_rfl
theorem final_of {P : Program} {t : List (List Char)} (h : behindMainWord (wordsSigns P.initOrder.toList) = "cut".toList :: t) : P.liftsFinal = false := by
  unfold Program.liftsFinal
  rw [h, lifts_of h]
  kernel_rfl
theorem final_ : Try.pinned.checked.prog.liftsFinal = false := final_of bw_
theorem make_of {P : Program} {t : List (List Char)} (h : behindMainWord (wordsSigns P.initOrder.toList) = "cut".toList :: t) : P.make = some .cut := by
  unfold Program.make
  rw [h]
  kernel_rfl
theorem make_ : Try.pinned.checked.prog.make = some .cut := make_of bw_
end Go.Proofs.Ytgjphmcofmkmfaa.Head
