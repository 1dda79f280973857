/- Closed facts of this seat's program, each laid once; a row's closed facts out of its own few. Condition: none. -/
import Derived.Test.YtljacnpadelilaaRows
import Derived.JoinedOf
import Derived.KernelRfl
namespace Go.Proofs.Ytljacnpadelilaa
def headSigns : List Char := [Char.ofNat 104, Char.ofNat 97, Char.ofNat 114, Char.ofNat 110, Char.ofNat 101, Char.ofNat 115, Char.ofNat 115, Char.ofNat 32, Char.ofNat 101, Char.ofNat 49, Char.ofNat 49, Char.ofNat 100, Char.ofNat 57, Char.ofNat 55, Char.ofNat 55, Char.ofNat 48, Char.ofNat 98, Char.ofNat 50, Char.ofNat 51, Char.ofNat 53, Char.ofNat 52, Char.ofNat 100, Char.ofNat 97, Char.ofNat 100, Char.ofNat 51, Char.ofNat 48, Char.ofNat 98, Char.ofNat 49, Char.ofNat 99, Char.ofNat 97, Char.ofNat 98, Char.ofNat 57, Char.ofNat 53, Char.ofNat 102, Char.ofNat 55, Char.ofNat 48, Char.ofNat 99, Char.ofNat 51, Char.ofNat 98, Char.ofNat 48, Char.ofNat 100, Char.ofNat 56, Char.ofNat 52, Char.ofNat 102, Char.ofNat 52, Char.ofNat 52, Char.ofNat 57, Char.ofNat 50, Char.ofNat 98, Char.ofNat 50, Char.ofNat 99, Char.ofNat 100, Char.ofNat 57, Char.ofNat 100, Char.ofNat 101, Char.ofNat 56, Char.ofNat 102, Char.ofNat 99, Char.ofNat 57, Char.ofNat 57, Char.ofNat 100, Char.ofNat 52, Char.ofNat 54, Char.ofNat 99, Char.ofNat 101, Char.ofNat 50, Char.ofNat 55, Char.ofNat 99, Char.ofNat 56, Char.ofNat 49, Char.ofNat 55, Char.ofNat 51, Char.ofNat 32, Char.ofNat 99, Char.ofNat 117, Char.ofNat 116, Char.ofNat 32]
def rootSigns : List Char := [Char.ofNat 97, Char.ofNat 116, Char.ofNat 32, Char.ofNat 111, Char.ofNat 110, Char.ofNat 116, Char.ofNat 105, Char.ofNat 109, Char.ofNat 101, Char.ofNat 47, Char.ofNat 111, Char.ofNat 110, Char.ofNat 116, Char.ofNat 105, Char.ofNat 109, Char.ofNat 101, Char.ofNat 108, Char.ofNat 97, Char.ofNat 119, Char.ofNat 50, Char.ofNat 48, Char.ofNat 46, Char.ofNat 82, Char.ofNat 101, Char.ofNat 103, Char.ofNat 97, Char.ofNat 108, Char.ofNat 108, Char.ofNat 111, Char.ofNat 99, Char.ofNat 67, Char.ofNat 111, Char.ofNat 108, Char.ofNat 111, Char.ofNat 114, Char.ofNat 115, Char.ofNat 32, Char.ofNat 111, Char.ofNat 110, Char.ofNat 116, Char.ofNat 105, Char.ofNat 109, Char.ofNat 101, Char.ofNat 47, Char.ofNat 111, Char.ofNat 110, Char.ofNat 116, Char.ofNat 105, Char.ofNat 109, Char.ofNat 101, Char.ofNat 108, Char.ofNat 97, Char.ofNat 119, Char.ofNat 50, Char.ofNat 48, Char.ofNat 46, Char.ofNat 82, Char.ofNat 101, Char.ofNat 103, Char.ofNat 97, Char.ofNat 108, Char.ofNat 108, Char.ofNat 111, Char.ofNat 99, Char.ofNat 80, Char.ofNat 114, Char.ofNat 111, Char.ofNat 112, Char.ofNat 101, Char.ofNat 114, Char.ofNat 32, Char.ofNat 111, Char.ofNat 110, Char.ofNat 116, Char.ofNat 105, Char.ofNat 109, Char.ofNat 101, Char.ofNat 47, Char.ofNat 111, Char.ofNat 110, Char.ofNat 116, Char.ofNat 105, Char.ofNat 109, Char.ofNat 101, Char.ofNat 108, Char.ofNat 97, Char.ofNat 119, Char.ofNat 50, Char.ofNat 48, Char.ofNat 46, Char.ofNat 82, Char.ofNat 101, Char.ofNat 103, Char.ofNat 97, Char.ofNat 108, Char.ofNat 108, Char.ofNat 111, Char.ofNat 99, Char.ofNat 70, Char.ofNat 101, Char.ofNat 119, Char.ofNat 32, Char.ofNat 111, Char.ofNat 110, Char.ofNat 116, Char.ofNat 105, Char.ofNat 109, Char.ofNat 101, Char.ofNat 47, Char.ofNat 111, Char.ofNat 110, Char.ofNat 116, Char.ofNat 105, Char.ofNat 109, Char.ofNat 101, Char.ofNat 108, Char.ofNat 97, Char.ofNat 119, Char.ofNat 50, Char.ofNat 48, Char.ofNat 46, Char.ofNat 82, Char.ofNat 101, Char.ofNat 103, Char.ofNat 97, Char.ofNat 108, Char.ofNat 108, Char.ofNat 111, Char.ofNat 99, Char.ofNat 76, Char.ofNat 105, Char.ofNat 115, Char.ofNat 116, Char.ofNat 115, Char.ofNat 32, Char.ofNat 111, Char.ofNat 110, Char.ofNat 116, Char.ofNat 105, Char.ofNat 109, Char.ofNat 101, Char.ofNat 47, Char.ofNat 111, Char.ofNat 110, Char.ofNat 116, Char.ofNat 105, Char.ofNat 109, Char.ofNat 101, Char.ofNat 108, Char.ofNat 97, Char.ofNat 119, Char.ofNat 49, Char.ofNat 57, Char.ofNat 46, Char.ofNat 76, Char.ofNat 105, Char.ofNat 118, Char.ofNat 101, Char.ofNat 110, Char.ofNat 101, Char.ofNat 115, Char.ofNat 115, Char.ofNat 83, Char.ofNat 101, Char.ofNat 116, Char.ofNat 115, Char.ofNat 32, Char.ofNat 111, Char.ofNat 110, Char.ofNat 116, Char.ofNat 105, Char.ofNat 109, Char.ofNat 101, Char.ofNat 47, Char.ofNat 111, Char.ofNat 110, Char.ofNat 116, Char.ofNat 105, Char.ofNat 109, Char.ofNat 101, Char.ofNat 108, Char.ofNat 97, Char.ofNat 119, Char.ofNat 49, Char.ofNat 57, Char.ofNat 46, Char.ofNat 76, Char.ofNat 105, Char.ofNat 118, Char.ofNat 101, Char.ofNat 110, Char.ofNat 101, Char.ofNat 115, Char.ofNat 115, Char.ofNat 73, Char.ofNat 110, Char.ofNat 116, Char.ofNat 101, Char.ofNat 114, Char.ofNat 102, Char.ofNat 101, Char.ofNat 114, Char.ofNat 101, Char.ofNat 110, Char.ofNat 99, Char.ofNat 101, Char.ofNat 32, Char.ofNat 111, Char.ofNat 110, Char.ofNat 116, Char.ofNat 105, Char.ofNat 109, Char.ofNat 101, Char.ofNat 47, Char.ofNat 111, Char.ofNat 110, Char.ofNat 116, Char.ofNat 105, Char.ofNat 109, Char.ofNat 101, Char.ofNat 108, Char.ofNat 97, Char.ofNat 119, Char.ofNat 49, Char.ofNat 57, Char.ofNat 46, Char.ofNat 76, Char.ofNat 105, Char.ofNat 118, Char.ofNat 101, Char.ofNat 110, Char.ofNat 101, Char.ofNat 115, Char.ofNat 115, Char.ofNat 69, Char.ofNat 113, Char.ofNat 117, Char.ofNat 97, Char.ofNat 116, Char.ofNat 105, Char.ofNat 111, Char.ofNat 110, Char.ofNat 115, Char.ofNat 32, Char.ofNat 111, Char.ofNat 110, Char.ofNat 116, Char.ofNat 105, Char.ofNat 109, Char.ofNat 101, Char.ofNat 47, Char.ofNat 111, Char.ofNat 110, Char.ofNat 116, Char.ofNat 105, Char.ofNat 109, Char.ofNat 101, Char.ofNat 108, Char.ofNat 97, Char.ofNat 119, Char.ofNat 49, Char.ofNat 57, Char.ofNat 46, Char.ofNat 76, Char.ofNat 105, Char.ofNat 118, Char.ofNat 101, Char.ofNat 110, Char.ofNat 101, Char.ofNat 115, Char.ofNat 115, Char.ofNat 79, Char.ofNat 118, Char.ofNat 101, Char.ofNat 114, Char.ofNat 119, Char.ofNat 114, Char.ofNat 105, Char.ofNat 116, Char.ofNat 101, Char.ofNat 115, Char.ofNat 32, Char.ofNat 111, Char.ofNat 110, Char.ofNat 116, Char.ofNat 105, Char.ofNat 109, Char.ofNat 101, Char.ofNat 47, Char.ofNat 111, Char.ofNat 110, Char.ofNat 116, Char.ofNat 105, Char.ofNat 109, Char.ofNat 101, Char.ofNat 108, Char.ofNat 97, Char.ofNat 119, Char.ofNat 49, Char.ofNat 57, Char.ofNat 46, Char.ofNat 76, Char.ofNat 105, Char.ofNat 118, Char.ofNat 101, Char.ofNat 110, Char.ofNat 101, Char.ofNat 115, Char.ofNat 115, Char.ofNat 66, Char.ofNat 111, Char.ofNat 117, Char.ofNat 110, Char.ofNat 100, Char.ofNat 115, Char.ofNat 32, Char.ofNat 111, Char.ofNat 110, Char.ofNat 116, Char.ofNat 105, Char.ofNat 109, Char.ofNat 101, Char.ofNat 47, Char.ofNat 111, Char.ofNat 110, Char.ofNat 116, Char.ofNat 105, Char.ofNat 109, Char.ofNat 101, Char.ofNat 108, Char.ofNat 97, Char.ofNat 119, Char.ofNat 49, Char.ofNat 57, Char.ofNat 46, Char.ofNat 76, Char.ofNat 105, Char.ofNat 118, Char.ofNat 101, Char.ofNat 110, Char.ofNat 101, Char.ofNat 115, Char.ofNat 115, Char.ofNat 86, Char.ofNat 97, Char.ofNat 108, Char.ofNat 117, Char.ofNat 101, Char.ofNat 115, Char.ofNat 32, Char.ofNat 111, Char.ofNat 110, Char.ofNat 116, Char.ofNat 105, Char.ofNat 109, Char.ofNat 101, Char.ofNat 47, Char.ofNat 111, Char.ofNat 110, Char.ofNat 116, Char.ofNat 105, Char.ofNat 109, Char.ofNat 101, Char.ofNat 108, Char.ofNat 97, Char.ofNat 119, Char.ofNat 49, Char.ofNat 55, Char.ofNat 46, Char.ofNat 73, Char.ofNat 114, Char.ofNat 86, Char.ofNat 97, Char.ofNat 108, Char.ofNat 105, Char.ofNat 100, Char.ofNat 32, Char.ofNat 111, Char.ofNat 110, Char.ofNat 116, Char.ofNat 105, Char.ofNat 109, Char.ofNat 101, Char.ofNat 47, Char.ofNat 111, Char.ofNat 110, Char.ofNat 116, Char.ofNat 105, Char.ofNat 109, Char.ofNat 101, Char.ofNat 108, Char.ofNat 97, Char.ofNat 119, Char.ofNat 49, Char.ofNat 55, Char.ofNat 46, Char.ofNat 73, Char.ofNat 114, Char.ofNat 82, Char.ofNat 117, Char.ofNat 110, Char.ofNat 115, Char.ofNat 32, Char.ofNat 111, Char.ofNat 110, Char.ofNat 116, Char.ofNat 105, Char.ofNat 109, Char.ofNat 101, Char.ofNat 47, Char.ofNat 111, Char.ofNat 110, Char.ofNat 116, Char.ofNat 105, Char.ofNat 109, Char.ofNat 101, Char.ofNat 108, Char.ofNat 97, Char.ofNat 119, Char.ofNat 49, Char.ofNat 55, Char.ofNat 46, Char.ofNat 73, Char.ofNat 114, Char.ofNat 66, Char.ofNat 108, Char.ofNat 111, Char.ofNat 99, Char.ofNat 107, Char.ofNat 115, Char.ofNat 32, Char.ofNat 111, Char.ofNat 110, Char.ofNat 116, Char.ofNat 105, Char.ofNat 109, Char.ofNat 101, Char.ofNat 47, Char.ofNat 111, Char.ofNat 110, Char.ofNat 116, Char.ofNat 105, Char.ofNat 109, Char.ofNat 101, Char.ofNat 108, Char.ofNat 97, Char.ofNat 119, Char.ofNat 49, Char.ofNat 55, Char.ofNat 46, Char.ofNat 73, Char.ofNat 114, Char.ofNat 70, Char.ofNat 117, Char.ofNat 101, Char.ofNat 108, Char.ofNat 32, Char.ofNat 111, Char.ofNat 110, Char.ofNat 116, Char.ofNat 105, Char.ofNat 109, Char.ofNat 101, Char.ofNat 47, Char.ofNat 111, Char.ofNat 110, Char.ofNat 116, Char.ofNat 105, Char.ofNat 109, Char.ofNat 101, Char.ofNat 108, Char.ofNat 97, Char.ofNat 119, Char.ofNat 49, Char.ofNat 55, Char.ofNat 46, Char.ofNat 73, Char.ofNat 114, Char.ofNat 82, Char.ofNat 101, Char.ofNat 110, Char.ofNat 117, Char.ofNat 109, Char.ofNat 98, Char.ofNat 101, Char.ofNat 114, Char.ofNat 115, Char.ofNat 32, Char.ofNat 111, Char.ofNat 110, Char.ofNat 116, Char.ofNat 105, Char.ofNat 109, Char.ofNat 101, Char.ofNat 47, Char.ofNat 111, Char.ofNat 110, Char.ofNat 116, Char.ofNat 105, Char.ofNat 109, Char.ofNat 101, Char.ofNat 108, Char.ofNat 97, Char.ofNat 119, Char.ofNat 49, Char.ofNat 55, Char.ofNat 46, Char.ofNat 73, Char.ofNat 114, Char.ofNat 79, Char.ofNat 112, Char.ofNat 101, Char.ofNat 114, Char.ofNat 97, Char.ofNat 110, Char.ofNat 100, Char.ofNat 115, Char.ofNat 32, Char.ofNat 111, Char.ofNat 110, Char.ofNat 116, Char.ofNat 105, Char.ofNat 109, Char.ofNat 101, Char.ofNat 47, Char.ofNat 111, Char.ofNat 110, Char.ofNat 116, Char.ofNat 105, Char.ofNat 109, Char.ofNat 101, Char.ofNat 108, Char.ofNat 97, Char.ofNat 119, Char.ofNat 49, Char.ofNat 55, Char.ofNat 46, Char.ofNat 73, Char.ofNat 114, Char.ofNat 69, Char.ofNat 113, Char.ofNat 117, Char.ofNat 97, Char.ofNat 108, Char.ofNat 32, Char.ofNat 111, Char.ofNat 110, Char.ofNat 116, Char.ofNat 105, Char.ofNat 109, Char.ofNat 101, Char.ofNat 47, Char.ofNat 111, Char.ofNat 110, Char.ofNat 116, Char.ofNat 105, Char.ofNat 109, Char.ofNat 101, Char.ofNat 108, Char.ofNat 97, Char.ofNat 119, Char.ofNat 50, Char.ofNat 48, Char.ofNat 46, Char.ofNat 82, Char.ofNat 101, Char.ofNat 103, Char.ofNat 97, Char.ofNat 108, Char.ofNat 108, Char.ofNat 111, Char.ofNat 99, Char.ofNat 65, Char.ofNat 108, Char.ofNat 108, Char.ofNat 111, Char.ofNat 99, Char.ofNat 97, Char.ofNat 116, Char.ofNat 101, Char.ofNat 115, Char.ofNat 32, Char.ofNat 111, Char.ofNat 110, Char.ofNat 116, Char.ofNat 105, Char.ofNat 109, Char.ofNat 101, Char.ofNat 47, Char.ofNat 111, Char.ofNat 110, Char.ofNat 116, Char.ofNat 105, Char.ofNat 109, Char.ofNat 101, Char.ofNat 108, Char.ofNat 97, Char.ofNat 119, Char.ofNat 50, Char.ofNat 48, Char.ofNat 46, Char.ofNat 82, Char.ofNat 101, Char.ofNat 103, Char.ofNat 97, Char.ofNat 108, Char.ofNat 108, Char.ofNat 111, Char.ofNat 99, Char.ofNat 83, Char.ofNat 111, Char.ofNat 117, Char.ofNat 110, Char.ofNat 100, Char.ofNat 32, Char.ofNat 111, Char.ofNat 110, Char.ofNat 116, Char.ofNat 105, Char.ofNat 109, Char.ofNat 101, Char.ofNat 47, Char.ofNat 111, Char.ofNat 110, Char.ofNat 116, Char.ofNat 105, Char.ofNat 109, Char.ofNat 101, Char.ofNat 108, Char.ofNat 97, Char.ofNat 119, Char.ofNat 49, Char.ofNat 57, Char.ofNat 46, Char.ofNat 76, Char.ofNat 105, Char.ofNat 118, Char.ofNat 101, Char.ofNat 110, Char.ofNat 101, Char.ofNat 115, Char.ofNat 115, Char.ofNat 77, Char.ofNat 101, Char.ofNat 114, Char.ofNat 103, Char.ofNat 101, Char.ofNat 115, Char.ofNat 32, Char.ofNat 111, Char.ofNat 110, Char.ofNat 116, Char.ofNat 105, Char.ofNat 109, Char.ofNat 101, Char.ofNat 47, Char.ofNat 111, Char.ofNat 110, Char.ofNat 116, Char.ofNat 105, Char.ofNat 109, Char.ofNat 101, Char.ofNat 108, Char.ofNat 97, Char.ofNat 119, Char.ofNat 50, Char.ofNat 48, Char.ofNat 46, Char.ofNat 82, Char.ofNat 101, Char.ofNat 103, Char.ofNat 97, Char.ofNat 108, Char.ofNat 108, Char.ofNat 111, Char.ofNat 99, Char.ofNat 82, Char.ofNat 117, Char.ofNat 110, Char.ofNat 115]
set_option maxRecDepth 100000 in
theorem initOrder_list : Try.prog.initOrder = String.ofList (headSigns ++ rootSigns) := by kernel_rfl
theorem initOrder_toList : Try.prog.initOrder.toList = headSigns ++ rootSigns := by
  rw [initOrder_list, String.toList_ofList]
def wHarness : List Char := [Char.ofNat 104, Char.ofNat 97, Char.ofNat 114, Char.ofNat 110, Char.ofNat 101, Char.ofNat 115, Char.ofNat 115]
def wCut : List Char := [Char.ofNat 99, Char.ofNat 117, Char.ofNat 116]
def wSum : List Char := (headSigns.drop 8).take 64
theorem words_head (t : List Char) : wordsSigns (headSigns ++ t) = wHarness :: wSum :: wCut :: wordsSigns t := by kernel_rfl
theorem behind_head (r : List (List Char)) : behindMainWord (wHarness :: wSum :: wCut :: r) = wCut :: r := by kernel_rfl
theorem words_all : behindMainWord (wordsSigns Try.prog.initOrder.toList) = wCut :: wordsSigns rootSigns := by
  rw [initOrder_toList, words_head, behind_head]
theorem strip_head (r : List (List Char)) : stripLifts liftWords (wCut :: r) = ([], wCut :: r) := by kernel_rfl

theorem f_later : Try.prog.laysLater = false := by kernel_rfl
theorem f_reflect : Try.prog.bearsReflect = false := by kernel_rfl
theorem f_door : Try.prog.doorFits [] = true := by kernel_rfl
theorem not_gc : (wCut == "gc".toList) = false := by kernel_rfl
theorem not_spec : (wCut == "spec".toList) = false := by kernel_rfl
theorem not_carried : (wCut == "carried".toList) = false := by kernel_rfl
theorem is_cut : (wCut == "cut".toList) = true := by kernel_rfl
theorem head_cut (r : List (List Char)) : ((wCut :: r).head? == some "cut".toList) = true := by kernel_rfl

theorem make_any (P : Program) (r : List (List Char)) (h : behindMainWord (wordsSigns P.initOrder.toList) = wCut :: r) : P.make = some .cut := by
  unfold Program.make
  rw [h]
  simp only [not_gc, not_spec, is_cut, Bool.false_or, Bool.true_or, if_true]
  rfl
theorem may_any (P : Program) (r : List (List Char)) (h : behindMainWord (wordsSigns P.initOrder.toList) = wCut :: r) (h1 : P.laysLater = false) (h2 : P.bearsReflect = false) (h3 : P.doorFits [] = true) : P.mayEnter = true := by
  unfold Program.mayEnter
  rw [h]
  dsimp only
  rw [strip_head]
  simp only [not_gc, not_spec, not_carried, head_cut, h1, h2, h3, Bool.false_or, Bool.or_false, Bool.not_false, Bool.and_true, Bool.or_true, Bool.false_and]
  rfl
theorem headLifts_any (P : Program) (r : List (List Char)) (h : behindMainWord (wordsSigns P.initOrder.toList) = wCut :: r) : P.headLifts = [] := by
  unfold Program.headLifts
  rw [h, strip_head]
  simp only [head_cut, if_true]
theorem liftsFinal_any (P : Program) (r : List (List Char)) (h : behindMainWord (wordsSigns P.initOrder.toList) = wCut :: r) : P.liftsFinal = false := by
  unfold Program.liftsFinal
  rw [h, headLifts_any P r h]
  have h : ((wCut :: r).head? == some "carried".toList) = false := by kernel_rfl
  simp only [h, Bool.false_and, Bool.false_or]
  rfl
namespace Facts
theorem own : ownKnob Try.prog.godebug = none := by kernel_rfl
theorem laidOut : laidOutB Try.prog = true := by kernel_rfl
theorem mapsRowed : mapsRowed Try.prog = true := by kernel_rfl
theorem stops : (Try.prog.stops == []) = true := by kernel_rfl
theorem stopKnobs : (Try.prog.stopKnobs == []) = true := by kernel_rfl
theorem plainKeys : Try.prog.plainKeys = true := by kernel_rfl
theorem stopsHeard : Try.prog.stopsHeard = true := by kernel_rfl
theorem mayEnter : Try.prog.mayEnter = true := may_any _ _ words_all f_later f_reflect f_door
theorem liftsFinal : Try.prog.liftsFinal = false := liftsFinal_any _ _ words_all
theorem make : Try.prog.make = some .cut := make_any _ _ words_all
end Facts
theorem joined_of {P : Program} {f : FuncId} {fn : Func} {s : ChangeSpec} {c : OpenClaim}
    (k0 : (c.wf (OpenSpec.ofChange s)) = true)
    (k1 : (laidOutB P) = true)
    (k2 : (mapsRowed P) = true)
    (k3 : (fn.params.all (P.readableRec ·)) = true)
    (k4 : (namedTie P c.named s.vars) = true)
    (k5 : ((c.stops == [])) = true)
    (k6 : ((P.stops == [])) = true)
    (k7 : ((c.knobs == [])) = true)
    (k8 : ((P.stopKnobs == [])) = true)
    (k9 : ((c.inPlace == P.inPlace f)) = true)
    (k10 : ((c.unfollowed == P.unfollowed f)) = true)
    (k11 : ((c.recurses == P.recurses f)) = true)
    (k12 : ((c.named == P.varsNamed f)) = true)
    (k13 : ((c.maps == (fn.params.toList ++ s.plain.varTypes P).any (P.mapsRec ·))) = true)
    (k14 : ((c.ifaces == (fn.params.toList ++ s.plain.varTypes P).any (P.ifacesRec ·))) = true)
    (k15 : ((c.mapsOut == P.mapsAmong fn.resultTypes.toList)) = true)
    (k16 : ((c.loops == (fn.params.toList ++ s.plain.varTypes P).any (P.loopsFrom ·))) = true)
    (k17 : ((c.wideKeys == (fn.params.toList ++ s.plain.varTypes P ++ fn.resultTypes.toList).any (P.wideKeysFrom ·))) = true)
    (k18 : (s.vars.all (P.varReadable ·)) = true)
    (k19 : (fn.resultTypes.all (fun t => P.readableRec t && decide (t < P.types.size))) = true)
    (k20 : ((c.ifacesOut == fn.resultTypes.toList.any (P.ifacesRec ·))) = true)
    (k21 : ((c.loopsOut == fn.resultTypes.toList.any (P.loopsFrom ·))) = true)
    (k22 : ((c.plainKeys == P.plainKeys)) = true)
    (k23 : (c.shortTexts.isNone) = true)
    (k24 : (P.stopsHeard) = true)
    (k25 : (P.mayEnter) = true)
    (k26 : ((c.lifted == P.liftsFinal)) = true)
    (k27 : ((P.make == some c.make)) = true)
    (hd : c.domain = []) (hk : c.kinds = [])
    (k29 : ((c.pinned == c.pinnedBy)) = true)
    (k30 : ((c.veiled == (fn.params.toList ++ s.plain.varTypes P ++ fn.resultTypes.toList).any (P.veiledRec ·))) = true)
    (k31 : (c.veiledFits P fn.params.toList (fn.params.toList ++ s.plain.varTypes P ++ fn.resultTypes.toList)) = true) :
    joinedFacts P f fn s c = true := by
  unfold joinedFacts
  rw [k0, k1, k2, k3, k4, k5, k6, k7, k8, k9, k10, k11, k12, k13, k14, k15, k16, k17, k18, k19, k20, k21, k22, k23, k24, k25, k26, k27, k29, k30, k31, hd, hk]
  rfl
end Go.Proofs.Ytljacnpadelilaa
