/-
The closed facts of the program, part by part.
-/
import Derived.Test.YtbihgmehjhlojaaRows
import Derived.ProofKit
import Derived.JoinedOf
set_option maxRecDepth 100000
namespace Go.Am
open Go Go.RowKit Go.Proofs
def ordL : List Char := List.map Char.ofNat [104, 97, 114, 110, 101, 115, 115, 32, 54, 99, 100, 102, 53, 48, 100, 52, 56, 56, 55, 50, 98, 50, 48, 57, 51, 53, 50, 48, 50, 56, 50, 54, 98, 100, 102, 51, 98, 52, 52, 50, 101, 55, 51, 55, 52, 49, 102, 53, 57, 56, 102, 54, 50, 53, 51, 100, 54, 50, 52, 102, 50, 49, 99, 54, 97, 53, 101, 50, 52, 97, 99, 50, 32, 99, 117, 116, 32, 97, 116, 32, 116, 105, 100, 101, 112, 111, 108, 101, 47, 116, 105, 100, 101, 112, 111, 108, 101, 108, 97, 119, 49, 48, 46, 70, 104, 105, 115, 116, 70, 108, 111, 97, 116, 115, 32, 116, 105, 100, 101, 112, 111, 108, 101, 47, 116, 105, 100, 101, 112, 111, 108, 101, 108, 97, 119, 51, 48, 46, 76, 97, 98, 101, 108, 115, 77, 97, 116, 99, 104, 101, 115, 32, 116, 105, 100, 101, 112, 111, 108, 101, 47, 116, 105, 100, 101, 112, 111, 108, 101, 108, 97, 119, 51, 48, 46, 76, 97, 98, 101, 108, 115, 65, 112, 97, 114, 116, 32, 116, 105, 100, 101, 112, 111, 108, 101, 47, 116, 105, 100, 101, 112, 111, 108, 101, 108, 97, 119, 49, 48, 46, 70, 104, 105, 115, 116, 66, 97, 99, 107, 32, 116, 105, 100, 101, 112, 111, 108, 101, 47, 116, 105, 100, 101, 112, 111, 108, 101, 108, 97, 119, 49, 48, 46, 70, 104, 105, 115, 116, 70, 114, 111, 109, 32, 116, 105, 100, 101, 112, 111, 108, 101, 47, 116, 105, 100, 101, 112, 111, 108, 101, 108, 97, 119, 50, 53, 46, 83, 99, 97, 108, 101, 80, 108, 97, 99, 101, 115, 32, 116, 105, 100, 101, 112, 111, 108, 101, 47, 116, 105, 100, 101, 112, 111, 108, 101, 108, 97, 119, 50, 53, 46, 83, 99, 97, 108, 101, 73, 110, 116, 115, 32, 116, 105, 100, 101, 112, 111, 108, 101, 47, 116, 105, 100, 101, 112, 111, 108, 101, 108, 97, 119, 50, 53, 46, 83, 99, 97, 108, 101, 70, 108, 111, 97, 116, 115, 32, 116, 105, 100, 101, 112, 111, 108, 101, 47, 116, 105, 100, 101, 112, 111, 108, 101, 108, 97, 119, 50, 53, 46, 83, 99, 97, 108, 101, 75, 101, 101, 112, 115, 32, 116, 105, 100, 101, 112, 111, 108, 101, 47, 116, 105, 100, 101, 112, 111, 108, 101, 108, 97, 119, 50, 53, 46, 83, 99, 97, 108, 101, 70, 105, 116, 115, 32, 116, 105, 100, 101, 112, 111, 108, 101, 47, 116, 105, 100, 101, 112, 111, 108, 101, 108, 97, 119, 50, 53, 46, 83, 99, 97, 108, 101, 84, 119, 105, 99, 101, 32, 116, 105, 100, 101, 112, 111, 108, 101, 47, 116, 105, 100, 101, 112, 111, 108, 101, 108, 97, 119, 50, 53, 46, 83, 99, 97, 108, 101, 82, 101, 115, 101, 116, 115, 32, 116, 105, 100, 101, 112, 111, 108, 101, 47, 116, 105, 100, 101, 112, 111, 108, 101, 108, 97, 119, 50, 57, 46, 82, 97, 110, 107, 83, 99, 97, 108, 101, 115, 32, 116, 105, 100, 101, 112, 111, 108, 101, 47, 116, 105, 100, 101, 112, 111, 108, 101, 108, 97, 119, 50, 55, 46, 65, 100, 100, 83, 117, 109, 115, 32, 116, 105, 100, 101, 112, 111, 108, 101, 47, 116, 105, 100, 101, 112, 111, 108, 101, 108, 97, 119, 50, 55, 46, 65, 100, 100, 73, 110, 116, 115, 32, 116, 105, 100, 101, 112, 111, 108, 101, 47, 116, 105, 100, 101, 112, 111, 108, 101, 108, 97, 119, 50, 55, 46, 65, 100, 100, 84, 117, 114, 110, 115, 32, 116, 105, 100, 101, 112, 111, 108, 101, 47, 116, 105, 100, 101, 112, 111, 108, 101, 108, 97, 119, 50, 55, 46, 65, 100, 100, 74, 111, 105, 110, 115, 32, 116, 105, 100, 101, 112, 111, 108, 101, 47, 116, 105, 100, 101, 112, 111, 108, 101, 108, 97, 119, 50, 55, 46, 65, 100, 100, 76, 101, 115, 115, 32, 116, 105, 100, 101, 112, 111, 108, 101, 47, 116, 105, 100, 101, 112, 111, 108, 101, 108, 97, 119, 50, 55, 46, 65, 100, 100, 66, 97, 99, 107, 32, 116, 105, 100, 101, 112, 111, 108, 101, 47, 116, 105, 100, 101, 112, 111, 108, 101, 108, 97, 119, 50, 55, 46, 65, 100, 100, 65, 108, 108, 32, 116, 105, 100, 101, 112, 111, 108, 101, 47, 116, 105, 100, 101, 112, 111, 108, 101, 108, 97, 119, 50, 56, 46, 82, 105, 115, 101, 78, 101, 118, 101, 114]
theorem ord_eq : Try.prog.initOrder = String.ofList ordL := by kernel_rfl
theorem ord_list : Try.prog.initOrder.toList = ordL := by rw [ord_eq]; exact String.toList_ofList
def cutRest : List (List Char) := (behindMainWord (wordsSigns ordL)).tail
theorem bm : behindMainWord (wordsSigns ordL) = "cut".toList :: cutRest := by kernel_rfl
theorem strip_cut (r : List (List Char)) : stripLifts liftWords ("cut".toList :: r) = ([], "cut".toList :: r) := by kernel_rfl
theorem p_lays : Try.prog.laysLater = false := by kernel_rfl
theorem p_bears : Try.prog.bearsReflect = false := by kernel_rfl
theorem p_rows : Try.prog.doorRows = [] := by kernel_rfl
theorem p_door : Try.prog.doorFits [] = true := by unfold Program.doorFits; rw [p_rows]; kernel_rfl
theorem p_mayEnter : Try.prog.mayEnter = true := by
  unfold Program.mayEnter
  rw [ord_list, bm]
  simp only [strip_cut, p_lays, p_bears, p_door]
  kernel_rfl
theorem p_headLifts : Try.prog.headLifts = [] := by unfold Program.headLifts; rw [ord_list, bm, strip_cut]; kernel_rfl
theorem p_lifts : Try.prog.liftsFinal = false := by unfold Program.liftsFinal; rw [p_headLifts, ord_list, bm]; kernel_rfl
theorem p_make : Try.prog.make = some .cut := by unfold Program.make; rw [ord_list, bm]; kernel_rfl
theorem p_laid : laidOutB Try.prog = true := by kernel_rfl
theorem p_maps : mapsRowed Try.prog = true := by kernel_rfl
theorem p_stops : (Try.prog.stops == []) = true := by kernel_rfl
theorem p_knobs : (Try.prog.stopKnobs == []) = true := by kernel_rfl
theorem p_keys : Try.prog.plainKeys = true := by kernel_rfl
theorem p_heard : Try.prog.stopsHeard = true := by kernel_rfl
end Go.Am
