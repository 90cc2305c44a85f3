/- Closed facts on the whole program, asked one by one. -/
import Derived.Test.YtaicenafkjbnoaaJ0
namespace Go.Proofs.Ytaicenafkjbnoaa.whole
open Go Go.AM Go.ChangeShapes Go.WideShapes Go.ChangeAt Go.RowKit Go.Joins
theorem k1 : (laidOutB Try.pinned.checked.prog) = true := by kernel_rfl
theorem k2 : (mapsRowed Try.pinned.checked.prog) = true := by kernel_rfl
theorem k6 : ((Try.pinned.checked.prog.stops == [])) = true := by kernel_rfl
theorem k8 : ((Try.pinned.checked.prog.stopKnobs == [])) = true := by kernel_rfl
theorem k24 : (Try.pinned.checked.prog.stopsHeard) = true := by kernel_rfl
theorem k25 : (Try.pinned.checked.prog.mayEnter) = true := by kernel_rfl
theorem own : ownKnob Try.prog.godebug = none := by kernel_rfl
theorem laidOut : laidOutB Try.prog = true := k1
end Go.Proofs.Ytaicenafkjbnoaa.whole
