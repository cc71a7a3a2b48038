/- What the closings of this seat's laws share. -/
import Derived.Test.YtlkocnmgpalmnaaChecked
import Derived.Test.YtlkocnmgpalmnaaRows
import Derived.Test.YtlkocnmgpalmnaaEvL
namespace Go.Proofs.Ytlkocnmgpalmnaa
open Go Go.EV

theorem own_knob : ownKnob Try.prog.godebug = none := by kernel_rfl
theorem laid_out : laidOutB Try.prog = true := by kernel_rfl
theorem cells_u64 : Try.prog.cellsOf 22 = 1 := by kernel_rfl

end Go.Proofs.Ytlkocnmgpalmnaa
