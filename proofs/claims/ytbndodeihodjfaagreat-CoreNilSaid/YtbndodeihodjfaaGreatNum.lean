/- A closed fact of the translation: no function of it is the one that the machine answers by itself; no condition. -/
import Derived.Test.YtbndodeihodjfaaGreatProg
import Derived.Test.YtbndodeihodjfaaGreatFwExecDef
import Derived.KernelRfl
namespace Go.Proofs.YtbndodeihodjfaaGreat.Facts
theorem num : Fw.noNum Tryz.prog = true := by kernel_rfl
end Go.Proofs.YtbndodeihodjfaaGreat.Facts
