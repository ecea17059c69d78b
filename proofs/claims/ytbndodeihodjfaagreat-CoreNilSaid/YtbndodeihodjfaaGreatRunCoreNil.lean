/- The Go function CoreNil, run by the kernel: it answers true, whatever the numbers are that it is given; no condition. -/
import Derived.Test.YtbndodeihodjfaaGreatProg
import Derived.Test.YtbndodeihodjfaaGreatFwLaw0
import Derived.Test.YtbndodeihodjfaaGreatNum
import Derived.KernelRfl
namespace Go.Proofs.YtbndodeihodjfaaGreat.coreNil
open Go.RowKit
theorem ran (a0 : Int) (a1 : Int) : Fw.isT (Fw.kcall Tryz.prog 500 60 (.inl 11) [.int .i64 a0, .int .u8 a1] (Fw.startE 0)) = true := by kernel_rfl
theorem walk (a0 : Int) (a1 : Int) (w : World) : Calls Tryz.prog 11 #[.int .i64 a0, .int .u8 a1] w fun e w' => e = .returned (.bool true) ∧ Below w.heap.size w w' :=
  Fw.calls_true (by kernel_rfl) Facts.num (by kernel_rfl) (ran a0 a1) ⟨trivial, trivial, trivial⟩ rfl w
end Go.Proofs.YtbndodeihodjfaaGreat.coreNil
