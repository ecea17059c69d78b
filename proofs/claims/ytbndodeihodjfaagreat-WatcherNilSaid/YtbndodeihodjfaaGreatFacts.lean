/- Closed facts of the translation, one by one: no function is looked at; no condition. -/
import Derived.Test.YtbndodeihodjfaaGreatRows
import Derived.JoinedOf
import Derived.KernelRfl
namespace Go.Proofs.YtbndodeihodjfaaGreat.Facts
theorem laid : laidOutB Tryz.prog = true := by kernel_rfl
theorem rowed : mapsRowed Tryz.prog = true := by kernel_rfl
theorem stops : (Tryz.prog.stops == []) = true := by kernel_rfl
theorem knobs : (Tryz.prog.stopKnobs == []) = true := by kernel_rfl
theorem plain : (Rows.coreNilRow.plainKeys == Tryz.prog.plainKeys) = true := by kernel_rfl
theorem heard : Tryz.prog.stopsHeard = true := by kernel_rfl
theorem mayEnter : Tryz.prog.mayEnter = true := by kernel_rfl
theorem lifts : (Rows.coreNilRow.lifted == Tryz.prog.liftsFinal) = true := by kernel_rfl
theorem made : (Tryz.prog.make == some Rows.coreNilRow.make) = true := by kernel_rfl
end Go.Proofs.YtbndodeihodjfaaGreat.Facts
