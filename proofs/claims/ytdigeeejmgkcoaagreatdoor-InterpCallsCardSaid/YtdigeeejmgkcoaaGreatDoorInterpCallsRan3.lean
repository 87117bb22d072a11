/-
  InterpCalls: runs, part 3. The program is run by an evaluator that is proved right (the texts Ev..), in the kernel; Pick's result is known. No condition.
-/
import Derived.Test.YtdigeeejmgkcoaaGreatDoorInterpCallsRan1
namespace Go.Proofs.YtdigeeejmgkcoaaGreatDoor.interpCalls
variable [Ev.GTab] [Ev.SymC Tryz.prog 203 26]
set_option linter.unusedSectionVars false

set_option maxRecDepth 1000000 in
theorem ran22 : Ev.runTW Tryz.prog tp 4 1000 [.anyInt .i64 40 22] = true := by kernel_rfl

set_option maxRecDepth 1000000 in
theorem ran23 : Ev.runTW Tryz.prog tp 4 1000 [.anyInt .i64 40 23] = true := by kernel_rfl

set_option maxRecDepth 1000000 in
theorem ran24 : Ev.runTW Tryz.prog tp 4 1000 [.anyInt .i64 40 24] = true := by kernel_rfl

set_option maxRecDepth 1000000 in
theorem ran25 : Ev.runTW Tryz.prog tp 4 1000 [.anyInt .i64 40 25] = true := by kernel_rfl

set_option maxRecDepth 1000000 in
theorem ran26 : Ev.runTW Tryz.prog tp 4 1000 [.anyInt .i64 40 26] = true := by kernel_rfl

set_option maxRecDepth 1000000 in
theorem ran27 : Ev.runTW Tryz.prog tp 4 1000 [.anyInt .i64 40 27] = true := by kernel_rfl

end Go.Proofs.YtdigeeejmgkcoaaGreatDoor.interpCalls
