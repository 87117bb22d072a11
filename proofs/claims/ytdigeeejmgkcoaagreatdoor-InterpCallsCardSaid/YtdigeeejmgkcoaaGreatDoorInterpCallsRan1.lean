/-
  InterpCalls: runs, part 1. The program is run by an evaluator that is proved right (the texts Ev..), in the kernel; Pick's result is known. No condition.
-/
import Derived.Test.YtdigeeejmgkcoaaGreatDoorTcalls
import Derived.Test.YtdigeeejmgkcoaaGreatDoorPickWalk
namespace Go.Proofs.YtdigeeejmgkcoaaGreatDoor.interpCalls
variable [Ev.GTab] [Ev.SymC Tryz.prog 203 26]
set_option linter.unusedSectionVars false

noncomputable def tp : Ev.Wr := fun c => Ev.orcW (Ev.pickOrc 11 Ev.noOrc) (tcalls c)
theorem tp_ok : Ev.WrOK Tryz.prog tp := fun c hc => Ev.orcW_ok (Ev.pickOrc_ok (Ev.noOrc_ok _) pickWalk) _ (tcalls_ok c hc)

set_option maxRecDepth 1000000 in
theorem ran0 : Ev.runTW Tryz.prog tp 4 1000 [.anyInt .i64 40 0] = true := by kernel_rfl

set_option maxRecDepth 1000000 in
theorem ran1 : Ev.runTW Tryz.prog tp 4 1000 [.anyInt .i64 40 1] = true := by kernel_rfl

set_option maxRecDepth 1000000 in
theorem ran2 : Ev.runTW Tryz.prog tp 4 1000 [.anyInt .i64 40 2] = true := by kernel_rfl

set_option maxRecDepth 1000000 in
theorem ran3 : Ev.runTW Tryz.prog tp 4 1000 [.anyInt .i64 40 3] = true := by kernel_rfl

set_option maxRecDepth 1000000 in
theorem ran4 : Ev.runTW Tryz.prog tp 4 1000 [.anyInt .i64 40 4] = true := by kernel_rfl

set_option maxRecDepth 1000000 in
theorem ran5 : Ev.runTW Tryz.prog tp 4 1000 [.anyInt .i64 40 5] = true := by kernel_rfl

set_option maxRecDepth 1000000 in
theorem ran6 : Ev.runTW Tryz.prog tp 4 1000 [.anyInt .i64 40 6] = true := by kernel_rfl

set_option maxRecDepth 1000000 in
theorem ran7 : Ev.runTW Tryz.prog tp 4 1000 [.anyInt .i64 40 7] = true := by kernel_rfl

set_option maxRecDepth 1000000 in
theorem ran8 : Ev.runTW Tryz.prog tp 4 1000 [.anyInt .i64 40 8] = true := by kernel_rfl

set_option maxRecDepth 1000000 in
theorem ran9 : Ev.runTW Tryz.prog tp 4 1000 [.anyInt .i64 40 9] = true := by kernel_rfl

set_option maxRecDepth 1000000 in
theorem ran10 : Ev.runTW Tryz.prog tp 4 1000 [.anyInt .i64 40 10] = true := by kernel_rfl

set_option maxRecDepth 1000000 in
theorem ran11 : Ev.runTW Tryz.prog tp 4 1000 [.anyInt .i64 40 11] = true := by kernel_rfl

set_option maxRecDepth 1000000 in
theorem ran12 : Ev.runTW Tryz.prog tp 4 1000 [.anyInt .i64 40 12] = true := by kernel_rfl

set_option maxRecDepth 1000000 in
theorem ran13 : Ev.runTW Tryz.prog tp 4 1000 [.anyInt .i64 40 13] = true := by kernel_rfl

end Go.Proofs.YtdigeeejmgkcoaaGreatDoor.interpCalls
