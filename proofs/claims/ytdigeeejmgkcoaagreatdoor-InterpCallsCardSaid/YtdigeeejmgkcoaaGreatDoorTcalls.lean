/-
  A call that is run once in the kernel by the evaluator, and known from then on. No condition.
-/
import Derived.Test.YtdigeeejmgkcoaaGreatDoorKn
namespace Go.Proofs.YtdigeeejmgkcoaaGreatDoor
variable [Ev.GTab] [Ev.SymC Tryz.prog 203 26]
set_option linter.unusedSectionVars false

def tcallsrn : List Nat := [6185, 7127, 6819, 6834, 7048, 7077, 7116, 7036]
def tcallsp : Ev.AVal := (.tuple [(.agg [(.slice 0 0 5 5 true), (.slice 1 0 2 5 false), (.int .i64 (.ofNat 1)), .nilSlice, (.slice 7 0 2 1 false)]), (.agg [(.int .i64 (.ofNat 0)), (.int .i64 (.ofNat 0))]), (.int .i64 (.ofNat 0))])
def tcallsobjs : List (List Ev.AVal) := [[(.int .i64 (.ofNat 0)), (.str 0 0), (.int .i64 (.ofNat 0)), .nilSlice, .nilSlice, (.int .i64 (.ofNat 1)), (.str 3 6909556), (.int .i64 (.ofNat 0)), .nilSlice, .nilSlice, (.int .i64 (.ofNat 2)), (.str 4 1651470188), (.int .i64 (.ofNat 0)), .nilSlice, .nilSlice, (.int .i64 (.ofNat 3)), (.str 6 126943972912743), (.int .i64 (.ofNat 0)), .nilSlice, .nilSlice, (.int .i64 (.ofNat 4)), (.str 3 7235948), (.int .i64 (.ofNat 0)), .nilSlice, .nilSlice],
  [(.str 1 102), (.slice 2 0 1 1 false), (.int .i64 (.ofNat 1)), (.slice 3 0 1 1 false), (.slice 4 0 14 3 false), (.str 4 1835100526), (.slice 5 0 0 1 true), (.int .i64 (.ofNat 0)), .nilSlice, (.slice 6 0 4 3 false)],
  [(.int .i64 (.ofNat 1))],
  [(.int .i64 (.ofNat 1))],
  [(.int .i64 (.ofNat 5)), (.int .i64 (.ofNat 0)), (.int .i64 (.ofNat 0)), (.int .i64 (.ofNat 1)), (.int .i64 (.ofNat 0)), (.int .i64 (.ofNat 0)), (.int .i64 (.ofNat 15)), (.int .i64 (.ofNat 0)), (.int .i64 (.ofNat 0)), (.int .i64 (.ofNat 27)), (.int .i64 (.ofNat 6)), (.int .i64 (.ofNat 0)), (.int .i64 (.ofNat 1)), (.int .i64 (.ofNat 0)), (.int .i64 (.ofNat 0)), (.int .i64 (.ofNat 41)), (.int .i64 (.ofNat 1)), (.int .i64 (.ofNat 0)), (.int .i64 (.ofNat 5)), (.int .i64 (.ofNat 0)), (.int .i64 (.ofNat 0)), (.int .i64 (.ofNat 5)), (.int .i64 (.ofNat 0)), (.int .i64 (.ofNat 0)), (.int .i64 (.ofNat 1)), (.int .i64 (.ofNat 1)), (.int .i64 (.ofNat 0)), (.int .i64 (.ofNat 9)), (.int .i64 (.ofNat 0)), (.int .i64 (.ofNat 0)), (.int .i64 (.ofNat 36)), (.int .i64 (.ofNat 0)), (.int .i64 (.ofNat 1)), (.int .i64 (.ofNat 8)), (.int .i64 (.ofNat 0)), (.int .i64 (.ofNat 0)), (.int .i64 (.ofNat 41)), (.int .i64 (.ofNat 1)), (.int .i64 (.ofNat 0)), (.int .i64 (.ofNat 26)), (.int .i64 (.ofNat 13)), (.int .i64 (.ofNat 0))],
  [],
  [(.int .i64 (.ofNat 40)), (.int .i64 (.ofNat 0)), (.int .i64 (.ofNat 0)), (.int .i64 (.ofNat 36)), (.int .i64 (.ofNat 0)), (.int .i64 (.ofNat 1)), (.int .i64 (.ofNat 39)), (.int .i64 (.ofNat 1)), (.int .i64 (.ofNat 0)), (.int .i64 (.ofNat 41)), (.int .i64 (.ofNat 0)), (.int .i64 (.ofNat 0))],
  [(.int .i64 (.ofNat 0)), (.int .i64 (.ofNat 1))]]

set_option maxRecDepth 1000000 in
theorem tcallsRan : Ev.runI Tryz.prog kn 15 1000 [(.str 100 2668735135012373353110870639980573769060747153500692896095795431927520090188483824225923570568310438494852334848924817960460753895367607584549094512626635015453122691624168238468724039649574171758593908361687808000048300062849946091455586429)] tcallsrn tcallsp tcallsobjs = true := by kernel_rfl

noncomputable def tcalls : Ev.Wr := Ev.impW 15 [(.str 100 2668735135012373353110870639980573769060747153500692896095795431927520090188483824225923570568310438494852334848924817960460753895367607584549094512626635015453122691624168238468724039649574171758593908361687808000048300062849946091455586429)] tcallsp tcallsobjs kn
theorem tcalls_ok : Ev.WrOK Tryz.prog tcalls := Ev.impW_ok mixed kn_ok (by kernel_rfl) (by kernel_rfl) (by kernel_rfl) tcallsRan

end Go.Proofs.YtdigeeejmgkcoaaGreatDoor
