/-
  A call that is run once in the kernel by the evaluator, and known from then on. No condition.
-/
import Derived.Test.YteklbgeglmfndaaGreatDoorKn
namespace Go.Proofs.YteklbgeglmfndaaGreatDoor
variable [Ev.GTab] [Ev.SymC Tryz.prog 206 29]
set_option linter.unusedSectionVars false

def tarithrn : List Nat := [8568, 9548, 9282, 9316, 9537]
def tarithp : Ev.AVal := (.tuple [(.agg [(.slice 0 0 5 5 true), (.slice 1 0 1 5 false), (.int .i64 (.ofNat 0)), .nilSlice, .nilSlice]), (.agg [(.int .i64 (.ofNat 0)), (.int .i64 (.ofNat 0))]), (.int .i64 (.ofNat 0))])
def tarithobjs : List (List Ev.AVal) := [[(.int .i64 (.ofNat 0)), (.str 0 0), (.int .i64 (.ofNat 0)), .nilSlice, .nilSlice, (.int .i64 (.ofNat 1)), (.str 3 6909556), (.int .i64 (.ofNat 0)), .nilSlice, .nilSlice, (.int .i64 (.ofNat 2)), (.str 4 1651470188), (.int .i64 (.ofNat 0)), .nilSlice, .nilSlice, (.int .i64 (.ofNat 3)), (.str 6 126943972912743), (.int .i64 (.ofNat 0)), .nilSlice, .nilSlice, (.int .i64 (.ofNat 4)), (.str 3 7235948), (.int .i64 (.ofNat 0)), .nilSlice, .nilSlice],
  [(.str 4 1835100526), (.slice 2 0 0 1 true), (.int .i64 (.ofNat 0)), (.slice 3 0 2 1 false), (.slice 4 0 28 3 false)],
  [],
  [(.int .i64 (.ofNat 1)), (.int .i64 (.ofNat 1))],
  [(.int .i64 (.ofNat 40)), (.int .i64 (.ofNat 0)), (.int .i64 (.ofNat 0)), (.int .i64 (.ofNat 6)), (.int .i64 (.ofNat 0)), (.int .i64 (.ofNat 0)), (.int .i64 (.ofNat 40)), (.int .i64 (.ofNat 0)), (.int .i64 (.ofNat 0)), (.int .i64 (.ofNat 6)), (.int .i64 (.ofNat 1)), (.int .i64 (.ofNat 0)), (.int .i64 (.ofNat 5)), (.int .i64 (.ofNat 0)), (.int .i64 (.ofNat 0)), (.int .i64 (.ofNat 5)), (.int .i64 (.ofNat 1)), (.int .i64 (.ofNat 0)), (.int .i64 (.ofNat 8)), (.int .i64 (.ofNat 0)), (.int .i64 (.ofNat 0)), (.int .i64 (.ofNat 39)), (.int .i64 (.ofNat 1)), (.int .i64 (.ofNat 0)), (.int .i64 (.ofNat 5)), (.int .i64 (.ofNat 0)), (.int .i64 (.ofNat 0)), (.int .i64 (.ofNat 5)), (.int .i64 (.ofNat 1)), (.int .i64 (.ofNat 0)), (.int .i64 (.ofNat 9)), (.int .i64 (.ofNat 0)), (.int .i64 (.ofNat 0)), (.int .i64 (.ofNat 39)), (.int .i64 (.ofNat 1)), (.int .i64 (.ofNat 0)), (.int .i64 (.ofNat 5)), (.int .i64 (.ofNat 0)), (.int .i64 (.ofNat 0)), (.int .i64 (.ofNat 5)), (.int .i64 (.ofNat 1)), (.int .i64 (.ofNat 0)), (.int .i64 (.ofNat 10)), (.int .i64 (.ofNat 0)), (.int .i64 (.ofNat 0)), (.int .i64 (.ofNat 39)), (.int .i64 (.ofNat 1)), (.int .i64 (.ofNat 0)), (.int .i64 (.ofNat 5)), (.int .i64 (.ofNat 0)), (.int .i64 (.ofNat 0)), (.int .i64 (.ofNat 13)), (.int .i64 (.ofNat 0)), (.int .i64 (.ofNat 0)), (.int .i64 (.ofNat 39)), (.int .i64 (.ofNat 1)), (.int .i64 (.ofNat 0)), (.int .i64 (.ofNat 5)), (.int .i64 (.ofNat 0)), (.int .i64 (.ofNat 0)), (.int .i64 (.ofNat 5)), (.int .i64 (.ofNat 1)), (.int .i64 (.ofNat 0)), (.int .i64 (.ofNat 11)), (.int .i64 (.ofNat 0)), (.int .i64 (.ofNat 0)), (.int .i64 (.ofNat 39)), (.int .i64 (.ofNat 1)), (.int .i64 (.ofNat 0)), (.int .i64 (.ofNat 5)), (.int .i64 (.ofNat 0)), (.int .i64 (.ofNat 0)), (.int .i64 (.ofNat 5)), (.int .i64 (.ofNat 1)), (.int .i64 (.ofNat 0)), (.int .i64 (.ofNat 12)), (.int .i64 (.ofNat 0)), (.int .i64 (.ofNat 0)), (.int .i64 (.ofNat 39)), (.int .i64 (.ofNat 1)), (.int .i64 (.ofNat 0)), (.int .i64 (.ofNat 41)), (.int .i64 (.ofNat 0)), (.int .i64 (.ofNat 0))]]

set_option maxRecDepth 1000000 in
theorem tarithRan : Ev.runI Tryz.prog kn 18 1000 [(.str 123 65437195106541603798057945138656867169227090413222761952544704889327566440818133600110660329511321015095813514129000726420437940131396750981704091779411802872983364613237930991056538088762690447913903995679942114180843244357878783668671817331795782030701536207218407120615155260352794327320699005)] tarithrn tarithp tarithobjs = true := by kernel_rfl

noncomputable def tarith : Ev.Wr := Ev.impW 18 [(.str 123 65437195106541603798057945138656867169227090413222761952544704889327566440818133600110660329511321015095813514129000726420437940131396750981704091779411802872983364613237930991056538088762690447913903995679942114180843244357878783668671817331795782030701536207218407120615155260352794327320699005)] tarithp tarithobjs kn
theorem tarith_ok : Ev.WrOK Tryz.prog tarith := Ev.impW_ok mixed kn_ok (by kernel_rfl) (by kernel_rfl) (by kernel_rfl) tarithRan

end Go.Proofs.YteklbgeglmfndaaGreatDoor
