/-
  A call that is run once in the kernel by the evaluator, and known from then on. No condition.
-/
import Derived.Test.YtbnphbijdnhbkaaGreatDoorBase
namespace Go.Proofs.YtbnphbijdnhbkaaGreatDoor
def w1rn : List Nat := [3625, 4218, 3972, 4013, 4207, 4072]
def w1p : Ev.AVal := (.tuple [(.agg [(.slice 0 0 5 5 true), (.slice 1 0 1 5 false), (.int .i64 (.ofNat 0)), .nilSlice, (.slice 5 0 2 1 false)]), (.agg [(.int .i64 (.ofNat 0)), (.int .i64 (.ofNat 0))]), (.int .i64 (.ofNat 0))])
def w1objs : List (List Ev.AVal) := [[(.int .i64 (.ofNat 0)), (.str 0 0), (.int .i64 (.ofNat 0)), .nilSlice, .nilSlice, (.int .i64 (.ofNat 1)), (.str 3 6909556), (.int .i64 (.ofNat 0)), .nilSlice, .nilSlice, (.int .i64 (.ofNat 2)), (.str 4 1651470188), (.int .i64 (.ofNat 0)), .nilSlice, .nilSlice, (.int .i64 (.ofNat 3)), (.str 6 126943972912743), (.int .i64 (.ofNat 0)), .nilSlice, .nilSlice, (.int .i64 (.ofNat 4)), (.str 3 7235948), (.int .i64 (.ofNat 0)), .nilSlice, .nilSlice],
  [(.str 4 1835100526), (.slice 2 0 0 1 true), (.int .i64 (.ofNat 0)), (.slice 3 0 1 1 false), (.slice 4 0 12 3 false)],
  [],
  [(.int .i64 (.ofNat 1))],
  [(.int .i64 (.ofNat 1)), (.int .i64 (.ofNat 0)), (.int .i64 (.ofNat 0)), (.int .i64 (.ofNat 6)), (.int .i64 (.ofNat 0)), (.int .i64 (.ofNat 0)), (.int .i64 (.ofNat 5)), (.int .i64 (.ofNat 0)), (.int .i64 (.ofNat 0)), (.int .i64 (.ofNat 1)), (.int .i64 (.ofNat 1)), (.int .i64 (.ofNat 0)), (.int .i64 (.ofNat 17)), (.int .i64 (.ofNat 0)), (.int .i64 (.ofNat 0)), (.int .i64 (.ofNat 27)), (.int .i64 (.ofNat 11)), (.int .i64 (.ofNat 0)), (.int .i64 (.ofNat 5)), (.int .i64 (.ofNat 0)), (.int .i64 (.ofNat 0)), (.int .i64 (.ofNat 5)), (.int .i64 (.ofNat 0)), (.int .i64 (.ofNat 0)), (.int .i64 (.ofNat 8)), (.int .i64 (.ofNat 0)), (.int .i64 (.ofNat 0)), (.int .i64 (.ofNat 6)), (.int .i64 (.ofNat 0)), (.int .i64 (.ofNat 0)), (.int .i64 (.ofNat 26)), (.int .i64 (.ofNat 2)), (.int .i64 (.ofNat 0)), (.int .i64 (.ofNat 41)), (.int .i64 (.ofNat 0)), (.int .i64 (.ofNat 0))],
  [(.int .i64 (.ofNat 1)), (.int .i64 (.ofNat 9))]]

set_option maxRecDepth 1000000 in
theorem w1Ran : Ev.runI Tryz.prog w0 12 1000 [(.str 47 61600936095260879112447323745279813028228954126235588204175881978032149119930365770525598103050910762110891663485)] w1rn w1p w1objs = true := by kernel_rfl

noncomputable def w1 : Ev.Wr := Ev.impW 12 [(.str 47 61600936095260879112447323745279813028228954126235588204175881978032149119930365770525598103050910762110891663485)] w1p w1objs w0
theorem w1_ok : Ev.WrOK Tryz.prog w1 := Ev.impW_ok mixed w0_ok (by kernel_rfl) (by kernel_rfl) (by kernel_rfl) w1Ran

end Go.Proofs.YtbnphbijdnhbkaaGreatDoor
