/-
  A call that is run once in the kernel by the evaluator, and known from then on. No condition.
-/
import Derived.Test.YtnkeadjkckpknaaGreatDoorIns6
set_option linter.unusedSectionVars false
set_option linter.unusedVariables false
set_option linter.unusedSimpArgs false
set_option maxRecDepth 1000000
namespace Go.Proofs.YtnkeadjkckpknaaGreatDoor
variable [Ev.GTab] [Ev.SymC Tryz.prog 202 25]
def tk1rn : List Nat := [3537, 3978, 3808, 3914, 3967, 3956]
def tk1p : Ev.AVal := (.tuple [(.agg [(.slice 0 0 5 5 true), (.slice 1 0 1 5 false), (.int .i64 (.ofNat 0)), .nilSlice, (.slice 5 0 4 1 false)]), (.agg [(.int .i64 (.ofNat 0)), (.int .i64 (.ofNat 0))]), (.int .i64 (.ofNat 0))])
def tk1objs : List (List Ev.AVal) := [[(.int .i64 (.ofNat 0)), (.str 0 0), (.int .i64 (.ofNat 0)), .nilSlice, .nilSlice, (.int .i64 (.ofNat 1)), (.str 3 6909556), (.int .i64 (.ofNat 0)), .nilSlice, .nilSlice, (.int .i64 (.ofNat 2)), (.str 4 1651470188), (.int .i64 (.ofNat 0)), .nilSlice, .nilSlice, (.int .i64 (.ofNat 3)), (.str 6 126943972912743), (.int .i64 (.ofNat 0)), .nilSlice, .nilSlice, (.int .i64 (.ofNat 4)), (.str 3 7235948), (.int .i64 (.ofNat 0)), .nilSlice, .nilSlice],
 [(.str 4 1835100526), (.slice 2 0 0 1 true), (.int .i64 (.ofNat 0)), (.slice 3 0 1 1 false), (.slice 4 0 11 3 false)],
 [],
 [(.int .i64 (.ofNat 1))],
 [(.int .i64 (.ofNat 1)), (.int .i64 (.ofNat 0)), (.int .i64 (.ofNat 0)), (.int .i64 (.ofNat 1)), (.int .i64 (.ofNat 1)), (.int .i64 (.ofNat 0)), (.int .i64 (.ofNat 11)), (.int .i64 (.ofNat 0)), (.int .i64 (.ofNat 0)), (.int .i64 (.ofNat 39)), (.int .i64 (.ofNat 1)), (.int .i64 (.ofNat 0)), (.int .i64 (.ofNat 1)), (.int .i64 (.ofNat 2)), (.int .i64 (.ofNat 0)), (.int .i64 (.ofNat 6)), (.int .i64 (.ofNat 0)), (.int .i64 (.ofNat 0)), (.int .i64 (.ofNat 1)), (.int .i64 (.ofNat 3)), (.int .i64 (.ofNat 0)), (.int .i64 (.ofNat 5)), (.int .i64 (.ofNat 0)), (.int .i64 (.ofNat 0)), (.int .i64 (.ofNat 11)), (.int .i64 (.ofNat 0)), (.int .i64 (.ofNat 0)), (.int .i64 (.ofNat 39)), (.int .i64 (.ofNat 1)), (.int .i64 (.ofNat 0)), (.int .i64 (.ofNat 41)), (.int .i64 (.ofNat 0)), (.int .i64 (.ofNat 0))],
 [(.int .i64 (.ofNat 7)), (.int .i64 (.ofNat 2)), (.int .i64 (.ofNat 0)), (.int .i64 (.ofNat 1))]]
theorem tk1Ran : Ev.runI Tryz.prog w0 14 1000 [(.str 50 1033492210672388345219417039096488388696520174773593067419824378770580521605112316431476701700454448680846536778847953021)] tk1rn tk1p tk1objs = true := by kernel_rfl
noncomputable def tk1 : Ev.Wr := Ev.impW 14 [(.str 50 1033492210672388345219417039096488388696520174773593067419824378770580521605112316431476701700454448680846536778847953021)] tk1p tk1objs w0
theorem tk1_ok : Ev.WrOK Tryz.prog tk1 := Ev.Wa qy Wm (by kernel_rfl) (by kernel_rfl) (by kernel_rfl) tk1Ran
end Go.Proofs.YtnkeadjkckpknaaGreatDoor
namespace Go.Proofs.YtnkeadjkckpknaaGreatDoor
variable [Ev.GTab] [Ev.SymC Tryz.prog 202 25]
def tk2rn : List Nat := [2820, 3144, 3052, 3078, 3107, 3133]
def tk2p : Ev.AVal := (.tuple [(.agg [(.slice 0 0 5 5 true), (.slice 1 0 2 5 false), (.int .i64 (.ofNat 1)), .nilSlice, .nilSlice]), (.agg [(.int .i64 (.ofNat 0)), (.int .i64 (.ofNat 0))]), (.int .i64 (.ofNat 0))])
def tk2objs : List (List Ev.AVal) := [[(.int .i64 (.ofNat 0)), (.str 0 0), (.int .i64 (.ofNat 0)), .nilSlice, .nilSlice, (.int .i64 (.ofNat 1)), (.str 3 6909556), (.int .i64 (.ofNat 0)), .nilSlice, .nilSlice, (.int .i64 (.ofNat 2)), (.str 4 1651470188), (.int .i64 (.ofNat 0)), .nilSlice, .nilSlice, (.int .i64 (.ofNat 3)), (.str 6 126943972912743), (.int .i64 (.ofNat 0)), .nilSlice, .nilSlice, (.int .i64 (.ofNat 4)), (.str 3 7235948), (.int .i64 (.ofNat 0)), .nilSlice, .nilSlice],
 [(.str 1 102), (.slice 2 0 0 1 true), (.int .i64 (.ofNat 0)), .nilSlice, (.slice 3 0 2 3 false), (.str 4 1835100526), (.slice 4 0 0 1 true), (.int .i64 (.ofNat 0)), .nilSlice, (.slice 5 0 2 3 false)],
 [],
 [(.int .i64 (.ofNat 36)), (.int .i64 (.ofNat 0)), (.int .i64 (.ofNat 0)), (.int .i64 (.ofNat 41)), (.int .i64 (.ofNat 0)), (.int .i64 (.ofNat 0))],
 [],
 [(.int .i64 (.ofNat 36)), (.int .i64 (.ofNat 0)), (.int .i64 (.ofNat 0)), (.int .i64 (.ofNat 41)), (.int .i64 (.ofNat 0)), (.int .i64 (.ofNat 0))]]
theorem tk2Ran : Ev.runI Tryz.prog tk1 14 1000 [(.str 37 50955100053114539398527871687720143484427012428097655939383349917314918759878718395064445)] tk2rn tk2p tk2objs = true := by kernel_rfl
noncomputable def tk2 : Ev.Wr := Ev.impW 14 [(.str 37 50955100053114539398527871687720143484427012428097655939383349917314918759878718395064445)] tk2p tk2objs tk1
theorem tk2_ok : Ev.WrOK Tryz.prog tk2 := Ev.Wa qy tk1_ok (by kernel_rfl) (by kernel_rfl) (by kernel_rfl) tk2Ran
end Go.Proofs.YtnkeadjkckpknaaGreatDoor
namespace Go.Proofs.YtnkeadjkckpknaaGreatDoor
variable [Ev.GTab] [Ev.SymC Tryz.prog 202 25]
theorem knRan : Ev.Yc Tryz.prog tk2 10 1000 [] = true := by kernel_rfl
end Go.Proofs.YtnkeadjkckpknaaGreatDoor
