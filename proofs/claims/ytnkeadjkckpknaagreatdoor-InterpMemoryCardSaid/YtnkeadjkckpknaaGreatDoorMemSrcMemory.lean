/-
  Own work. A program's text, compiled, verified and copied: what the evaluator's runs come to, in the kernel. No condition.
-/
import Derived.Test.YtnkeadjkckpknaaGreatDoorMem6
set_option linter.unusedSectionVars false
set_option linter.unusedVariables false
set_option linter.unusedSimpArgs false
set_option maxRecDepth 1000000
namespace Go.Vs
open Go Go.Proofs Go.Bridge Go.Proofs.YtnkeadjkckpknaaGreatDoor
variable [Ev.GTab] [Ev.SymC Tryz.prog 202 25] [GTab]
def cellsMemory (c : List Ins) : List Ev.AVal := c.flatMap fun x => [.int .i64 x.1, .int .i64 x.2.1, .int .i64 x.2.2]
def cMemory : List (List Ins) := [[(40, 0, 0), (6, 0, 0), (1, 0, 0), (6, 1, 0), (5, 0, 0), (35, 5, 0), (6, 2, 0), (5, 1, 0), (1, 1, 0), (8, 0, 0), (5, 2, 0), (33, 0, 0), (8, 0, 0), (5, 0, 0), (9, 0, 0), (6, 1, 0), (5, 1, 0), (39, 1, 0), (26, 4, 0), (41, 0, 0)]]
def nMemory : List Int := [0, 1]
def xMemory : SrcB where
 objs := [[(.int .i64 (.ofNat 0)), (.str 0 0), (.int .i64 (.ofNat 0)), .nilSlice, .nilSlice, (.int .i64 (.ofNat 1)), (.str 3 6909556), (.int .i64 (.ofNat 0)), .nilSlice, .nilSlice, (.int .i64 (.ofNat 2)), (.str 4 1651470188), (.int .i64 (.ofNat 0)), .nilSlice, .nilSlice, (.int .i64 (.ofNat 3)), (.str 6 126943972912743), (.int .i64 (.ofNat 0)), .nilSlice, .nilSlice, (.int .i64 (.ofNat 4)), (.str 3 7235948), (.int .i64 (.ofNat 0)), .nilSlice, .nilSlice, (.int .i64 (.ofNat 6)), (.str 0 0), (.int .i64 (.ofNat 1)), .nilSlice, .nilSlice],
 [(.str 4 1835100526), (.slice 2 0 0 1 true), (.int .i64 (.ofNat 0)), (.slice 3 0 3 1 false), (.slice 4 0 20 3 false)],
 [],
 [(.int .i64 (.ofNat 1)), (.int .i64 (.ofNat 1)), (.int .i64 (.ofNat 5))],
 cellsMemory (cMemory.getD 0 []),
 [(.int .i64 (.ofNat 0)), (.int .i64 (.ofNat 1))]]
 rn := [7644, 8404, 8097, 8192, 8393, 8333]
 objs2 := [[(.int .i64 (.ofNat 0)), (.str 0 0), (.int .i64 (.ofNat 0)), (.slice 7 0 0 2 true), (.slice 8 0 0 4 true), (.int .i64 (.ofNat 1)), (.str 3 6909556), (.int .i64 (.ofNat 0)), (.slice 9 0 0 2 true), (.slice 10 0 0 4 true), (.int .i64 (.ofNat 2)), (.str 4 1651470188), (.int .i64 (.ofNat 0)), (.slice 11 0 0 2 true), (.slice 12 0 0 4 true), (.int .i64 (.ofNat 3)), (.str 6 126943972912743), (.int .i64 (.ofNat 0)), (.slice 13 0 0 2 true), (.slice 14 0 0 4 true), (.int .i64 (.ofNat 4)), (.str 3 7235948), (.int .i64 (.ofNat 0)), (.slice 15 0 0 2 true), (.slice 16 0 0 4 true), (.int .i64 (.ofNat 6)), (.str 0 0), (.int .i64 (.ofNat 1)), (.slice 17 0 0 2 true), (.slice 18 0 0 4 true)],
 [],
 [],
 [],
 [],
 [],
 [],
 [],
 [],
 [],
 [],
 [],
 [],
 [(.str 4 1835100526), (.slice 20 0 0 1 true), (.int .i64 (.ofNat 0)), (.slice 21 0 3 1 false), (.slice 22 0 20 3 false)],
 [],
 [(.int .i64 (.ofNat 1)), (.int .i64 (.ofNat 1)), (.int .i64 (.ofNat 5))],
 cellsMemory (cMemory.getD 0 []),
 [],
 [(.int .i64 (.ofNat 0)), (.int .i64 (.ofNat 1))]]
 rn2 := [111, 23, 27, 38, 42, 53, 57, 68, 72, 83, 87, 98, 102, 134, 113, 131, 132, 10, 21]
 tb := 0
 nt := 6
 tf := false
 fb := 1
 nf := 1
 ff := false
 main := 0
 p4 := (.slice 5 0 2 1 false)
 q0 := (.slice 6 0 6 5 false)
 fb2 := 19
 ff2 := false
 q3 := (.slice 23 0 0 1 true)
 nb2 := 24
 nf2 := false
 lv := .und
 nl := 3
 code := cMemory
 nums := nMemory
theorem r1Memory : runJ Tryz.prog w0 14 1000 [.str 99 10424746621142751768989753515144094007363771752995500549102817191830636513450511342128802261554031971393299214113148613040666036362706532147176075750871020269573284005100229118405053263527480381896445828388534759193309929512211465692323965] [] xMemory.objs xMemory.rn (.tuple [.agg xMemory.p, .agg [.int .i64 0, .int .i64 0], .int .i64 0]) = true := by kernel_rfl
theorem r2Memory : runJ Tryz.prog w0 28 1000 [.agg xMemory.p] xMemory.objs [] (List.range xMemory.objs.length) (.tuple [.agg [.int .i64 0, .int .i64 0], .int .i64 0]) = true := by kernel_rfl
theorem r3Memory : runJ Tryz.prog w0 29 1000 [.agg xMemory.p] xMemory.objs xMemory.objs2 (List.range xMemory.objs.length ++ xMemory.rn2) (.agg xMemory.q) = true := by kernel_rfl
theorem okMemory : xMemory.okB = true := by kernel_rfl
theorem bkMemory : (xMemory.p.all (backB xMemory.objs.length)) = true := by kernel_rfl
def sMemory : List UInt8 := [102, 117, 110, 99, 32, 109, 97, 105, 110, 40, 41, 32, 123, 32, 110, 32, 58, 61, 32, 105, 110, 112, 117, 116, 40, 41, 59, 32, 105, 32, 58, 61, 32, 48, 59, 32, 102, 111, 114, 32, 123, 32, 120, 32, 58, 61, 32, 109, 97, 107, 101, 40, 91, 93, 105, 110, 116, 44, 32, 110, 41, 59, 32, 105, 32, 61, 32, 105, 32, 43, 32, 49, 32, 43, 32, 108, 101, 110, 40, 120, 41, 32, 45, 32, 110, 59, 32, 112, 114, 105, 110, 116, 40, 105, 41, 32, 125, 32, 125]
theorem dMemory : Ev.digs 99 10424746621142751768989753515144094007363771752995500549102817191830636513450511342128802261554031971393299214113148613040666036362706532147176075750871020269573284005100229118405053263527480381896445828388534759193309929512211465692323965 = sMemory := by kernel_rfl
theorem srcMemory (hg0 : ∀ q, Ev.GTab.tab q = none) (hg1 : ∀ q o', Ev.GTab.blk q = some o' → GTab.blk q = some o') : SrcOK sMemory (codeL cMemory) (numsL nMemory) 3 0 := by
 rw [← dMemory]
 exact src_ok hg0 hg1 xMemory okMemory bkMemory r1Memory r2Memory r3Memory (by decide +kernel)
end Go.Vs
