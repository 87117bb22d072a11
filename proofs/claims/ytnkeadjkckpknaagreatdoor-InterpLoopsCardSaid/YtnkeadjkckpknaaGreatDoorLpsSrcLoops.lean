/-
  Own work. A program's text, compiled, verified and copied: what the evaluator's runs come to, in the kernel. No condition.
-/
import Derived.Test.YtnkeadjkckpknaaGreatDoorLps6
set_option linter.unusedSectionVars false
set_option linter.unusedVariables false
set_option linter.unusedSimpArgs false
set_option maxRecDepth 1000000
namespace Go.Vs
open Go Go.Proofs Go.Bridge Go.Proofs.YtnkeadjkckpknaaGreatDoor
variable [Ev.GTab] [Ev.SymC Tryz.prog 202 25] [GTab]
def cellsLoops (c : List Ins) : List Ev.AVal := c.flatMap fun x => [.int .i64 x.1, .int .i64 x.2.1, .int .i64 x.2.2]
def cLoops : List (List Ins) := [[(40, 0, 0), (6, 0, 0), (40, 0, 0), (6, 1, 0), (40, 0, 0), (6, 2, 0), (1, 0, 0), (6, 3, 0), (5, 3, 0), (5, 0, 0), (17, 0, 0), (27, 42, 0), (5, 3, 0), (1, 1, 0), (8, 0, 0), (6, 3, 0), (1, 0, 0), (6, 4, 0), (5, 4, 0), (1, 1, 0), (8, 0, 0), (6, 4, 0), (5, 4, 0), (5, 1, 0), (19, 0, 0), (27, 27, 0), (26, 41, 0), (5, 3, 0), (5, 4, 0), (10, 0, 0), (5, 2, 0), (15, 0, 0), (27, 34, 0), (26, 18, 0), (1, 2, 0), (5, 3, 0), (10, 0, 0), (5, 4, 0), (8, 0, 0), (39, 1, 0), (26, 18, 0), (26, 8, 0), (41, 0, 0)]]
def nLoops : List Int := [0, 1, 10]
def xLoops : SrcB where
 objs := [[(.int .i64 (.ofNat 0)), (.str 0 0), (.int .i64 (.ofNat 0)), .nilSlice, .nilSlice, (.int .i64 (.ofNat 1)), (.str 3 6909556), (.int .i64 (.ofNat 0)), .nilSlice, .nilSlice, (.int .i64 (.ofNat 2)), (.str 4 1651470188), (.int .i64 (.ofNat 0)), .nilSlice, .nilSlice, (.int .i64 (.ofNat 3)), (.str 6 126943972912743), (.int .i64 (.ofNat 0)), .nilSlice, .nilSlice, (.int .i64 (.ofNat 4)), (.str 3 7235948), (.int .i64 (.ofNat 0)), .nilSlice, .nilSlice],
 [(.str 4 1835100526), (.slice 2 0 0 1 true), (.int .i64 (.ofNat 0)), (.slice 3 0 5 1 false), (.slice 4 0 43 3 false)],
 [],
 [(.int .i64 (.ofNat 1)), (.int .i64 (.ofNat 1)), (.int .i64 (.ofNat 1)), (.int .i64 (.ofNat 1)), (.int .i64 (.ofNat 1))],
 cellsLoops (cLoops.getD 0 []),
 [(.int .i64 (.ofNat 0)), (.int .i64 (.ofNat 1)), (.int .i64 (.ofNat 10))]]
 rn := [13169, 15170, 14509, 14741, 15159, 15061]
 objs2 := [[(.int .i64 (.ofNat 0)), (.str 0 0), (.int .i64 (.ofNat 0)), (.slice 7 0 0 2 true), (.slice 8 0 0 4 true), (.int .i64 (.ofNat 1)), (.str 3 6909556), (.int .i64 (.ofNat 0)), (.slice 9 0 0 2 true), (.slice 10 0 0 4 true), (.int .i64 (.ofNat 2)), (.str 4 1651470188), (.int .i64 (.ofNat 0)), (.slice 11 0 0 2 true), (.slice 12 0 0 4 true), (.int .i64 (.ofNat 3)), (.str 6 126943972912743), (.int .i64 (.ofNat 0)), (.slice 13 0 0 2 true), (.slice 14 0 0 4 true), (.int .i64 (.ofNat 4)), (.str 3 7235948), (.int .i64 (.ofNat 0)), (.slice 15 0 0 2 true), (.slice 16 0 0 4 true)],
 [],
 [],
 [],
 [],
 [],
 [],
 [],
 [],
 [],
 [],
 [(.str 4 1835100526), (.slice 18 0 0 1 true), (.int .i64 (.ofNat 0)), (.slice 19 0 5 1 false), (.slice 20 0 43 3 false)],
 [],
 [(.int .i64 (.ofNat 1)), (.int .i64 (.ofNat 1)), (.int .i64 (.ofNat 1)), (.int .i64 (.ofNat 1)), (.int .i64 (.ofNat 1))],
 cellsLoops (cLoops.getD 0 []),
 [],
 [(.int .i64 (.ofNat 0)), (.int .i64 (.ofNat 1)), (.int .i64 (.ofNat 10))]]
 rn2 := [96, 23, 27, 38, 42, 53, 57, 68, 72, 83, 87, 119, 98, 116, 117, 10, 21]
 tb := 0
 nt := 5
 tf := true
 fb := 1
 nf := 1
 ff := false
 main := 0
 p4 := (.slice 5 0 3 1 false)
 q0 := (.slice 6 0 5 5 false)
 fb2 := 17
 ff2 := false
 q3 := (.slice 21 0 0 1 true)
 nb2 := 22
 nf2 := false
 lv := .und
 nl := 5
 code := cLoops
 nums := nLoops
theorem r1Loops : runJ Tryz.prog w0 14 1000 [.str 183 204278468960590992468330899509139241668477697296059232200702370850436650863944666202857663278913797793197302418654212056310481165948652593398011739098710898590144300015698223385972577834797635204064339341239103026119746392258083861726007103566337941444331035015359445168211092716290179146360601580939845129383824869545783419115837803166224787895598599154645648628895773670206222957473270112075331171966294521288687501768380120257383934795901] [] xLoops.objs xLoops.rn (.tuple [.agg xLoops.p, .agg [.int .i64 0, .int .i64 0], .int .i64 0]) = true := by kernel_rfl
theorem r2Loops : runJ Tryz.prog w0 28 1000 [.agg xLoops.p] xLoops.objs [] (List.range xLoops.objs.length) (.tuple [.agg [.int .i64 0, .int .i64 0], .int .i64 0]) = true := by kernel_rfl
theorem r3Loops : runJ Tryz.prog w0 29 1000 [.agg xLoops.p] xLoops.objs xLoops.objs2 (List.range xLoops.objs.length ++ xLoops.rn2) (.agg xLoops.q) = true := by kernel_rfl
theorem okLoops : xLoops.okB = true := by kernel_rfl
theorem bkLoops : (xLoops.p.all (backB xLoops.objs.length)) = true := by kernel_rfl
def sLoops : List UInt8 := [102, 117, 110, 99, 32, 109, 97, 105, 110, 40, 41, 32, 123, 32, 97, 32, 58, 61, 32, 105, 110, 112, 117, 116, 40, 41, 59, 32, 98, 32, 58, 61, 32, 105, 110, 112, 117, 116, 40, 41, 59, 32, 99, 32, 58, 61, 32, 105, 110, 112, 117, 116, 40, 41, 59, 32, 105, 32, 58, 61, 32, 48, 59, 32, 102, 111, 114, 32, 105, 32, 60, 32, 97, 32, 123, 32, 105, 32, 61, 32, 105, 32, 43, 32, 49, 59, 32, 106, 32, 58, 61, 32, 48, 59, 32, 102, 111, 114, 32, 123, 32, 106, 32, 61, 32, 106, 32, 43, 32, 49, 59, 32, 105, 102, 32, 106, 32, 62, 32, 98, 32, 123, 32, 98, 114, 101, 97, 107, 32, 125, 59, 32, 105, 102, 32, 105, 32, 42, 32, 106, 32, 61, 61, 32, 99, 32, 123, 32, 99, 111, 110, 116, 105, 110, 117, 101, 32, 125, 59, 32, 112, 114, 105, 110, 116, 40, 49, 48, 32, 42, 32, 105, 32, 43, 32, 106, 41, 32, 125, 32, 125, 32, 125]
theorem dLoops : Ev.digs 183 204278468960590992468330899509139241668477697296059232200702370850436650863944666202857663278913797793197302418654212056310481165948652593398011739098710898590144300015698223385972577834797635204064339341239103026119746392258083861726007103566337941444331035015359445168211092716290179146360601580939845129383824869545783419115837803166224787895598599154645648628895773670206222957473270112075331171966294521288687501768380120257383934795901 = sLoops := by kernel_rfl
theorem srcLoops (hg0 : ∀ q, Ev.GTab.tab q = none) (hg1 : ∀ q o', Ev.GTab.blk q = some o' → GTab.blk q = some o') : SrcOK sLoops (codeL cLoops) (numsL nLoops) 5 0 := by
 rw [← dLoops]
 exact src_ok hg0 hg1 xLoops okLoops bkLoops r1Loops r2Loops r3Loops (by decide +kernel)
end Go.Vs
