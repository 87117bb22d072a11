/-
  Own work. A program's text, compiled, verified and copied: what the evaluator's runs come to, in the kernel. No condition.
-/
import Derived.Test.YtnkeadjkckpknaaGreatDoorSlc6
set_option linter.unusedSectionVars false
set_option linter.unusedVariables false
set_option linter.unusedSimpArgs false
set_option maxRecDepth 1000000
namespace Go.Vs
open Go Go.Proofs Go.Bridge Go.Proofs.YtnkeadjkckpknaaGreatDoor
variable [Ev.GTab] [Ev.SymC Tryz.prog 202 25] [GTab]
def cellsSlices (c : List Ins) : List Ev.AVal := c.flatMap fun x => [.int .i64 x.1, .int .i64 x.2.1, .int .i64 x.2.2]
def cSlices : List (List Ins) := [[(40, 0, 0), (6, 0, 0), (5, 0, 0), (35, 5, 0), (6, 1, 0), (1, 0, 0), (6, 2, 0), (5, 2, 0), (5, 0, 0), (17, 0, 0), (27, 20, 0), (5, 1, 0), (5, 2, 0), (40, 0, 0), (31, 0, 0), (5, 2, 0), (1, 1, 0), (8, 0, 0), (6, 2, 0), (26, 7, 0), (1, 1, 0), (6, 2, 0), (5, 2, 0), (5, 0, 0), (17, 0, 0), (27, 72, 0), (5, 2, 0), (6, 3, 0), (5, 3, 0), (1, 0, 0), (19, 0, 0), (27, 42, 0), (5, 1, 0), (5, 3, 0), (30, 0, 0), (5, 1, 0), (5, 3, 0), (1, 1, 0), (9, 0, 0), (30, 0, 0), (17, 0, 0), (26, 43, 0), (2, 0, 0), (27, 67, 0), (5, 1, 0), (5, 3, 0), (30, 0, 0), (6, 4, 0), (5, 1, 0), (5, 3, 0), (5, 1, 0), (5, 3, 0), (1, 1, 0), (9, 0, 0), (30, 0, 0), (31, 0, 0), (5, 1, 0), (5, 3, 0), (1, 1, 0), (9, 0, 0), (5, 4, 0), (31, 0, 0), (5, 3, 0), (1, 1, 0), (9, 0, 0), (6, 3, 0), (26, 28, 0), (5, 2, 0), (1, 1, 0), (8, 0, 0), (6, 2, 0), (26, 22, 0), (1, 0, 0), (6, 2, 0), (5, 2, 0), (5, 0, 0), (17, 0, 0), (27, 87, 0), (5, 1, 0), (5, 2, 0), (30, 0, 0), (39, 1, 0), (5, 2, 0), (1, 1, 0), (8, 0, 0), (6, 2, 0), (26, 74, 0), (41, 0, 0)]]
def nSlices : List Int := [0, 1]
def xSlices : SrcB where
 objs := [[(.int .i64 (.ofNat 0)), (.str 0 0), (.int .i64 (.ofNat 0)), .nilSlice, .nilSlice, (.int .i64 (.ofNat 1)), (.str 3 6909556), (.int .i64 (.ofNat 0)), .nilSlice, .nilSlice, (.int .i64 (.ofNat 2)), (.str 4 1651470188), (.int .i64 (.ofNat 0)), .nilSlice, .nilSlice, (.int .i64 (.ofNat 3)), (.str 6 126943972912743), (.int .i64 (.ofNat 0)), .nilSlice, .nilSlice, (.int .i64 (.ofNat 4)), (.str 3 7235948), (.int .i64 (.ofNat 0)), .nilSlice, .nilSlice, (.int .i64 (.ofNat 6)), (.str 0 0), (.int .i64 (.ofNat 1)), .nilSlice, .nilSlice],
 [(.str 4 1835100526), (.slice 2 0 0 1 true), (.int .i64 (.ofNat 0)), (.slice 3 0 5 1 false), (.slice 4 0 88 3 false)],
 [],
 [(.int .i64 (.ofNat 1)), (.int .i64 (.ofNat 5)), (.int .i64 (.ofNat 1)), (.int .i64 (.ofNat 1)), (.int .i64 (.ofNat 1))],
 cellsSlices (cSlices.getD 0 []),
 [(.int .i64 (.ofNat 0)), (.int .i64 (.ofNat 1))]]
 rn := [23435, 27337, 26106, 26745, 27326, 26366]
 objs2 := [[(.int .i64 (.ofNat 0)), (.str 0 0), (.int .i64 (.ofNat 0)), (.slice 7 0 0 2 true), (.slice 8 0 0 4 true), (.int .i64 (.ofNat 1)), (.str 3 6909556), (.int .i64 (.ofNat 0)), (.slice 9 0 0 2 true), (.slice 10 0 0 4 true), (.int .i64 (.ofNat 2)), (.str 4 1651470188), (.int .i64 (.ofNat 0)), (.slice 11 0 0 2 true), (.slice 12 0 0 4 true), (.int .i64 (.ofNat 3)), (.str 6 126943972912743), (.int .i64 (.ofNat 0)), (.slice 13 0 0 2 true), (.slice 14 0 0 4 true), (.int .i64 (.ofNat 4)), (.str 3 7235948), (.int .i64 (.ofNat 0)), (.slice 15 0 0 2 true), (.slice 16 0 0 4 true), (.int .i64 (.ofNat 6)), (.str 0 0), (.int .i64 (.ofNat 1)), (.slice 17 0 0 2 true), (.slice 18 0 0 4 true)],
 [],
 [],
 [],
 [],
 [],
 [],
 [],
 [],
 [],
 [],
 [],
 [],
 [(.str 4 1835100526), (.slice 20 0 0 1 true), (.int .i64 (.ofNat 0)), (.slice 21 0 5 1 false), (.slice 22 0 88 3 false)],
 [],
 [(.int .i64 (.ofNat 1)), (.int .i64 (.ofNat 5)), (.int .i64 (.ofNat 1)), (.int .i64 (.ofNat 1)), (.int .i64 (.ofNat 1))],
 cellsSlices (cSlices.getD 0 []),
 [],
 [(.int .i64 (.ofNat 0)), (.int .i64 (.ofNat 1))]]
 rn2 := [111, 23, 27, 38, 42, 53, 57, 68, 72, 83, 87, 98, 102, 134, 113, 131, 132, 10, 21]
 tb := 0
 nt := 6
 tf := false
 fb := 1
 nf := 1
 ff := false
 main := 0
 p4 := (.slice 5 0 2 1 false)
 q0 := (.slice 6 0 6 5 false)
 fb2 := 19
 ff2 := false
 q3 := (.slice 23 0 0 1 true)
 nb2 := 24
 nf2 := false
 lv := .und
 nl := 5
 code := cSlices
 nums := nSlices
theorem r1Slices : runJ Tryz.prog w0 14 1000 [.str 265 61080101459818918905149697690027361032792372575425975617744682634809362184985853647374162225034295021766882084275100470174625061929799016772761415529368557129744325906283718249307296628129741921692373882424603154708242701707966114803325187432747764619760960245534125467791824975486065830385772360053657393869492797522653680513879337476766005057485094742892721675408748343288043625624969524294166525500489889679300162724290423506146827926169566267464077509507226529953591158347816963962249529967754562949663218643270147622283345813169389119356813941783328697361413204139963279518252119725950938696767979054486245711275658807699150326276221] [] xSlices.objs xSlices.rn (.tuple [.agg xSlices.p, .agg [.int .i64 0, .int .i64 0], .int .i64 0]) = true := by kernel_rfl
theorem r2Slices : runJ Tryz.prog w0 28 1000 [.agg xSlices.p] xSlices.objs [] (List.range xSlices.objs.length) (.tuple [.agg [.int .i64 0, .int .i64 0], .int .i64 0]) = true := by kernel_rfl
theorem r3Slices : runJ Tryz.prog w0 29 1000 [.agg xSlices.p] xSlices.objs xSlices.objs2 (List.range xSlices.objs.length ++ xSlices.rn2) (.agg xSlices.q) = true := by kernel_rfl
theorem okSlices : xSlices.okB = true := by kernel_rfl
theorem bkSlices : (xSlices.p.all (WW xSlices.objs.length)) = true := by kernel_rfl
def sSlices : List UInt8 := [102, 117, 110, 99, 32, 109, 97, 105, 110, 40, 41, 32, 123, 32, 110, 32, 58, 61, 32, 105, 110, 112, 117, 116, 40, 41, 59, 32, 115, 32, 58, 61, 32, 109, 97, 107, 101, 40, 91, 93, 105, 110, 116, 44, 32, 110, 41, 59, 32, 105, 32, 58, 61, 32, 48, 59, 32, 102, 111, 114, 32, 105, 32, 60, 32, 110, 32, 123, 32, 115, 91, 105, 93, 32, 61, 32, 105, 110, 112, 117, 116, 40, 41, 59, 32, 105, 32, 61, 32, 105, 32, 43, 32, 49, 32, 125, 10, 105, 32, 61, 32, 49, 10, 102, 111, 114, 32, 105, 32, 60, 32, 110, 32, 123, 32, 106, 32, 58, 61, 32, 105, 59, 32, 102, 111, 114, 32, 106, 32, 62, 32, 48, 32, 38, 38, 32, 115, 91, 106, 93, 32, 60, 32, 115, 91, 106, 32, 45, 32, 49, 93, 32, 123, 32, 120, 32, 58, 61, 32, 115, 91, 106, 93, 59, 32, 115, 91, 106, 93, 32, 61, 32, 115, 91, 106, 32, 45, 32, 49, 93, 59, 32, 115, 91, 106, 32, 45, 32, 49, 93, 32, 61, 32, 120, 59, 32, 106, 32, 61, 32, 106, 32, 45, 32, 49, 32, 125, 59, 32, 105, 32, 61, 32, 105, 32, 43, 32, 49, 32, 125, 10, 105, 32, 61, 32, 48, 10, 102, 111, 114, 32, 105, 32, 60, 32, 110, 32, 123, 32, 112, 114, 105, 110, 116, 40, 115, 91, 105, 93, 41, 59, 32, 105, 32, 61, 32, 105, 32, 43, 32, 49, 32, 125, 32, 125]
theorem dSlices : Ev.digs 265 61080101459818918905149697690027361032792372575425975617744682634809362184985853647374162225034295021766882084275100470174625061929799016772761415529368557129744325906283718249307296628129741921692373882424603154708242701707966114803325187432747764619760960245534125467791824975486065830385772360053657393869492797522653680513879337476766005057485094742892721675408748343288043625624969524294166525500489889679300162724290423506146827926169566267464077509507226529953591158347816963962249529967754562949663218643270147622283345813169389119356813941783328697361413204139963279518252119725950938696767979054486245711275658807699150326276221 = sSlices := by kernel_rfl
theorem srcSlices (hg0 : ∀ q, Ev.GTab.tab q = none) (hg1 : ∀ q o', Ev.GTab.blk q = some o' → GTab.blk q = some o') : qar sSlices (JN cSlices) (Vq nSlices) 5 0 := by
 rw [← dSlices]
 exact qgx hg0 hg1 xSlices okSlices bkSlices r1Slices r2Slices r3Slices (by decide +kernel)
end Go.Vs
