/-
  Own work. A program's text, compiled, verified and copied: what the evaluator's runs come to, in the kernel. No condition.
-/
import Derived.Test.YtnkeadjkckpknaaGreatDoorDps6
import Derived.Test.YtnkeadjkckpknaaGreatDoorDpsMSrcD
set_option linter.unusedSectionVars false
set_option linter.unusedVariables false
set_option linter.unusedSimpArgs false
set_option maxRecDepth 1000000
namespace Go.Vs
open Go Go.Proofs Go.Bridge Go.Proofs.YtnkeadjkckpknaaGreatDoor
variable [Ev.GTab] [Ev.SymC Tryz.prog 202 25] [GTab]
def cellsDeep (c : List Ins) : List Ev.AVal := c.flatMap fun x => [.int .i64 x.1, .int .i64 x.2.1, .int .i64 x.2.2]
def cDeep : List (List Ins) := [[(5, 0, 0), (1, 0, 0), (15, 0, 0), (27, 5, 0), (26, 4, 0), (5, 0, 0), (5, 0, 0), (1, 1, 0), (9, 0, 0), (5, 1, 0), (36, 0, 2), (8, 0, 0), (41, 1, 0), (26, 13, 0)], [(40, 0, 0), (1, 2, 0), (36, 0, 2), (39, 1, 0), (41, 0, 0)]]
def nDeep : List Int := [0, 1, 7]
def xDeep : SrcB where
 objs := [[(.int .i64 (.ofNat 0)), (.str 0 0), (.int .i64 (.ofNat 0)), .nilSlice, .nilSlice, (.int .i64 (.ofNat 1)), (.str 3 6909556), (.int .i64 (.ofNat 0)), .nilSlice, .nilSlice, (.int .i64 (.ofNat 2)), (.str 4 1651470188), (.int .i64 (.ofNat 0)), .nilSlice, .nilSlice, (.int .i64 (.ofNat 3)), (.str 6 126943972912743), (.int .i64 (.ofNat 0)), .nilSlice, .nilSlice, (.int .i64 (.ofNat 4)), (.str 3 7235948), (.int .i64 (.ofNat 0)), .nilSlice, .nilSlice],
 [(.str 1 102), (.slice 2 0 2 1 false), (.int .i64 (.ofNat 1)), (.slice 3 0 2 1 false), (.slice 4 0 14 3 false), (.str 4 1835100526), (.slice 5 0 0 1 true), (.int .i64 (.ofNat 0)), .nilSlice, (.slice 6 0 5 3 false)],
 [(.int .i64 (.ofNat 1)), (.int .i64 (.ofNat 1))],
 [(.int .i64 (.ofNat 1)), (.int .i64 (.ofNat 1))],
 cellsDeep (cDeep.getD 0 []),
 [],
 cellsDeep (cDeep.getD 1 []),
 [(.int .i64 (.ofNat 0)), (.int .i64 (.ofNat 1)), (.int .i64 (.ofNat 7))]]
 rn := [7004, 8159, 7765, 7797, 8051, 8080, 8148, 8140]
 objs2 := [[(.int .i64 (.ofNat 0)), (.str 0 0), (.int .i64 (.ofNat 0)), (.slice 9 0 0 2 true), (.slice 10 0 0 4 true), (.int .i64 (.ofNat 1)), (.str 3 6909556), (.int .i64 (.ofNat 0)), (.slice 11 0 0 2 true), (.slice 12 0 0 4 true), (.int .i64 (.ofNat 2)), (.str 4 1651470188), (.int .i64 (.ofNat 0)), (.slice 13 0 0 2 true), (.slice 14 0 0 4 true), (.int .i64 (.ofNat 3)), (.str 6 126943972912743), (.int .i64 (.ofNat 0)), (.slice 15 0 0 2 true), (.slice 16 0 0 4 true), (.int .i64 (.ofNat 4)), (.str 3 7235948), (.int .i64 (.ofNat 0)), (.slice 17 0 0 2 true), (.slice 18 0 0 4 true)],
 [],
 [],
 [],
 [],
 [],
 [],
 [],
 [],
 [],
 [],
 [(.str 1 102), (.slice 20 0 2 1 false), (.int .i64 (.ofNat 1)), (.slice 21 0 2 1 false), (.slice 22 0 14 3 false), (.str 4 1835100526), (.slice 23 0 0 1 true), (.int .i64 (.ofNat 0)), (.slice 24 0 0 1 true), (.slice 25 0 5 3 false)],
 [(.int .i64 (.ofNat 1)), (.int .i64 (.ofNat 1))],
 [(.int .i64 (.ofNat 1)), (.int .i64 (.ofNat 1))],
 cellsDeep (cDeep.getD 0 []),
 [],
 [],
 cellsDeep (cDeep.getD 1 []),
 [],
 [(.int .i64 (.ofNat 0)), (.int .i64 (.ofNat 1)), (.int .i64 (.ofNat 7))]]
 rn2 := [98, 25, 29, 40, 44, 55, 59, 70, 74, 85, 89, 144, 118, 119, 120, 124, 128, 142, 12, 23]
 tb := 0
 nt := 5
 tf := true
 fb := 1
 nf := 2
 ff := false
 main := 1
 p4 := (.slice 7 0 3 1 false)
 q0 := (.slice 8 0 5 5 false)
 fb2 := 19
 ff2 := false
 q3 := (.slice 26 0 0 1 true)
 nb2 := 27
 nf2 := false
 lv := .und
 nl := 0
 code := cDeep
 nums := nDeep
theorem r1Deep : runJ Tryz.prog w0 14 1000 [.str 112 211438980984287494072200775755079379068216744212939341017401421727975856081088068601670635417245635457631318597105456997068854161012653973390422285151500228473773312595945332034150030579214236205775580665515212081498872254321368828219229769659853738049102718065946730621] [] xDeep.objs xDeep.rn (.tuple [.agg xDeep.p, .agg [.int .i64 0, .int .i64 0], .int .i64 0]) = true := by kernel_rfl
theorem r2Deep : runJ Tryz.prog w0 28 1000 [.agg xDeep.p] xDeep.objs [] (List.range xDeep.objs.length) (.tuple [.agg [.int .i64 0, .int .i64 0], .int .i64 0]) = true := by kernel_rfl
theorem r3Deep : runJ Tryz.prog w0 29 1000 [.agg xDeep.p] xDeep.objs xDeep.objs2 (List.range xDeep.objs.length ++ xDeep.rn2) (.agg xDeep.q) = true := by kernel_rfl
theorem okDeep : xDeep.okB = true := by kernel_rfl
theorem bkDeep : (xDeep.p.all (WW xDeep.objs.length)) = true := by kernel_rfl
def sDeep : List UInt8 := [102, 117, 110, 99, 32, 102, 40, 97, 32, 105, 110, 116, 44, 32, 98, 32, 105, 110, 116, 41, 32, 105, 110, 116, 32, 123, 32, 105, 102, 32, 97, 32, 61, 61, 32, 48, 32, 123, 32, 102, 111, 114, 32, 123, 32, 125, 32, 125, 59, 32, 114, 101, 116, 117, 114, 110, 32, 97, 32, 43, 32, 102, 40, 97, 32, 45, 32, 49, 44, 32, 98, 41, 32, 125, 59, 32, 102, 117, 110, 99, 32, 109, 97, 105, 110, 40, 41, 32, 123, 32, 112, 114, 105, 110, 116, 40, 102, 40, 105, 110, 112, 117, 116, 40, 41, 44, 32, 55, 41, 41, 32, 125]
theorem dDeep : Ev.digs 112 211438980984287494072200775755079379068216744212939341017401421727975856081088068601670635417245635457631318597105456997068854161012653973390422285151500228473773312595945332034150030579214236205775580665515212081498872254321368828219229769659853738049102718065946730621 = sDeep := by kernel_rfl
def hDeep : List HtB := [{ objs := [[.int .i64 (0), .int .i64 (1), .int .i64 (2), .int .i64 (1), .int .i64 (0), .int .i64 (0), .int .i64 (1), .int .i64 (2), .int .i64 (3), .int .i64 (2), .int .i64 (3), .int .i64 (2), .int .i64 (1), .int .i64 (-1)]], rn := [1747], b := 8, fl := false, h := [0, 1, 2, 1, 0, 0, 1, 2, 3, 2, 3, 2, 1, (-1)] },
 { objs := [[.int .i64 (0), .int .i64 (1), .int .i64 (2), .int .i64 (1), .int .i64 (0)]], rn := [687], b := 8, fl := false, h := [0, 1, 2, 1, 0] }]
theorem h0_ok : (hDeep.getD 0 ⟨[], [], 0, false, []⟩).okB xDeep = true := by kernel_rfl
theorem h0_run : runJ Tryz.prog w0 36 1000 [.agg xDeep.p, .int .i64 0] xDeep.objs (hDeep.getD 0 ⟨[], [], 0, false, []⟩).objs (List.range xDeep.objs.length ++ (hDeep.getD 0 ⟨[], [], 0, false, []⟩).rn) (hDeep.getD 0 ⟨[], [], 0, false, []⟩).v = true := by kernel_rfl
theorem h1_ok : (hDeep.getD 1 ⟨[], [], 0, false, []⟩).okB xDeep = true := by kernel_rfl
theorem h1_run : runJ Tryz.prog w0 36 1000 [.agg xDeep.p, .int .i64 1] xDeep.objs (hDeep.getD 1 ⟨[], [], 0, false, []⟩).objs (List.range xDeep.objs.length ++ (hDeep.getD 1 ⟨[], [], 0, false, []⟩).rn) (hDeep.getD 1 ⟨[], [], 0, false, []⟩).v = true := by kernel_rfl
theorem okdDeep : okD xDeep [2, 0] = true := by kernel_rfl
theorem srcDeep (hg0 : ∀ q, Ev.GTab.tab q = none) (hg1 : ∀ q o', Ev.GTab.blk q = some o' → GTab.blk q = some o') : SrcOKD sDeep cDeep [2, 0] (hDeep.map HtB.h) (Kf nDeep) 0 1 := by
 rw [← dDeep]
 refine src_okD hg0 hg1 xDeep [2, 0] hDeep okDeep okdDeep bkDeep r1Deep r2Deep r3Deep (n4 := 1000) (fun f x hx => ?_) (by decide +kernel)
 match f, hx with
 | 0, hx => cases hx; exact ⟨h0_ok, h0_run⟩
 | 1, hx => cases hx; exact ⟨h1_ok, h1_run⟩
 | k + 2, hx => exact absurd hx (by simp [hDeep])
end Go.Vs
