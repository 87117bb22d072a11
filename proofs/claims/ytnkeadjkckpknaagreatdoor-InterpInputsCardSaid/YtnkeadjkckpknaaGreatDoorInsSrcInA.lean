/-
  Own work. The programs that print so many inputs: what the evaluator's runs come to, in the kernel. No condition.
-/
import Derived.Test.YtnkeadjkckpknaaGreatDoorIns6
import Derived.Test.YtnkeadjkckpknaaGreatDoorInsSrcIn
set_option linter.unusedSectionVars false
set_option linter.unusedVariables false
set_option linter.unusedSimpArgs false
set_option maxRecDepth 1000000
namespace Go.Vs
open Go Go.Proofs Go.Bridge Go.Proofs.YtnkeadjkckpknaaGreatDoor
variable [Ev.GTab] [Ev.SymC Tryz.prog 202 25] [GTab]
def x0 : SrcB := xIn 0 [849, 990, 961, 979] [93, 20, 24, 35, 39, 50, 54, 65, 69, 80, 84, 115, 95, 99, 113, 8, 12]
theorem srcIn0 (hg0 : ∀ q, Ev.GTab.tab q = none) (hg1 : ∀ q o', Ev.GTab.blk q = some o' → GTab.blk q = some o') : jN (insTo 0 ++ [125]) (jg [Inputs.code 0]) (jr []) 0 0 := by
 rw [← (show Ev.digs 15 531996067270274366045539400838488189 = insTo 0 ++ [125] by kernel_rfl)]
 exact je hg0 hg1 x0 (by kernel_rfl) (by kernel_rfl) (n1 := 1000) (n2 := 1000) (n3 := 1000) (by kernel_rfl) (by kernel_rfl) (by kernel_rfl) (by decide +kernel)
def x1 : SrcB := xIn 1 [1739, 1903, 1867, 1892] [93, 20, 24, 35, 39, 50, 54, 65, 69, 80, 84, 115, 95, 99, 113, 8, 12]
theorem srcIn1 (hg0 : ∀ q, Ev.GTab.tab q = none) (hg1 : ∀ q o', Ev.GTab.blk q = some o' → GTab.blk q = some o') : jN (insTo 1 ++ [125]) (jg [Inputs.code 1]) (jr []) 0 0 := by
 rw [← (show Ev.digs 30 707144066263124076201448281814177820210782180293776947125482285154503293 = insTo 1 ++ [125] by kernel_rfl)]
 exact je hg0 hg1 x1 (by kernel_rfl) (by kernel_rfl) (n1 := 1000) (n2 := 1000) (n3 := 1000) (by kernel_rfl) (by kernel_rfl) (by kernel_rfl) (by decide +kernel)
def x2 : SrcB := xIn 2 [2629, 2816, 2773, 2805] [93, 20, 24, 35, 39, 50, 54, 65, 69, 80, 84, 115, 95, 99, 113, 8, 12]
theorem srcIn2 (hg0 : ∀ q, Ev.GTab.tab q = none) (hg1 : ∀ q o', Ev.GTab.blk q = some o' → GTab.blk q = some o') : jN (insTo 2 ++ [125]) (jg [Inputs.code 2]) (jr []) 0 0 := by
 rw [← (show Ev.digs 45 939955689930128160285145931171872133469623963514041192405216794397738921802055491584447567195106829494979197 = insTo 2 ++ [125] by kernel_rfl)]
 exact je hg0 hg1 x2 (by kernel_rfl) (by kernel_rfl) (n1 := 1000) (n2 := 1000) (n3 := 1000) (by kernel_rfl) (by kernel_rfl) (by kernel_rfl) (by decide +kernel)
def x3 : SrcB := xIn 3 [3519, 3729, 3679, 3718] [93, 20, 24, 35, 39, 50, 54, 65, 69, 80, 84, 115, 95, 99, 113, 8, 12]
theorem srcIn3 (hg0 : ∀ q, Ev.GTab.tab q = none) (hg1 : ∀ q o', Ev.GTab.blk q = some o' → GTab.blk q = some o') : jN (insTo 3 ++ [125]) (jg [Inputs.code 3]) (jr []) 0 0 := by
 rw [← (show Ev.digs 60 1249415417852452085441269907285498900903998406384743790181527484091224234841590636330754618469773917820732615262798703130877004352512986440075901 = insTo 3 ++ [125] by kernel_rfl)]
 exact je hg0 hg1 x3 (by kernel_rfl) (by kernel_rfl) (n1 := 1000) (n2 := 1000) (n3 := 1000) (by kernel_rfl) (by kernel_rfl) (by kernel_rfl) (by decide +kernel)
def x4 : SrcB := xIn 4 [4409, 4642, 4585, 4631] [93, 20, 24, 35, 39, 50, 54, 65, 69, 80, 84, 115, 95, 99, 113, 8, 12]
theorem srcIn4 (hg0 : ∀ q, Ev.GTab.tab q = none) (hg1 : ∀ q o', Ev.GTab.blk q = some o' → GTab.blk q = some o') : jN (insTo 4 ++ [125]) (jg [Inputs.code 4]) (jr []) 0 0 := by
 rw [← (show Ev.digs 75 1660757951774788084687800160975455539386933479983619611564570645524569034041155974411682447580985296845595757374296661444284506169631916457055958519108699483621000139005817201953405 = insTo 4 ++ [125] by kernel_rfl)]
 exact je hg0 hg1 x4 (by kernel_rfl) (by kernel_rfl) (n1 := 1000) (n2 := 1000) (n3 := 1000) (by kernel_rfl) (by kernel_rfl) (by kernel_rfl) (by decide +kernel)
end Go.Vs
