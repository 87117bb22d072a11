/-
  Own work. The programs that print so many inputs: their texts. No condition.
-/
import Derived.Test.YtnkeadjkckpknaaGreatDoorInsSrcInA
import Derived.Test.YtnkeadjkckpknaaGreatDoorInsSrcInB
import Derived.Test.YtnkeadjkckpknaaGreatDoorInsSrcInC
import Derived.Test.YtnkeadjkckpknaaGreatDoorInsSrcInD
import Derived.Test.YtnkeadjkckpknaaGreatDoorIns6
import Derived.Test.YtnkeadjkckpknaaGreatDoorInsSrcIn
set_option linter.unusedSectionVars false
set_option linter.unusedVariables false
set_option linter.unusedSimpArgs false
set_option maxRecDepth 1000000
namespace Go.Vs
open Go Go.Proofs Go.Bridge Go.Proofs.YtnkeadjkckpknaaGreatDoor
variable [Ev.GTab] [Ev.SymC Tryz.prog 202 25] [GTab]
theorem srcIns (hg0 : ∀ q, Ev.GTab.tab q = none) (hg1 : ∀ q o', Ev.GTab.blk q = some o' → GTab.blk q = some o') : ∀ n, n < 20 → jN (insTo n ++ [125]) (jg [Inputs.code n]) (jr []) 0 0
 | 0, _ => srcIn0 hg0 hg1
 | 1, _ => srcIn1 hg0 hg1
 | 2, _ => srcIn2 hg0 hg1
 | 3, _ => srcIn3 hg0 hg1
 | 4, _ => srcIn4 hg0 hg1
 | 5, _ => srcIn5 hg0 hg1
 | 6, _ => srcIn6 hg0 hg1
 | 7, _ => srcIn7 hg0 hg1
 | 8, _ => srcIn8 hg0 hg1
 | 9, _ => srcIn9 hg0 hg1
 | 10, _ => srcIn10 hg0 hg1
 | 11, _ => srcIn11 hg0 hg1
 | 12, _ => srcIn12 hg0 hg1
 | 13, _ => srcIn13 hg0 hg1
 | 14, _ => srcIn14 hg0 hg1
 | 15, _ => srcIn15 hg0 hg1
 | 16, _ => srcIn16 hg0 hg1
 | 17, _ => srcIn17 hg0 hg1
 | 18, _ => srcIn18 hg0 hg1
 | 19, _ => srcIn19 hg0 hg1
 | k + 20, h => absurd h (by omega)
end Go.Vs
