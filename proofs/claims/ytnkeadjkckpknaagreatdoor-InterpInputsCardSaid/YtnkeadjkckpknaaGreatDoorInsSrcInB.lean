/-
  Own work. The programs that print so many inputs: what the evaluator's runs come to, in the kernel. No condition.
-/
import Derived.Test.YtnkeadjkckpknaaGreatDoorIns6
import Derived.Test.YtnkeadjkckpknaaGreatDoorInsSrcIn
set_option linter.unusedSectionVars false
set_option linter.unusedVariables false
set_option linter.unusedSimpArgs false
set_option maxRecDepth 1000000
namespace Go.Vs
open Go Go.Proofs Go.Bridge Go.Proofs.YtnkeadjkckpknaaGreatDoor
variable [Ev.GTab] [Ev.SymC Tryz.prog 202 25] [GTab]
def x5 : SrcB := xIn 5 [5299, 5555, 5491, 5544] [93, 20, 24, 35, 39, 50, 54, 65, 69, 80, 84, 115, 95, 99, 113, 8, 12]
theorem srcIn5 (hg0 : ∀ q, Ev.GTab.tab q = none) (hg1 : ∀ q o', Ev.GTab.blk q = some o' → GTab.blk q = some o') : jN (insTo 5 ++ [125]) (jg [Inputs.code 5]) (jr []) 0 0 := by
 rw [← (show Ev.digs 90 2207525963721463534758701308272794006718370268542531198685404765869830128567861426371340740583529805246129818845966857344705316877003379992716215145619625236205316692496113134337020692354719910244674276362363024771709 = insTo 5 ++ [125] by kernel_rfl)]
 exact je hg0 hg1 x5 (by kernel_rfl) (by kernel_rfl) (n1 := 1000) (n2 := 1000) (n3 := 1000) (by kernel_rfl) (by kernel_rfl) (by kernel_rfl) (by decide +kernel)
def x6 : SrcB := xIn 6 [6189, 6468, 6397, 6457] [93, 20, 24, 35, 39, 50, 54, 65, 69, 80, 84, 115, 95, 99, 113, 8, 12]
theorem srcIn6 (hg0 : ∀ q, Ev.GTab.tab q = none) (hg1 : ∀ q o', Ev.GTab.blk q = some o' → GTab.blk q = some o') : jN (insTo 6 ++ [125]) (jg [Inputs.code 6]) (jr []) 0 0 := by
 rw [← (show Ev.digs 105 2934305312400645881545171816064281784124711478981700784981614466155596740250217812283163508399582811095771248344945397181730605518672580674977620961257513531045050177810797915934751096957687344178829998872706926169463895671995381441841128311171584690813 = insTo 6 ++ [125] by kernel_rfl)]
 exact je hg0 hg1 x6 (by kernel_rfl) (by kernel_rfl) (n1 := 1000) (n2 := 1000) (n3 := 1000) (by kernel_rfl) (by kernel_rfl) (by kernel_rfl) (by decide +kernel)
def x7 : SrcB := xIn 7 [7079, 7381, 7303, 7370] [93, 20, 24, 35, 39, 50, 54, 65, 69, 80, 84, 115, 95, 99, 113, 8, 12]
theorem srcIn7 (hg0 : ∀ q, Ev.GTab.tab q = none) (hg1 : ∀ q o', Ev.GTab.blk q = some o' → GTab.blk q = some o') : jN (insTo 7 ++ [125]) (jg [Inputs.code 7]) (jr []) 0 0 := by
 rw [← (show Ev.digs 120 3900360769423341977480527468839697185382989021860141151327370073079596186713050467022390282506304858395040980541730715011509668777712561469459794125107807119667165631238787200024740835069567130363408120444424743083393502189044697360009699410686218147355276195721035614691861821103389870717 = insTo 7 ++ [125] by kernel_rfl)]
 exact je hg0 hg1 x7 (by kernel_rfl) (by kernel_rfl) (n1 := 1000) (n2 := 1000) (n3 := 1000) (by kernel_rfl) (by kernel_rfl) (by kernel_rfl) (by decide +kernel)
def x8 : SrcB := xIn 8 [7969, 8294, 8209, 8283] [93, 20, 24, 35, 39, 50, 54, 65, 69, 80, 84, 115, 95, 99, 113, 8, 12]
theorem srcIn8 (hg0 : ∀ q, Ev.GTab.tab q = none) (hg1 : ∀ q o', Ev.GTab.blk q = some o' → GTab.blk q = some o') : jN (insTo 8 ++ [125]) (jg [Inputs.code 8]) (jr []) 0 0 := by
 rw [← (show Ev.digs 135 5184468728378701240897463685401841841550319859156029420975143865964079113164450124566812652259147507347382346181885655647801555571392219512299892734821162211341385770134406406256861594879849503574897155848126894411498290050717569405481815603734170605421262888119372801861772019037660543676907663384915888252490855418180471421 = insTo 8 ++ [125] by kernel_rfl)]
 exact je hg0 hg1 x8 (by kernel_rfl) (by kernel_rfl) (n1 := 1000) (n2 := 1000) (n3 := 1000) (by kernel_rfl) (by kernel_rfl) (by kernel_rfl) (by decide +kernel)
def x9 : SrcB := xIn 9 [8859, 9207, 9115, 9196] [93, 20, 24, 35, 39, 50, 54, 65, 69, 80, 84, 115, 95, 99, 113, 8, 12]
theorem srcIn9 (hg0 : ∀ q, Ev.GTab.tab q = none) (hg1 : ∀ q o', Ev.GTab.blk q = some o' → GTab.blk q = some o') : jN (insTo 9 ++ [125]) (jg [Inputs.code 9]) (jr []) 0 0 := by
 rw [← (show Ev.digs 150 6891340977032392448620006526369845994163034299231083433288130617466250395316130318582736296747196790621138845473913539937740524944439730412667918908605239614298483168774474466961878439520872240131976996995497198732787466176669272598625595313290121925288157511097299144808963178365713868599423528121983216799160577862123967702559043774708426396676447141328652925 = insTo 9 ++ [125] by kernel_rfl)]
 exact je hg0 hg1 x9 (by kernel_rfl) (by kernel_rfl) (n1 := 1000) (n2 := 1000) (n3 := 1000) (by kernel_rfl) (by kernel_rfl) (by kernel_rfl) (by decide +kernel)
end Go.Vs
