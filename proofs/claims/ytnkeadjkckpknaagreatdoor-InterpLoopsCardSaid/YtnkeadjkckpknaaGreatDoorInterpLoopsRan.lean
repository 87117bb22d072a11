/-
  InterpLoops: the call. No condition.
-/
import Derived.Test.YtnkeadjkckpknaaGreatDoorRows
import Derived.Test.YtnkeadjkckpknaaGreatDoorLps7
set_option linter.unusedSectionVars false
set_option linter.unusedVariables false
set_option linter.unusedSimpArgs false
set_option maxRecDepth 1000000
namespace Go.Proofs.YtnkeadjkckpknaaGreatDoor.interpLoops
open Go Go.Proofs Go.Vs
theorem walk (a0 : Int) (a1 : Int) (a2 : Int) (w0 : (Lit.int .i64 a0).wf = true) (w1 : (Lit.int .i64 a1).wf = true) (w2 : (Lit.int .i64 a2).wf = true) (w : World) (hL : laidMetH Tryz.prog Rows.interpLoopsRow.laid w) :
  Calls Tryz.prog 5 #[.int .i64 a0, .int .i64 a1, .int .i64 a2] w fun e w' => e = .returned (.bool true) ∧ Ev.Kept w w' := by
 rw [MakeChecks.laidMetH_plain _ _ _ (by kernel_rfl)] at hL
 obtain ⟨t, fz, hw⟩ := tab_laid hL
 letI : Ev.GTab := evTab (.cells powCells t fz)
 haveI : Ev.SymC Tryz.prog 202 25 := symC
 letI : Vs.GTab := gtab (fun _ => none) (.cells powCells t fz)
 exact close (loops_true (t := t) (fz := fz) tabs a0 a1 a2) (glob_blk hw fun g l e => by cases e) (.cons (.int _ _) (.cons (.int _ _) (.cons (.int _ _) .nil)))
end Go.Proofs.YtnkeadjkckpknaaGreatDoor.interpLoops
