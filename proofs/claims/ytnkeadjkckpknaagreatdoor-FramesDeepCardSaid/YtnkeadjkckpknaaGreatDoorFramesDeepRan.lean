/-
  FramesDeep: the call. No condition.
-/
import Derived.Test.YtnkeadjkckpknaaGreatDoorRows
import Derived.Test.YtnkeadjkckpknaaGreatDoorDps7
set_option linter.unusedSectionVars false
set_option linter.unusedVariables false
set_option linter.unusedSimpArgs false
set_option maxRecDepth 1000000
namespace Go.Proofs.YtnkeadjkckpknaaGreatDoor.framesDeep
open Go Go.Proofs Go.Vs
theorem walk (a0 : Int) (a1 : Int) (w0 : (Lit.int .i64 a0).wf = true) (w1 : (Lit.int .i64 a1).wf = true) (w : World) (hL : laidMetH Tryz.prog Rows.framesDeepRow.laid w) :
  Calls Tryz.prog 7 #[.int .i64 a0, .int .i64 a1] w fun e w' => e = .returned (.bool true) ∧ Ev.Kept w w' := by
 rw [MakeChecks.laidMetH_plain _ _ _ (by kernel_rfl)] at hL
 obtain ⟨t, fz, hw⟩ := Y7 hL
 letI : Ev.GTab := JA (.cells zS t fz)
 haveI : Ev.SymC Tryz.prog 202 25 := symC
 letI : Vs.GTab := gtab (fun _ => none) (.cells zS t fz)
 exact qhm (XN (t := t) (fz := fz) tabs a0 a1) (YM hw fun g l e => by cases e) (.cons (.int _ _) (.cons (.int _ _) .nil))
end Go.Proofs.YtnkeadjkckpknaaGreatDoor.framesDeep
