/-
  A closed sentence: its run. The program is run by an evaluator that is proved right (the texts Ev..), in the kernel. No condition.
-/
import Derived.Test.YtdigeeejmgkcoaaGreatDoorRk
namespace Go.Proofs.YtdigeeejmgkcoaaGreatDoor.interpKnown
variable [Ev.GTab] [Ev.SymC Tryz.prog 203 26]
set_option linter.unusedSectionVars false

set_option maxRecDepth 1000000 in
theorem ran : Ev.runTW Tryz.prog rv 3 1000 [] = true := by kernel_rfl

theorem walk0 (w : World) (hg : Ev.Glob (fun _ => none) w) : Calls Tryz.prog 3 #[] w fun e w' => e = .returned (.bool true) ∧ Ev.Kept w w' :=
  (Ev.runTW_ok mixed rv_ok ran hg [] .nil).mono fun _ _ ⟨h1, _, h3⟩ => ⟨h1, h3⟩

end Go.Proofs.YtdigeeejmgkcoaaGreatDoor.interpKnown
