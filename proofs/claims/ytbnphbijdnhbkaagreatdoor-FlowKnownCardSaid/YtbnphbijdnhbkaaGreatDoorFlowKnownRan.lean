/-
  FlowKnown returns true: a closed sentence: the run. The program is run by an evaluator that is proved right (the texts Ev..), in the kernel. No condition.
-/
import Derived.Test.YtbnphbijdnhbkaaGreatDoorFlowKn
namespace Go.Proofs.YtbnphbijdnhbkaaGreatDoor.flowKnown

set_option maxRecDepth 1000000 in
theorem ran : Ev.runTW Tryz.prog w2 5 1000 [] = true := by kernel_rfl

theorem walk (w : World) (hg : Ev.Glob (fun _ => none) w) : Calls Tryz.prog 5 #[] w fun e w' => e = .returned (.bool true) ∧ Ev.Kept w w' :=
  (Ev.runTW_ok mixed w2_ok ran hg [] .nil).mono fun _ _ ⟨h1, _, h3⟩ => ⟨h1, h3⟩

end Go.Proofs.YtbnphbijdnhbkaaGreatDoor.flowKnown
