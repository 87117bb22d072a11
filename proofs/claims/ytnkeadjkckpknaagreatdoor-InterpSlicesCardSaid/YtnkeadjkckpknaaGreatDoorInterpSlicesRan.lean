/-
  InterpSlices: the call. No condition.
-/
import Derived.Test.YtnkeadjkckpknaaGreatDoorRows
import Derived.Test.YtnkeadjkckpknaaGreatDoorSlc7
set_option linter.unusedSectionVars false
set_option linter.unusedVariables false
set_option linter.unusedSimpArgs false
set_option maxRecDepth 1000000
namespace Go.Proofs.YtnkeadjkckpknaaGreatDoor.interpSlices
open Go Go.Proofs Go.Vs
theorem rng {l : List Int} (h : ∀ n, n ∈ l → (Lit.int .i64 n).wf = true) : ∀ x, x ∈ l → -9223372036854775808 ≤ x ∧ x < 9223372036854775808 := fun x hx => by
 have := h x hx
 have hr : -9223372036854775808 ≤ x ∧ x ≤ 9223372036854775807 := by simpa [Lit.wf, IntKind.min, IntKind.max, IntKind.signed, IntKind.bits] using this
 omega
theorem walk (w : World) (hL : laidMetH Tryz.prog Rows.interpSlicesRow.laid w) (v0 : Value) (l0 : List Int) (hi0 : VZ w v0 l0) (hl0 : ∀ n, n ∈ l0 → (Lit.int .i64 n).wf = true) :
  Calls Tryz.prog 3 #[v0] w fun e w' => e = .returned (.bool true) ∧ Ev.Kept w w' := by
 rw [MakeChecks.laidMetH_plain _ _ _ (by kernel_rfl)] at hL
 obtain ⟨t, fz, hw⟩ := qav hL
 obtain ⟨tb, a, ha, hd, hg⟩ := qf6 hi0
 letI : Ev.GTab := ZS (.cells zW t fz)
 haveI : Ev.SymC Tryz.prog 202 25 := symC
 letI : Vs.GTab := gtab tb (.cells zW t fz)
 exact qhv (KH (t := t) (fz := fz) tabs (ha _) (rng hl0)) (Yr hw hg) (.cons (hd _) .nil)
end Go.Proofs.YtnkeadjkckpknaaGreatDoor.interpSlices
