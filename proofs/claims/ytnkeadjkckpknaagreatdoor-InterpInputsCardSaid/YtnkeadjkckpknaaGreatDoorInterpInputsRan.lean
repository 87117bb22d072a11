/-
  InterpInputs: the call. No condition.
-/
import Derived.Test.YtnkeadjkckpknaaGreatDoorRows
import Derived.Test.YtnkeadjkckpknaaGreatDoorIns7
import Derived.Test.YtnkeadjkckpknaaGreatDoorIns8
set_option linter.unusedSectionVars false
set_option linter.unusedVariables false
set_option linter.unusedSimpArgs false
set_option maxRecDepth 1000000
namespace Go.Proofs.YtnkeadjkckpknaaGreatDoor.interpInputs
open Go Go.Proofs Go.Vs
theorem rng {l : List Int} (h : ∀ n, n ∈ l → (Lit.int .i64 n).wf = true) : ∀ x, x ∈ l → -9223372036854775808 ≤ x ∧ x < 9223372036854775808 := fun x hx => by
 have := h x hx
 have hr : -9223372036854775808 ≤ x ∧ x ≤ 9223372036854775807 := by simpa [Lit.wf, IntKind.min, IntKind.max, IntKind.signed, IntKind.bits] using this
 omega
theorem walk (w : World) (hL : laidMetH Tryz.prog Rows.interpInputsRow.laid w) (v0 : Value) (l0 : List Int) (hi0 : VS w v0 l0) (hl0 : ∀ n, n ∈ l0 → (Lit.int .i64 n).wf = true) (a1 : Int) (w1 : (Lit.int .i64 a1).wf = true) :
  Calls Tryz.prog 6 #[v0, .int .i64 a1] w fun e w' => e = .returned (.bool true) ∧ Ev.Kept w w' := by
 rw [MakeChecks.laidMetH_plain _ _ _ (by kernel_rfl)] at hL
 obtain ⟨t, fz, hw⟩ := qb3 hL
 obtain ⟨tb, a, ha, hd, hg⟩ := qfr hi0
 letI : Ev.GTab := Jb (.cells zR t fz)
 haveI : Ev.SymC Tryz.prog 202 25 := symC
 letI : Vs.GTab := gtab tb (.cells zR t fz)
 exact qhl (Ve (t := t) (fz := fz) tabs (ha _) (rng hl0) a1) (Ym hw hg) (.cons (hd _) (.cons (.int _ _) .nil))
end Go.Proofs.YtnkeadjkckpknaaGreatDoor.interpInputs
