/-
  InterpKnown: the walk at a world in which the listed tables are laid. No condition.
-/
import Derived.Test.YtdigeeejmgkcoaaGreatDoorInterpKnownRun
import Derived.Test.YtdigeeejmgkcoaaGreatDoorNum
import Derived.Test.YtdigeeejmgkcoaaGreatDoorDig
import Derived.Test.YtdigeeejmgkcoaaGreatDoorEvSymTab
import Derived.Test.YtdigeeejmgkcoaaGreatDoorRows
import Derived.MakeChecks
namespace Go.Proofs.YtdigeeejmgkcoaaGreatDoor.interpKnown
open Go.Ev

def syms : Syms := { vals := [] }

theorem symsOK : syms.OK := by
  constructor <;> (intro t ht; cases ht)

theorem symC {s : Syms} {h : s.OK} {t : TypeId} {fz : Nat × Nat} : @SymC (s.tab h 0 (.cells powCells t fz)) Tryz.prog 203 26 :=
  @SymC.mk (s.tab h 0 (.cells powCells t fz)) _ _ _ (@SymOK.mk (s.tab h 0 (.cells powCells t fz)) _ _ _
    (fun n w h0 h1 hg => @fmt_ok (s.tab h 0 (.cells powCells t fz)) t fz Syms.blk n w h0 h1 hg) dig_ok (fun _ => rfl))

theorem walk (w : World) (hL : laidMetH Tryz.prog Rows.interpKnownRow.laid w) :
    Calls Tryz.prog 3 #[] w fun e w' => e = .returned (.bool true) ∧ Kept w w' := by
  rw [MakeChecks.laidMetH_plain _ _ _ (by kernel_rfl)] at hL
  obtain ⟨t, fz, hw⟩ := tab_laid hL
  letI : GTab := syms.tab symsOK 0 (.cells powCells t fz)
  haveI : SymC Tryz.prog 203 26 := symC
  exact walk0 w (Syms.glob hw)

end Go.Proofs.YtdigeeejmgkcoaaGreatDoor.interpKnown
