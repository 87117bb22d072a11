/-
  InterpCalls: the walk at a world in which the listed tables are laid. No condition.
-/
import Derived.Test.YtdigeeejmgkcoaaGreatDoorInterpCallsRan1
import Derived.Test.YtdigeeejmgkcoaaGreatDoorInterpCallsRan2
import Derived.Test.YtdigeeejmgkcoaaGreatDoorInterpCallsRan3
import Derived.Test.YtdigeeejmgkcoaaGreatDoorInterpCallsRan4
import Derived.Test.YtdigeeejmgkcoaaGreatDoorInterpCallsRan5
import Derived.Test.YtdigeeejmgkcoaaGreatDoorNum
import Derived.Test.YtdigeeejmgkcoaaGreatDoorDig
import Derived.Test.YtdigeeejmgkcoaaGreatDoorEvSymTab
import Derived.Test.YtdigeeejmgkcoaaGreatDoorRows
import Derived.MakeChecks
namespace Go.Proofs.YtdigeeejmgkcoaaGreatDoor.interpCalls
open Go.Ev

def syms : Syms := { vals := [] }

theorem symsOK : syms.OK := by
  constructor <;> (intro t ht; cases ht)

theorem symC {s : Syms} {h : s.OK} {t : TypeId} {fz : Nat × Nat} : @SymC (s.tab h 0 (.cells powCells t fz)) Tryz.prog 203 26 :=
  @SymC.mk (s.tab h 0 (.cells powCells t fz)) _ _ _ (@SymOK.mk (s.tab h 0 (.cells powCells t fz)) _ _ _
    (fun n w h0 h1 hg => @fmt_ok (s.tab h 0 (.cells powCells t fz)) t fz Syms.blk n w h0 h1 hg) dig_ok (fun _ => rfl))

theorem walk (a : Int) (_wa : (Lit.int .i64 a).wf = true) (w : World) (hL : laidMetH Tryz.prog Rows.interpCallsRow.laid w) :
    Calls Tryz.prog 4 #[.int .i64 a] w fun e w' => e = .returned (.bool true) ∧ Kept w w' := by
  rw [MakeChecks.laidMetH_plain _ _ _ (by kernel_rfl)] at hL
  obtain ⟨t, fz, hw⟩ := tab_laid hL
  letI : GTab := syms.tab symsOK 0 (.cells powCells t fz)
  haveI : SymC Tryz.prog 203 26 := symC
  obtain ⟨i, l, e⟩ := pickI_range a 40 (by decide)
  have run : runTW Tryz.prog tp 4 1000 [.anyInt .i64 40 i] = true := by
    match i, l with
    | 0, _ => exact ran0
    | 1, _ => exact ran1
    | 2, _ => exact ran2
    | 3, _ => exact ran3
    | 4, _ => exact ran4
    | 5, _ => exact ran5
    | 6, _ => exact ran6
    | 7, _ => exact ran7
    | 8, _ => exact ran8
    | 9, _ => exact ran9
    | 10, _ => exact ran10
    | 11, _ => exact ran11
    | 12, _ => exact ran12
    | 13, _ => exact ran13
    | 14, _ => exact ran14
    | 15, _ => exact ran15
    | 16, _ => exact ran16
    | 17, _ => exact ran17
    | 18, _ => exact ran18
    | 19, _ => exact ran19
    | 20, _ => exact ran20
    | 21, _ => exact ran21
    | 22, _ => exact ran22
    | 23, _ => exact ran23
    | 24, _ => exact ran24
    | 25, _ => exact ran25
    | 26, _ => exact ran26
    | 27, _ => exact ran27
    | 28, _ => exact ran28
    | 29, _ => exact ran29
    | 30, _ => exact ran30
    | 31, _ => exact ran31
    | 32, _ => exact ran32
    | 33, _ => exact ran33
    | 34, _ => exact ran34
    | 35, _ => exact ran35
    | 36, _ => exact ran36
    | 37, _ => exact ran37
    | 38, _ => exact ran38
    | 39, _ => exact ran39
    | k + 40, h => exact absurd h (by omega)
  exact (runTW_ok mixed tp_ok run (Syms.glob hw) [.int .i64 a] (.cons (.anyInt _ _ _ _ (by unfold AnyOK; rw [if_neg (by decide)]; exact fun _ => e)) .nil)).mono fun _ _ ⟨h1, _, h3⟩ => ⟨h1, h3⟩

end Go.Proofs.YtdigeeejmgkcoaaGreatDoor.interpCalls
