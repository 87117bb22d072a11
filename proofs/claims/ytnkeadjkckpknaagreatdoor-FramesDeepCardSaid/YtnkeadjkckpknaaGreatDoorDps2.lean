/-
  Own work. Texts of a proof,laid together; no condition.
-/
import Derived.Orders
import Derived.ChangeSame
import Derived.RowKit3
import Derived.Laws.World
import Derived.Laws.Cells
import Derived.Recover
import Derived.Test.YtnkeadjkckpknaaGreatDoorDps1
set_option linter.unusedSectionVars false
set_option linter.unusedVariables false
set_option linter.unusedSimpArgs false
set_option maxRecDepth 1000000
section
namespace Go.Ev
variable [GTab]
noncomputable section
abbrev OObj := Option AObj
def qe0 (v : AVal) (e : N16 AVal) : N16 AVal := N16.rec (α := AVal) (motive := fun _ => AVal → N16 AVal) (fun _ a1 a2 a3 a4 a5 a6 a7 a8 a9 a10 a11 a12 a13 a14 a15 v => N16.mk v a1 a2 a3 a4 a5 a6 a7 a8 a9 a10 a11 a12 a13 a14 a15) e v
def qek (v : AVal) (e : N16 AVal) : N16 AVal := N16.rec (α := AVal) (motive := fun _ => AVal → N16 AVal) (fun a0 _ a2 a3 a4 a5 a6 a7 a8 a9 a10 a11 a12 a13 a14 a15 v => N16.mk a0 v a2 a3 a4 a5 a6 a7 a8 a9 a10 a11 a12 a13 a14 a15) e v
def qel (v : AVal) (e : N16 AVal) : N16 AVal := N16.rec (α := AVal) (motive := fun _ => AVal → N16 AVal) (fun a0 a1 _ a3 a4 a5 a6 a7 a8 a9 a10 a11 a12 a13 a14 a15 v => N16.mk a0 a1 v a3 a4 a5 a6 a7 a8 a9 a10 a11 a12 a13 a14 a15) e v
def qe5 (v : AVal) (e : N16 AVal) : N16 AVal := N16.rec (α := AVal) (motive := fun _ => AVal → N16 AVal) (fun a0 a1 a2 _ a4 a5 a6 a7 a8 a9 a10 a11 a12 a13 a14 a15 v => N16.mk a0 a1 a2 v a4 a5 a6 a7 a8 a9 a10 a11 a12 a13 a14 a15) e v
def qew (v : AVal) (e : N16 AVal) : N16 AVal := N16.rec (α := AVal) (motive := fun _ => AVal → N16 AVal) (fun a0 a1 a2 a3 _ a5 a6 a7 a8 a9 a10 a11 a12 a13 a14 a15 v => N16.mk a0 a1 a2 a3 v a5 a6 a7 a8 a9 a10 a11 a12 a13 a14 a15) e v
def qei (v : AVal) (e : N16 AVal) : N16 AVal := N16.rec (α := AVal) (motive := fun _ => AVal → N16 AVal) (fun a0 a1 a2 a3 a4 _ a6 a7 a8 a9 a10 a11 a12 a13 a14 a15 v => N16.mk a0 a1 a2 a3 a4 v a6 a7 a8 a9 a10 a11 a12 a13 a14 a15) e v
def qf5 (v : AVal) (e : N16 AVal) : N16 AVal := N16.rec (α := AVal) (motive := fun _ => AVal → N16 AVal) (fun a0 a1 a2 a3 a4 a5 _ a7 a8 a9 a10 a11 a12 a13 a14 a15 v => N16.mk a0 a1 a2 a3 a4 a5 v a7 a8 a9 a10 a11 a12 a13 a14 a15) e v
def qe9 (v : AVal) (e : N16 AVal) : N16 AVal := N16.rec (α := AVal) (motive := fun _ => AVal → N16 AVal) (fun a0 a1 a2 a3 a4 a5 a6 _ a8 a9 a10 a11 a12 a13 a14 a15 v => N16.mk a0 a1 a2 a3 a4 a5 a6 v a8 a9 a10 a11 a12 a13 a14 a15) e v
def qdw (v : AVal) (e : N16 AVal) : N16 AVal := N16.rec (α := AVal) (motive := fun _ => AVal → N16 AVal) (fun a0 a1 a2 a3 a4 a5 a6 a7 _ a9 a10 a11 a12 a13 a14 a15 v => N16.mk a0 a1 a2 a3 a4 a5 a6 a7 v a9 a10 a11 a12 a13 a14 a15) e v
def qf0 (v : AVal) (e : N16 AVal) : N16 AVal := N16.rec (α := AVal) (motive := fun _ => AVal → N16 AVal) (fun a0 a1 a2 a3 a4 a5 a6 a7 a8 _ a10 a11 a12 a13 a14 a15 v => N16.mk a0 a1 a2 a3 a4 a5 a6 a7 a8 v a10 a11 a12 a13 a14 a15) e v
def qbb (v : AVal) (e : N16 AVal) : N16 AVal := N16.rec (α := AVal) (motive := fun _ => AVal → N16 AVal) (fun a0 a1 a2 a3 a4 a5 a6 a7 a8 a9 _ a11 a12 a13 a14 a15 v => N16.mk a0 a1 a2 a3 a4 a5 a6 a7 a8 a9 v a11 a12 a13 a14 a15) e v
def qai (v : AVal) (e : N16 AVal) : N16 AVal := N16.rec (α := AVal) (motive := fun _ => AVal → N16 AVal) (fun a0 a1 a2 a3 a4 a5 a6 a7 a8 a9 a10 _ a12 a13 a14 a15 v => N16.mk a0 a1 a2 a3 a4 a5 a6 a7 a8 a9 a10 v a12 a13 a14 a15) e v
def qak (v : AVal) (e : N16 AVal) : N16 AVal := N16.rec (α := AVal) (motive := fun _ => AVal → N16 AVal) (fun a0 a1 a2 a3 a4 a5 a6 a7 a8 a9 a10 a11 _ a13 a14 a15 v => N16.mk a0 a1 a2 a3 a4 a5 a6 a7 a8 a9 a10 a11 v a13 a14 a15) e v
def qas (v : AVal) (e : N16 AVal) : N16 AVal := N16.rec (α := AVal) (motive := fun _ => AVal → N16 AVal) (fun a0 a1 a2 a3 a4 a5 a6 a7 a8 a9 a10 a11 a12 _ a14 a15 v => N16.mk a0 a1 a2 a3 a4 a5 a6 a7 a8 a9 a10 a11 a12 v a14 a15) e v
def qag (v : AVal) (e : N16 AVal) : N16 AVal := N16.rec (α := AVal) (motive := fun _ => AVal → N16 AVal) (fun a0 a1 a2 a3 a4 a5 a6 a7 a8 a9 a10 a11 a12 a13 _ a15 v => N16.mk a0 a1 a2 a3 a4 a5 a6 a7 a8 a9 a10 a11 a12 a13 v a15) e v
def qal (v : AVal) (e : N16 AVal) : N16 AVal := N16.rec (α := AVal) (motive := fun _ => AVal → N16 AVal) (fun a0 a1 a2 a3 a4 a5 a6 a7 a8 a9 a10 a11 a12 a13 a14 _ v => N16.mk a0 a1 a2 a3 a4 a5 a6 a7 a8 a9 a10 a11 a12 a13 a14 v) e v
def gA1 (i : Ix) : N16 AVal → AVal := Ix.rec (motive := fun _ => N16 AVal → AVal) N16.f0 N16.f1 N16.f2 N16.f3 N16.f4 N16.f5 N16.f6 N16.f7 N16.f8 N16.f9 N16.f10 N16.f11 N16.f12 N16.f13 N16.f14 N16.f15 i
def sA1 (i : Ix) : AVal → N16 AVal → N16 AVal := Ix.rec (motive := fun _ => AVal → N16 AVal → N16 AVal) qe0 qek qel qe5 qew qei qf5 qe9 qdw qf0 qbb qai qak qas qag qal i
theorem Wf (i : Ix) (e : N16 AVal) : gA1 i e = N16.get i e := by cases i <;> rfl
theorem Wz (i : Ix) (v : AVal) (e : N16 AVal) : sA1 i v e = N16.set i v e := by cases i <;> rfl
def qea (v : N16 AVal) (e : T2 AVal) : T2 AVal := N16.rec (α := N16 AVal) (motive := fun _ => N16 AVal → T2 AVal) (fun _ a1 a2 a3 a4 a5 a6 a7 a8 a9 a10 a11 a12 a13 a14 a15 v => N16.mk v a1 a2 a3 a4 a5 a6 a7 a8 a9 a10 a11 a12 a13 a14 a15) e v
def qe4 (v : N16 AVal) (e : T2 AVal) : T2 AVal := N16.rec (α := N16 AVal) (motive := fun _ => N16 AVal → T2 AVal) (fun a0 _ a2 a3 a4 a5 a6 a7 a8 a9 a10 a11 a12 a13 a14 a15 v => N16.mk a0 v a2 a3 a4 a5 a6 a7 a8 a9 a10 a11 a12 a13 a14 a15) e v
def qeg (v : N16 AVal) (e : T2 AVal) : T2 AVal := N16.rec (α := N16 AVal) (motive := fun _ => N16 AVal → T2 AVal) (fun a0 a1 _ a3 a4 a5 a6 a7 a8 a9 a10 a11 a12 a13 a14 a15 v => N16.mk a0 a1 v a3 a4 a5 a6 a7 a8 a9 a10 a11 a12 a13 a14 a15) e v
def qez (v : N16 AVal) (e : T2 AVal) : T2 AVal := N16.rec (α := N16 AVal) (motive := fun _ => N16 AVal → T2 AVal) (fun a0 a1 a2 _ a4 a5 a6 a7 a8 a9 a10 a11 a12 a13 a14 a15 v => N16.mk a0 a1 a2 v a4 a5 a6 a7 a8 a9 a10 a11 a12 a13 a14 a15) e v
def qeo (v : N16 AVal) (e : T2 AVal) : T2 AVal := N16.rec (α := N16 AVal) (motive := fun _ => N16 AVal → T2 AVal) (fun a0 a1 a2 a3 _ a5 a6 a7 a8 a9 a10 a11 a12 a13 a14 a15 v => N16.mk a0 a1 a2 a3 v a5 a6 a7 a8 a9 a10 a11 a12 a13 a14 a15) e v
def qes (v : N16 AVal) (e : T2 AVal) : T2 AVal := N16.rec (α := N16 AVal) (motive := fun _ => N16 AVal → T2 AVal) (fun a0 a1 a2 a3 a4 _ a6 a7 a8 a9 a10 a11 a12 a13 a14 a15 v => N16.mk a0 a1 a2 a3 a4 v a6 a7 a8 a9 a10 a11 a12 a13 a14 a15) e v
def qep (v : N16 AVal) (e : T2 AVal) : T2 AVal := N16.rec (α := N16 AVal) (motive := fun _ => N16 AVal → T2 AVal) (fun a0 a1 a2 a3 a4 a5 _ a7 a8 a9 a10 a11 a12 a13 a14 a15 v => N16.mk a0 a1 a2 a3 a4 a5 v a7 a8 a9 a10 a11 a12 a13 a14 a15) e v
def qdz (v : N16 AVal) (e : T2 AVal) : T2 AVal := N16.rec (α := N16 AVal) (motive := fun _ => N16 AVal → T2 AVal) (fun a0 a1 a2 a3 a4 a5 a6 _ a8 a9 a10 a11 a12 a13 a14 a15 v => N16.mk a0 a1 a2 a3 a4 a5 a6 v a8 a9 a10 a11 a12 a13 a14 a15) e v
def qe1 (v : N16 AVal) (e : T2 AVal) : T2 AVal := N16.rec (α := N16 AVal) (motive := fun _ => N16 AVal → T2 AVal) (fun a0 a1 a2 a3 a4 a5 a6 a7 _ a9 a10 a11 a12 a13 a14 a15 v => N16.mk a0 a1 a2 a3 a4 a5 a6 a7 v a9 a10 a11 a12 a13 a14 a15) e v
def qf3 (v : N16 AVal) (e : T2 AVal) : T2 AVal := N16.rec (α := N16 AVal) (motive := fun _ => N16 AVal → T2 AVal) (fun a0 a1 a2 a3 a4 a5 a6 a7 a8 _ a10 a11 a12 a13 a14 a15 v => N16.mk a0 a1 a2 a3 a4 a5 a6 a7 a8 v a10 a11 a12 a13 a14 a15) e v
def qbp (v : N16 AVal) (e : T2 AVal) : T2 AVal := N16.rec (α := N16 AVal) (motive := fun _ => N16 AVal → T2 AVal) (fun a0 a1 a2 a3 a4 a5 a6 a7 a8 a9 _ a11 a12 a13 a14 a15 v => N16.mk a0 a1 a2 a3 a4 a5 a6 a7 a8 a9 v a11 a12 a13 a14 a15) e v
def YY (v : N16 AVal) (e : T2 AVal) : T2 AVal := N16.rec (α := N16 AVal) (motive := fun _ => N16 AVal → T2 AVal) (fun a0 a1 a2 a3 a4 a5 a6 a7 a8 a9 a10 _ a12 a13 a14 a15 v => N16.mk a0 a1 a2 a3 a4 a5 a6 a7 a8 a9 a10 v a12 a13 a14 a15) e v
def qaa (v : N16 AVal) (e : T2 AVal) : T2 AVal := N16.rec (α := N16 AVal) (motive := fun _ => N16 AVal → T2 AVal) (fun a0 a1 a2 a3 a4 a5 a6 a7 a8 a9 a10 a11 _ a13 a14 a15 v => N16.mk a0 a1 a2 a3 a4 a5 a6 a7 a8 a9 a10 a11 v a13 a14 a15) e v
def YC (v : N16 AVal) (e : T2 AVal) : T2 AVal := N16.rec (α := N16 AVal) (motive := fun _ => N16 AVal → T2 AVal) (fun a0 a1 a2 a3 a4 a5 a6 a7 a8 a9 a10 a11 a12 _ a14 a15 v => N16.mk a0 a1 a2 a3 a4 a5 a6 a7 a8 a9 a10 a11 a12 v a14 a15) e v
def qao (v : N16 AVal) (e : T2 AVal) : T2 AVal := N16.rec (α := N16 AVal) (motive := fun _ => N16 AVal → T2 AVal) (fun a0 a1 a2 a3 a4 a5 a6 a7 a8 a9 a10 a11 a12 a13 _ a15 v => N16.mk a0 a1 a2 a3 a4 a5 a6 a7 a8 a9 a10 a11 a12 a13 v a15) e v
def YB (v : N16 AVal) (e : T2 AVal) : T2 AVal := N16.rec (α := N16 AVal) (motive := fun _ => N16 AVal → T2 AVal) (fun a0 a1 a2 a3 a4 a5 a6 a7 a8 a9 a10 a11 a12 a13 a14 _ v => N16.mk a0 a1 a2 a3 a4 a5 a6 a7 a8 a9 a10 a11 a12 a13 a14 v) e v
def gA2 (i : Ix) : T2 AVal → N16 AVal := Ix.rec (motive := fun _ => T2 AVal → N16 AVal) N16.f0 N16.f1 N16.f2 N16.f3 N16.f4 N16.f5 N16.f6 N16.f7 N16.f8 N16.f9 N16.f10 N16.f11 N16.f12 N16.f13 N16.f14 N16.f15 i
def sA2 (i : Ix) : N16 AVal → T2 AVal → T2 AVal := Ix.rec (motive := fun _ => N16 AVal → T2 AVal → T2 AVal) qea qe4 qeg qez qeo qes qep qdz qe1 qf3 qbp YY qaa YC qao YB i
theorem KR (i : Ix) (e : T2 AVal) : gA2 i e = N16.get i e := by cases i <;> rfl
theorem qb6 (i : Ix) (v : N16 AVal) (e : T2 AVal) : sA2 i v e = N16.set i v e := by cases i <;> rfl
def qja (v : T2 AVal) (e : T3 AVal) : T3 AVal := N16.rec (α := T2 AVal) (motive := fun _ => T2 AVal → T3 AVal) (fun _ a1 a2 a3 a4 a5 a6 a7 a8 a9 a10 a11 a12 a13 a14 a15 v => N16.mk v a1 a2 a3 a4 a5 a6 a7 a8 a9 a10 a11 a12 a13 a14 a15) e v
def qhi (v : T2 AVal) (e : T3 AVal) : T3 AVal := N16.rec (α := T2 AVal) (motive := fun _ => T2 AVal → T3 AVal) (fun a0 _ a2 a3 a4 a5 a6 a7 a8 a9 a10 a11 a12 a13 a14 a15 v => N16.mk a0 v a2 a3 a4 a5 a6 a7 a8 a9 a10 a11 a12 a13 a14 a15) e v
def qhr (v : T2 AVal) (e : T3 AVal) : T3 AVal := N16.rec (α := T2 AVal) (motive := fun _ => T2 AVal → T3 AVal) (fun a0 a1 _ a3 a4 a5 a6 a7 a8 a9 a10 a11 a12 a13 a14 a15 v => N16.mk a0 a1 v a3 a4 a5 a6 a7 a8 a9 a10 a11 a12 a13 a14 a15) e v
def qhw (v : T2 AVal) (e : T3 AVal) : T3 AVal := N16.rec (α := T2 AVal) (motive := fun _ => T2 AVal → T3 AVal) (fun a0 a1 a2 _ a4 a5 a6 a7 a8 a9 a10 a11 a12 a13 a14 a15 v => N16.mk a0 a1 a2 v a4 a5 a6 a7 a8 a9 a10 a11 a12 a13 a14 a15) e v
def qi9 (v : T2 AVal) (e : T3 AVal) : T3 AVal := N16.rec (α := T2 AVal) (motive := fun _ => T2 AVal → T3 AVal) (fun a0 a1 a2 a3 _ a5 a6 a7 a8 a9 a10 a11 a12 a13 a14 a15 v => N16.mk a0 a1 a2 a3 v a5 a6 a7 a8 a9 a10 a11 a12 a13 a14 a15) e v
def qje (v : T2 AVal) (e : T3 AVal) : T3 AVal := N16.rec (α := T2 AVal) (motive := fun _ => T2 AVal → T3 AVal) (fun a0 a1 a2 a3 a4 _ a6 a7 a8 a9 a10 a11 a12 a13 a14 a15 v => N16.mk a0 a1 a2 a3 a4 v a6 a7 a8 a9 a10 a11 a12 a13 a14 a15) e v
def qhu (v : T2 AVal) (e : T3 AVal) : T3 AVal := N16.rec (α := T2 AVal) (motive := fun _ => T2 AVal → T3 AVal) (fun a0 a1 a2 a3 a4 a5 _ a7 a8 a9 a10 a11 a12 a13 a14 a15 v => N16.mk a0 a1 a2 a3 a4 a5 v a7 a8 a9 a10 a11 a12 a13 a14 a15) e v
def qhp (v : T2 AVal) (e : T3 AVal) : T3 AVal := N16.rec (α := T2 AVal) (motive := fun _ => T2 AVal → T3 AVal) (fun a0 a1 a2 a3 a4 a5 a6 _ a8 a9 a10 a11 a12 a13 a14 a15 v => N16.mk a0 a1 a2 a3 a4 a5 a6 v a8 a9 a10 a11 a12 a13 a14 a15) e v
def qj7 (v : T2 AVal) (e : T3 AVal) : T3 AVal := N16.rec (α := T2 AVal) (motive := fun _ => T2 AVal → T3 AVal) (fun a0 a1 a2 a3 a4 a5 a6 a7 _ a9 a10 a11 a12 a13 a14 a15 v => N16.mk a0 a1 a2 a3 a4 a5 a6 a7 v a9 a10 a11 a12 a13 a14 a15) e v
def qiy (v : T2 AVal) (e : T3 AVal) : T3 AVal := N16.rec (α := T2 AVal) (motive := fun _ => T2 AVal → T3 AVal) (fun a0 a1 a2 a3 a4 a5 a6 a7 a8 _ a10 a11 a12 a13 a14 a15 v => N16.mk a0 a1 a2 a3 a4 a5 a6 a7 a8 v a10 a11 a12 a13 a14 a15) e v
def qfx (v : T2 AVal) (e : T3 AVal) : T3 AVal := N16.rec (α := T2 AVal) (motive := fun _ => T2 AVal → T3 AVal) (fun a0 a1 a2 a3 a4 a5 a6 a7 a8 a9 _ a11 a12 a13 a14 a15 v => N16.mk a0 a1 a2 a3 a4 a5 a6 a7 a8 a9 v a11 a12 a13 a14 a15) e v
def qgt (v : T2 AVal) (e : T3 AVal) : T3 AVal := N16.rec (α := T2 AVal) (motive := fun _ => T2 AVal → T3 AVal) (fun a0 a1 a2 a3 a4 a5 a6 a7 a8 a9 a10 _ a12 a13 a14 a15 v => N16.mk a0 a1 a2 a3 a4 a5 a6 a7 a8 a9 a10 v a12 a13 a14 a15) e v
def qgp (v : T2 AVal) (e : T3 AVal) : T3 AVal := N16.rec (α := T2 AVal) (motive := fun _ => T2 AVal → T3 AVal) (fun a0 a1 a2 a3 a4 a5 a6 a7 a8 a9 a10 a11 _ a13 a14 a15 v => N16.mk a0 a1 a2 a3 a4 a5 a6 a7 a8 a9 a10 a11 v a13 a14 a15) e v
def qfs (v : T2 AVal) (e : T3 AVal) : T3 AVal := N16.rec (α := T2 AVal) (motive := fun _ => T2 AVal → T3 AVal) (fun a0 a1 a2 a3 a4 a5 a6 a7 a8 a9 a10 a11 a12 _ a14 a15 v => N16.mk a0 a1 a2 a3 a4 a5 a6 a7 a8 a9 a10 a11 a12 v a14 a15) e v
def qh0 (v : T2 AVal) (e : T3 AVal) : T3 AVal := N16.rec (α := T2 AVal) (motive := fun _ => T2 AVal → T3 AVal) (fun a0 a1 a2 a3 a4 a5 a6 a7 a8 a9 a10 a11 a12 a13 _ a15 v => N16.mk a0 a1 a2 a3 a4 a5 a6 a7 a8 a9 a10 a11 a12 a13 v a15) e v
def qfh (v : T2 AVal) (e : T3 AVal) : T3 AVal := N16.rec (α := T2 AVal) (motive := fun _ => T2 AVal → T3 AVal) (fun a0 a1 a2 a3 a4 a5 a6 a7 a8 a9 a10 a11 a12 a13 a14 _ v => N16.mk a0 a1 a2 a3 a4 a5 a6 a7 a8 a9 a10 a11 a12 a13 a14 v) e v
def gA3 (i : Ix) : T3 AVal → T2 AVal := Ix.rec (motive := fun _ => T3 AVal → T2 AVal) N16.f0 N16.f1 N16.f2 N16.f3 N16.f4 N16.f5 N16.f6 N16.f7 N16.f8 N16.f9 N16.f10 N16.f11 N16.f12 N16.f13 N16.f14 N16.f15 i
def sA3 (i : Ix) : T2 AVal → T3 AVal → T3 AVal := Ix.rec (motive := fun _ => T2 AVal → T3 AVal → T3 AVal) qja qhi qhr qhw qi9 qje qhu qhp qj7 qiy qfx qgt qgp qfs qh0 qfh i
theorem qaj (i : Ix) (e : T3 AVal) : gA3 i e = N16.get i e := by cases i <;> rfl
theorem qfy (i : Ix) (v : T2 AVal) (e : T3 AVal) : sA3 i v e = N16.set i v e := by cases i <;> rfl
def qiq (v : OObj) (e : N16 OObj) : N16 OObj := N16.rec (α := OObj) (motive := fun _ => OObj → N16 OObj) (fun _ a1 a2 a3 a4 a5 a6 a7 a8 a9 a10 a11 a12 a13 a14 a15 v => N16.mk v a1 a2 a3 a4 a5 a6 a7 a8 a9 a10 a11 a12 a13 a14 a15) e v
def qjj (v : OObj) (e : N16 OObj) : N16 OObj := N16.rec (α := OObj) (motive := fun _ => OObj → N16 OObj) (fun a0 _ a2 a3 a4 a5 a6 a7 a8 a9 a10 a11 a12 a13 a14 a15 v => N16.mk a0 v a2 a3 a4 a5 a6 a7 a8 a9 a10 a11 a12 a13 a14 a15) e v
def qiv (v : OObj) (e : N16 OObj) : N16 OObj := N16.rec (α := OObj) (motive := fun _ => OObj → N16 OObj) (fun a0 a1 _ a3 a4 a5 a6 a7 a8 a9 a10 a11 a12 a13 a14 a15 v => N16.mk a0 a1 v a3 a4 a5 a6 a7 a8 a9 a10 a11 a12 a13 a14 a15) e v
def qis (v : OObj) (e : N16 OObj) : N16 OObj := N16.rec (α := OObj) (motive := fun _ => OObj → N16 OObj) (fun a0 a1 a2 _ a4 a5 a6 a7 a8 a9 a10 a11 a12 a13 a14 a15 v => N16.mk a0 a1 a2 v a4 a5 a6 a7 a8 a9 a10 a11 a12 a13 a14 a15) e v
def qjq (v : OObj) (e : N16 OObj) : N16 OObj := N16.rec (α := OObj) (motive := fun _ => OObj → N16 OObj) (fun a0 a1 a2 a3 _ a5 a6 a7 a8 a9 a10 a11 a12 a13 a14 a15 v => N16.mk a0 a1 a2 a3 v a5 a6 a7 a8 a9 a10 a11 a12 a13 a14 a15) e v
def qji (v : OObj) (e : N16 OObj) : N16 OObj := N16.rec (α := OObj) (motive := fun _ => OObj → N16 OObj) (fun a0 a1 a2 a3 a4 _ a6 a7 a8 a9 a10 a11 a12 a13 a14 a15 v => N16.mk a0 a1 a2 a3 a4 v a6 a7 a8 a9 a10 a11 a12 a13 a14 a15) e v
def qi4 (v : OObj) (e : N16 OObj) : N16 OObj := N16.rec (α := OObj) (motive := fun _ => OObj → N16 OObj) (fun a0 a1 a2 a3 a4 a5 _ a7 a8 a9 a10 a11 a12 a13 a14 a15 v => N16.mk a0 a1 a2 a3 a4 a5 v a7 a8 a9 a10 a11 a12 a13 a14 a15) e v
def qj9 (v : OObj) (e : N16 OObj) : N16 OObj := N16.rec (α := OObj) (motive := fun _ => OObj → N16 OObj) (fun a0 a1 a2 a3 a4 a5 a6 _ a8 a9 a10 a11 a12 a13 a14 a15 v => N16.mk a0 a1 a2 a3 a4 a5 a6 v a8 a9 a10 a11 a12 a13 a14 a15) e v
def qjk (v : OObj) (e : N16 OObj) : N16 OObj := N16.rec (α := OObj) (motive := fun _ => OObj → N16 OObj) (fun a0 a1 a2 a3 a4 a5 a6 a7 _ a9 a10 a11 a12 a13 a14 a15 v => N16.mk a0 a1 a2 a3 a4 a5 a6 a7 v a9 a10 a11 a12 a13 a14 a15) e v
def qig (v : OObj) (e : N16 OObj) : N16 OObj := N16.rec (α := OObj) (motive := fun _ => OObj → N16 OObj) (fun a0 a1 a2 a3 a4 a5 a6 a7 a8 _ a10 a11 a12 a13 a14 a15 v => N16.mk a0 a1 a2 a3 a4 a5 a6 a7 a8 v a10 a11 a12 a13 a14 a15) e v
def qg3 (v : OObj) (e : N16 OObj) : N16 OObj := N16.rec (α := OObj) (motive := fun _ => OObj → N16 OObj) (fun a0 a1 a2 a3 a4 a5 a6 a7 a8 a9 _ a11 a12 a13 a14 a15 v => N16.mk a0 a1 a2 a3 a4 a5 a6 a7 a8 a9 v a11 a12 a13 a14 a15) e v
def qgs (v : OObj) (e : N16 OObj) : N16 OObj := N16.rec (α := OObj) (motive := fun _ => OObj → N16 OObj) (fun a0 a1 a2 a3 a4 a5 a6 a7 a8 a9 a10 _ a12 a13 a14 a15 v => N16.mk a0 a1 a2 a3 a4 a5 a6 a7 a8 a9 a10 v a12 a13 a14 a15) e v
def qgq (v : OObj) (e : N16 OObj) : N16 OObj := N16.rec (α := OObj) (motive := fun _ => OObj → N16 OObj) (fun a0 a1 a2 a3 a4 a5 a6 a7 a8 a9 a10 a11 _ a13 a14 a15 v => N16.mk a0 a1 a2 a3 a4 a5 a6 a7 a8 a9 a10 a11 v a13 a14 a15) e v
def qg0 (v : OObj) (e : N16 OObj) : N16 OObj := N16.rec (α := OObj) (motive := fun _ => OObj → N16 OObj) (fun a0 a1 a2 a3 a4 a5 a6 a7 a8 a9 a10 a11 a12 _ a14 a15 v => N16.mk a0 a1 a2 a3 a4 a5 a6 a7 a8 a9 a10 a11 a12 v a14 a15) e v
def qff (v : OObj) (e : N16 OObj) : N16 OObj := N16.rec (α := OObj) (motive := fun _ => OObj → N16 OObj) (fun a0 a1 a2 a3 a4 a5 a6 a7 a8 a9 a10 a11 a12 a13 _ a15 v => N16.mk a0 a1 a2 a3 a4 a5 a6 a7 a8 a9 a10 a11 a12 a13 v a15) e v
def qfw (v : OObj) (e : N16 OObj) : N16 OObj := N16.rec (α := OObj) (motive := fun _ => OObj → N16 OObj) (fun a0 a1 a2 a3 a4 a5 a6 a7 a8 a9 a10 a11 a12 a13 a14 _ v => N16.mk a0 a1 a2 a3 a4 a5 a6 a7 a8 a9 a10 a11 a12 a13 a14 v) e v
def gH1 (i : Ix) : N16 OObj → OObj := Ix.rec (motive := fun _ => N16 OObj → OObj) N16.f0 N16.f1 N16.f2 N16.f3 N16.f4 N16.f5 N16.f6 N16.f7 N16.f8 N16.f9 N16.f10 N16.f11 N16.f12 N16.f13 N16.f14 N16.f15 i
def sH1 (i : Ix) : OObj → N16 OObj → N16 OObj := Ix.rec (motive := fun _ => OObj → N16 OObj → N16 OObj) qiq qjj qiv qis qjq qji qi4 qj9 qjk qig qg3 qgs qgq qg0 qff qfw i
theorem qh5 (i : Ix) (e : N16 OObj) : gH1 i e = N16.get i e := by cases i <;> rfl
theorem qfc (i : Ix) (v : OObj) (e : N16 OObj) : sH1 i v e = N16.set i v e := by cases i <;> rfl
def qhs (v : N16 OObj) (e : T2 OObj) : T2 OObj := N16.rec (α := N16 OObj) (motive := fun _ => N16 OObj → T2 OObj) (fun _ a1 a2 a3 a4 a5 a6 a7 a8 a9 a10 a11 a12 a13 a14 a15 v => N16.mk v a1 a2 a3 a4 a5 a6 a7 a8 a9 a10 a11 a12 a13 a14 a15) e v
def qjf (v : N16 OObj) (e : T2 OObj) : T2 OObj := N16.rec (α := N16 OObj) (motive := fun _ => N16 OObj → T2 OObj) (fun a0 _ a2 a3 a4 a5 a6 a7 a8 a9 a10 a11 a12 a13 a14 a15 v => N16.mk a0 v a2 a3 a4 a5 a6 a7 a8 a9 a10 a11 a12 a13 a14 a15) e v
def qj3 (v : N16 OObj) (e : T2 OObj) : T2 OObj := N16.rec (α := N16 OObj) (motive := fun _ => N16 OObj → T2 OObj) (fun a0 a1 _ a3 a4 a5 a6 a7 a8 a9 a10 a11 a12 a13 a14 a15 v => N16.mk a0 a1 v a3 a4 a5 a6 a7 a8 a9 a10 a11 a12 a13 a14 a15) e v
def qhg (v : N16 OObj) (e : T2 OObj) : T2 OObj := N16.rec (α := N16 OObj) (motive := fun _ => N16 OObj → T2 OObj) (fun a0 a1 a2 _ a4 a5 a6 a7 a8 a9 a10 a11 a12 a13 a14 a15 v => N16.mk a0 a1 a2 v a4 a5 a6 a7 a8 a9 a10 a11 a12 a13 a14 a15) e v
def qim (v : N16 OObj) (e : T2 OObj) : T2 OObj := N16.rec (α := N16 OObj) (motive := fun _ => N16 OObj → T2 OObj) (fun a0 a1 a2 a3 _ a5 a6 a7 a8 a9 a10 a11 a12 a13 a14 a15 v => N16.mk a0 a1 a2 a3 v a5 a6 a7 a8 a9 a10 a11 a12 a13 a14 a15) e v
def qjr (v : N16 OObj) (e : T2 OObj) : T2 OObj := N16.rec (α := N16 OObj) (motive := fun _ => N16 OObj → T2 OObj) (fun a0 a1 a2 a3 a4 _ a6 a7 a8 a9 a10 a11 a12 a13 a14 a15 v => N16.mk a0 a1 a2 a3 a4 v a6 a7 a8 a9 a10 a11 a12 a13 a14 a15) e v
def qhk (v : N16 OObj) (e : T2 OObj) : T2 OObj := N16.rec (α := N16 OObj) (motive := fun _ => N16 OObj → T2 OObj) (fun a0 a1 a2 a3 a4 a5 _ a7 a8 a9 a10 a11 a12 a13 a14 a15 v => N16.mk a0 a1 a2 a3 a4 a5 v a7 a8 a9 a10 a11 a12 a13 a14 a15) e v
def qjd (v : N16 OObj) (e : T2 OObj) : T2 OObj := N16.rec (α := N16 OObj) (motive := fun _ => N16 OObj → T2 OObj) (fun a0 a1 a2 a3 a4 a5 a6 _ a8 a9 a10 a11 a12 a13 a14 a15 v => N16.mk a0 a1 a2 a3 a4 a5 a6 v a8 a9 a10 a11 a12 a13 a14 a15) e v
def qj4 (v : N16 OObj) (e : T2 OObj) : T2 OObj := N16.rec (α := N16 OObj) (motive := fun _ => N16 OObj → T2 OObj) (fun a0 a1 a2 a3 a4 a5 a6 a7 _ a9 a10 a11 a12 a13 a14 a15 v => N16.mk a0 a1 a2 a3 a4 a5 a6 a7 v a9 a10 a11 a12 a13 a14 a15) e v
def qhf (v : N16 OObj) (e : T2 OObj) : T2 OObj := N16.rec (α := N16 OObj) (motive := fun _ => N16 OObj → T2 OObj) (fun a0 a1 a2 a3 a4 a5 a6 a7 a8 _ a10 a11 a12 a13 a14 a15 v => N16.mk a0 a1 a2 a3 a4 a5 a6 a7 a8 v a10 a11 a12 a13 a14 a15) e v
def qgl (v : N16 OObj) (e : T2 OObj) : T2 OObj := N16.rec (α := N16 OObj) (motive := fun _ => N16 OObj → T2 OObj) (fun a0 a1 a2 a3 a4 a5 a6 a7 a8 a9 _ a11 a12 a13 a14 a15 v => N16.mk a0 a1 a2 a3 a4 a5 a6 a7 a8 a9 v a11 a12 a13 a14 a15) e v
def qhc (v : N16 OObj) (e : T2 OObj) : T2 OObj := N16.rec (α := N16 OObj) (motive := fun _ => N16 OObj → T2 OObj) (fun a0 a1 a2 a3 a4 a5 a6 a7 a8 a9 a10 _ a12 a13 a14 a15 v => N16.mk a0 a1 a2 a3 a4 a5 a6 a7 a8 a9 a10 v a12 a13 a14 a15) e v
def qfz (v : N16 OObj) (e : T2 OObj) : T2 OObj := N16.rec (α := N16 OObj) (motive := fun _ => N16 OObj → T2 OObj) (fun a0 a1 a2 a3 a4 a5 a6 a7 a8 a9 a10 a11 _ a13 a14 a15 v => N16.mk a0 a1 a2 a3 a4 a5 a6 a7 a8 a9 a10 a11 v a13 a14 a15) e v
def qgd (v : N16 OObj) (e : T2 OObj) : T2 OObj := N16.rec (α := N16 OObj) (motive := fun _ => N16 OObj → T2 OObj) (fun a0 a1 a2 a3 a4 a5 a6 a7 a8 a9 a10 a11 a12 _ a14 a15 v => N16.mk a0 a1 a2 a3 a4 a5 a6 a7 a8 a9 a10 a11 a12 v a14 a15) e v
def qfi (v : N16 OObj) (e : T2 OObj) : T2 OObj := N16.rec (α := N16 OObj) (motive := fun _ => N16 OObj → T2 OObj) (fun a0 a1 a2 a3 a4 a5 a6 a7 a8 a9 a10 a11 a12 a13 _ a15 v => N16.mk a0 a1 a2 a3 a4 a5 a6 a7 a8 a9 a10 a11 a12 a13 v a15) e v
def qgy (v : N16 OObj) (e : T2 OObj) : T2 OObj := N16.rec (α := N16 OObj) (motive := fun _ => N16 OObj → T2 OObj) (fun a0 a1 a2 a3 a4 a5 a6 a7 a8 a9 a10 a11 a12 a13 a14 _ v => N16.mk a0 a1 a2 a3 a4 a5 a6 a7 a8 a9 a10 a11 a12 a13 a14 v) e v
def gH2 (i : Ix) : T2 OObj → N16 OObj := Ix.rec (motive := fun _ => T2 OObj → N16 OObj) N16.f0 N16.f1 N16.f2 N16.f3 N16.f4 N16.f5 N16.f6 N16.f7 N16.f8 N16.f9 N16.f10 N16.f11 N16.f12 N16.f13 N16.f14 N16.f15 i
def sH2 (i : Ix) : N16 OObj → T2 OObj → T2 OObj := Ix.rec (motive := fun _ => N16 OObj → T2 OObj → T2 OObj) qhs qjf qj3 qhg qim qjr qhk qjd qj4 qhf qgl qhc qfz qgd qfi qgy i
theorem qaz (i : Ix) (e : T2 OObj) : gH2 i e = N16.get i e := by cases i <;> rfl
theorem qfp (i : Ix) (v : N16 OObj) (e : T2 OObj) : sH2 i v e = N16.set i v e := by cases i <;> rfl
def qiz (v : T2 OObj) (e : T3 OObj) : T3 OObj := N16.rec (α := T2 OObj) (motive := fun _ => T2 OObj → T3 OObj) (fun _ a1 a2 a3 a4 a5 a6 a7 a8 a9 a10 a11 a12 a13 a14 a15 v => N16.mk v a1 a2 a3 a4 a5 a6 a7 a8 a9 a10 a11 a12 a13 a14 a15) e v
def qii (v : T2 OObj) (e : T3 OObj) : T3 OObj := N16.rec (α := T2 OObj) (motive := fun _ => T2 OObj → T3 OObj) (fun a0 _ a2 a3 a4 a5 a6 a7 a8 a9 a10 a11 a12 a13 a14 a15 v => N16.mk a0 v a2 a3 a4 a5 a6 a7 a8 a9 a10 a11 a12 a13 a14 a15) e v
def qi6 (v : T2 OObj) (e : T3 OObj) : T3 OObj := N16.rec (α := T2 OObj) (motive := fun _ => T2 OObj → T3 OObj) (fun a0 a1 _ a3 a4 a5 a6 a7 a8 a9 a10 a11 a12 a13 a14 a15 v => N16.mk a0 a1 v a3 a4 a5 a6 a7 a8 a9 a10 a11 a12 a13 a14 a15) e v
def qjc (v : T2 OObj) (e : T3 OObj) : T3 OObj := N16.rec (α := T2 OObj) (motive := fun _ => T2 OObj → T3 OObj) (fun a0 a1 a2 _ a4 a5 a6 a7 a8 a9 a10 a11 a12 a13 a14 a15 v => N16.mk a0 a1 a2 v a4 a5 a6 a7 a8 a9 a10 a11 a12 a13 a14 a15) e v
def qi1 (v : T2 OObj) (e : T3 OObj) : T3 OObj := N16.rec (α := T2 OObj) (motive := fun _ => T2 OObj → T3 OObj) (fun a0 a1 a2 a3 _ a5 a6 a7 a8 a9 a10 a11 a12 a13 a14 a15 v => N16.mk a0 a1 a2 a3 v a5 a6 a7 a8 a9 a10 a11 a12 a13 a14 a15) e v
def qjb (v : T2 OObj) (e : T3 OObj) : T3 OObj := N16.rec (α := T2 OObj) (motive := fun _ => T2 OObj → T3 OObj) (fun a0 a1 a2 a3 a4 _ a6 a7 a8 a9 a10 a11 a12 a13 a14 a15 v => N16.mk a0 a1 a2 a3 a4 v a6 a7 a8 a9 a10 a11 a12 a13 a14 a15) e v
def qjt (v : T2 OObj) (e : T3 OObj) : T3 OObj := N16.rec (α := T2 OObj) (motive := fun _ => T2 OObj → T3 OObj) (fun a0 a1 a2 a3 a4 a5 _ a7 a8 a9 a10 a11 a12 a13 a14 a15 v => N16.mk a0 a1 a2 a3 a4 a5 v a7 a8 a9 a10 a11 a12 a13 a14 a15) e v
def qhh (v : T2 OObj) (e : T3 OObj) : T3 OObj := N16.rec (α := T2 OObj) (motive := fun _ => T2 OObj → T3 OObj) (fun a0 a1 a2 a3 a4 a5 a6 _ a8 a9 a10 a11 a12 a13 a14 a15 v => N16.mk a0 a1 a2 a3 a4 a5 a6 v a8 a9 a10 a11 a12 a13 a14 a15) e v
def qjn (v : T2 OObj) (e : T3 OObj) : T3 OObj := N16.rec (α := T2 OObj) (motive := fun _ => T2 OObj → T3 OObj) (fun a0 a1 a2 a3 a4 a5 a6 a7 _ a9 a10 a11 a12 a13 a14 a15 v => N16.mk a0 a1 a2 a3 a4 a5 a6 a7 v a9 a10 a11 a12 a13 a14 a15) e v
def qip (v : T2 OObj) (e : T3 OObj) : T3 OObj := N16.rec (α := T2 OObj) (motive := fun _ => T2 OObj → T3 OObj) (fun a0 a1 a2 a3 a4 a5 a6 a7 a8 _ a10 a11 a12 a13 a14 a15 v => N16.mk a0 a1 a2 a3 a4 a5 a6 a7 a8 v a10 a11 a12 a13 a14 a15) e v
def qgi (v : T2 OObj) (e : T3 OObj) : T3 OObj := N16.rec (α := T2 OObj) (motive := fun _ => T2 OObj → T3 OObj) (fun a0 a1 a2 a3 a4 a5 a6 a7 a8 a9 _ a11 a12 a13 a14 a15 v => N16.mk a0 a1 a2 a3 a4 a5 a6 a7 a8 a9 v a11 a12 a13 a14 a15) e v
def qfl (v : T2 OObj) (e : T3 OObj) : T3 OObj := N16.rec (α := T2 OObj) (motive := fun _ => T2 OObj → T3 OObj) (fun a0 a1 a2 a3 a4 a5 a6 a7 a8 a9 a10 _ a12 a13 a14 a15 v => N16.mk a0 a1 a2 a3 a4 a5 a6 a7 a8 a9 a10 v a12 a13 a14 a15) e v
def qfb (v : T2 OObj) (e : T3 OObj) : T3 OObj := N16.rec (α := T2 OObj) (motive := fun _ => T2 OObj → T3 OObj) (fun a0 a1 a2 a3 a4 a5 a6 a7 a8 a9 a10 a11 _ a13 a14 a15 v => N16.mk a0 a1 a2 a3 a4 a5 a6 a7 a8 a9 a10 a11 v a13 a14 a15) e v
def qfj (v : T2 OObj) (e : T3 OObj) : T3 OObj := N16.rec (α := T2 OObj) (motive := fun _ => T2 OObj → T3 OObj) (fun a0 a1 a2 a3 a4 a5 a6 a7 a8 a9 a10 a11 a12 _ a14 a15 v => N16.mk a0 a1 a2 a3 a4 a5 a6 a7 a8 a9 a10 a11 a12 v a14 a15) e v
def qgg (v : T2 OObj) (e : T3 OObj) : T3 OObj := N16.rec (α := T2 OObj) (motive := fun _ => T2 OObj → T3 OObj) (fun a0 a1 a2 a3 a4 a5 a6 a7 a8 a9 a10 a11 a12 a13 _ a15 v => N16.mk a0 a1 a2 a3 a4 a5 a6 a7 a8 a9 a10 a11 a12 a13 v a15) e v
def qh4 (v : T2 OObj) (e : T3 OObj) : T3 OObj := N16.rec (α := T2 OObj) (motive := fun _ => T2 OObj → T3 OObj) (fun a0 a1 a2 a3 a4 a5 a6 a7 a8 a9 a10 a11 a12 a13 a14 _ v => N16.mk a0 a1 a2 a3 a4 a5 a6 a7 a8 a9 a10 a11 a12 a13 a14 v) e v
def gH3 (i : Ix) : T3 OObj → T2 OObj := Ix.rec (motive := fun _ => T3 OObj → T2 OObj) N16.f0 N16.f1 N16.f2 N16.f3 N16.f4 N16.f5 N16.f6 N16.f7 N16.f8 N16.f9 N16.f10 N16.f11 N16.f12 N16.f13 N16.f14 N16.f15 i
def sH3 (i : Ix) : T2 OObj → T3 OObj → T3 OObj := Ix.rec (motive := fun _ => T2 OObj → T3 OObj → T3 OObj) qiz qii qi6 qjc qi1 qjb qjt qhh qjn qip qgi qfl qfb qfj qgg qh4 i
theorem YH (i : Ix) (e : T3 OObj) : gH3 i e = N16.get i e := by cases i <;> rfl
theorem qh7 (i : Ix) (v : T2 OObj) (e : T3 OObj) : sH3 i v e = N16.set i v e := by cases i <;> rfl
def qia (v : T3 OObj) (e : N16 (T3 OObj)) : N16 (T3 OObj) := N16.rec (α := T3 OObj) (motive := fun _ => T3 OObj → N16 (T3 OObj)) (fun _ a1 a2 a3 a4 a5 a6 a7 a8 a9 a10 a11 a12 a13 a14 a15 v => N16.mk v a1 a2 a3 a4 a5 a6 a7 a8 a9 a10 a11 a12 a13 a14 a15) e v
def qij (v : T3 OObj) (e : N16 (T3 OObj)) : N16 (T3 OObj) := N16.rec (α := T3 OObj) (motive := fun _ => T3 OObj → N16 (T3 OObj)) (fun a0 _ a2 a3 a4 a5 a6 a7 a8 a9 a10 a11 a12 a13 a14 a15 v => N16.mk a0 v a2 a3 a4 a5 a6 a7 a8 a9 a10 a11 a12 a13 a14 a15) e v
def qie (v : T3 OObj) (e : N16 (T3 OObj)) : N16 (T3 OObj) := N16.rec (α := T3 OObj) (motive := fun _ => T3 OObj → N16 (T3 OObj)) (fun a0 a1 _ a3 a4 a5 a6 a7 a8 a9 a10 a11 a12 a13 a14 a15 v => N16.mk a0 a1 v a3 a4 a5 a6 a7 a8 a9 a10 a11 a12 a13 a14 a15) e v
def qhn (v : T3 OObj) (e : N16 (T3 OObj)) : N16 (T3 OObj) := N16.rec (α := T3 OObj) (motive := fun _ => T3 OObj → N16 (T3 OObj)) (fun a0 a1 a2 _ a4 a5 a6 a7 a8 a9 a10 a11 a12 a13 a14 a15 v => N16.mk a0 a1 a2 v a4 a5 a6 a7 a8 a9 a10 a11 a12 a13 a14 a15) e v
def qhq (v : T3 OObj) (e : N16 (T3 OObj)) : N16 (T3 OObj) := N16.rec (α := T3 OObj) (motive := fun _ => T3 OObj → N16 (T3 OObj)) (fun a0 a1 a2 a3 _ a5 a6 a7 a8 a9 a10 a11 a12 a13 a14 a15 v => N16.mk a0 a1 a2 a3 v a5 a6 a7 a8 a9 a10 a11 a12 a13 a14 a15) e v
def qj2 (v : T3 OObj) (e : N16 (T3 OObj)) : N16 (T3 OObj) := N16.rec (α := T3 OObj) (motive := fun _ => T3 OObj → N16 (T3 OObj)) (fun a0 a1 a2 a3 a4 _ a6 a7 a8 a9 a10 a11 a12 a13 a14 a15 v => N16.mk a0 a1 a2 a3 a4 v a6 a7 a8 a9 a10 a11 a12 a13 a14 a15) e v
def qif (v : T3 OObj) (e : N16 (T3 OObj)) : N16 (T3 OObj) := N16.rec (α := T3 OObj) (motive := fun _ => T3 OObj → N16 (T3 OObj)) (fun a0 a1 a2 a3 a4 a5 _ a7 a8 a9 a10 a11 a12 a13 a14 a15 v => N16.mk a0 a1 a2 a3 a4 a5 v a7 a8 a9 a10 a11 a12 a13 a14 a15) e v
def qho (v : T3 OObj) (e : N16 (T3 OObj)) : N16 (T3 OObj) := N16.rec (α := T3 OObj) (motive := fun _ => T3 OObj → N16 (T3 OObj)) (fun a0 a1 a2 a3 a4 a5 a6 _ a8 a9 a10 a11 a12 a13 a14 a15 v => N16.mk a0 a1 a2 a3 a4 a5 a6 v a8 a9 a10 a11 a12 a13 a14 a15) e v
def qiw (v : T3 OObj) (e : N16 (T3 OObj)) : N16 (T3 OObj) := N16.rec (α := T3 OObj) (motive := fun _ => T3 OObj → N16 (T3 OObj)) (fun a0 a1 a2 a3 a4 a5 a6 a7 _ a9 a10 a11 a12 a13 a14 a15 v => N16.mk a0 a1 a2 a3 a4 a5 a6 a7 v a9 a10 a11 a12 a13 a14 a15) e v
def qjl (v : T3 OObj) (e : N16 (T3 OObj)) : N16 (T3 OObj) := N16.rec (α := T3 OObj) (motive := fun _ => T3 OObj → N16 (T3 OObj)) (fun a0 a1 a2 a3 a4 a5 a6 a7 a8 _ a10 a11 a12 a13 a14 a15 v => N16.mk a0 a1 a2 a3 a4 a5 a6 a7 a8 v a10 a11 a12 a13 a14 a15) e v
def qgn (v : T3 OObj) (e : N16 (T3 OObj)) : N16 (T3 OObj) := N16.rec (α := T3 OObj) (motive := fun _ => T3 OObj → N16 (T3 OObj)) (fun a0 a1 a2 a3 a4 a5 a6 a7 a8 a9 _ a11 a12 a13 a14 a15 v => N16.mk a0 a1 a2 a3 a4 a5 a6 a7 a8 a9 v a11 a12 a13 a14 a15) e v
def qfg (v : T3 OObj) (e : N16 (T3 OObj)) : N16 (T3 OObj) := N16.rec (α := T3 OObj) (motive := fun _ => T3 OObj → N16 (T3 OObj)) (fun a0 a1 a2 a3 a4 a5 a6 a7 a8 a9 a10 _ a12 a13 a14 a15 v => N16.mk a0 a1 a2 a3 a4 a5 a6 a7 a8 a9 a10 v a12 a13 a14 a15) e v
def qg8 (v : T3 OObj) (e : N16 (T3 OObj)) : N16 (T3 OObj) := N16.rec (α := T3 OObj) (motive := fun _ => T3 OObj → N16 (T3 OObj)) (fun a0 a1 a2 a3 a4 a5 a6 a7 a8 a9 a10 a11 _ a13 a14 a15 v => N16.mk a0 a1 a2 a3 a4 a5 a6 a7 a8 a9 a10 a11 v a13 a14 a15) e v
def qh9 (v : T3 OObj) (e : N16 (T3 OObj)) : N16 (T3 OObj) := N16.rec (α := T3 OObj) (motive := fun _ => T3 OObj → N16 (T3 OObj)) (fun a0 a1 a2 a3 a4 a5 a6 a7 a8 a9 a10 a11 a12 _ a14 a15 v => N16.mk a0 a1 a2 a3 a4 a5 a6 a7 a8 a9 a10 a11 a12 v a14 a15) e v
def qg6 (v : T3 OObj) (e : N16 (T3 OObj)) : N16 (T3 OObj) := N16.rec (α := T3 OObj) (motive := fun _ => T3 OObj → N16 (T3 OObj)) (fun a0 a1 a2 a3 a4 a5 a6 a7 a8 a9 a10 a11 a12 a13 _ a15 v => N16.mk a0 a1 a2 a3 a4 a5 a6 a7 a8 a9 a10 a11 a12 a13 v a15) e v
def qg7 (v : T3 OObj) (e : N16 (T3 OObj)) : N16 (T3 OObj) := N16.rec (α := T3 OObj) (motive := fun _ => T3 OObj → N16 (T3 OObj)) (fun a0 a1 a2 a3 a4 a5 a6 a7 a8 a9 a10 a11 a12 a13 a14 _ v => N16.mk a0 a1 a2 a3 a4 a5 a6 a7 a8 a9 a10 a11 a12 a13 a14 v) e v
def gH4 (i : Ix) : N16 (T3 OObj) → T3 OObj := Ix.rec (motive := fun _ => N16 (T3 OObj) → T3 OObj) N16.f0 N16.f1 N16.f2 N16.f3 N16.f4 N16.f5 N16.f6 N16.f7 N16.f8 N16.f9 N16.f10 N16.f11 N16.f12 N16.f13 N16.f14 N16.f15 i
def sH4 (i : Ix) : T3 OObj → N16 (T3 OObj) → N16 (T3 OObj) := Ix.rec (motive := fun _ => T3 OObj → N16 (T3 OObj) → N16 (T3 OObj)) qia qij qie qhn qhq qj2 qif qho qiw qjl qgn qfg qg8 qh9 qg6 qg7 i
theorem YZ (i : Ix) (e : N16 (T3 OObj)) : gH4 i e = N16.get i e := by cases i <;> rfl
theorem qfk (i : Ix) (v : T3 OObj) (e : N16 (T3 OObj)) : sH4 i v e = N16.set i v e := by cases i <;> rfl
def qir (v : N16 (T3 OObj)) (e : T5 OObj) : T5 OObj := N16.rec (α := N16 (T3 OObj)) (motive := fun _ => N16 (T3 OObj) → T5 OObj) (fun _ a1 a2 a3 a4 a5 a6 a7 a8 a9 a10 a11 a12 a13 a14 a15 v => N16.mk v a1 a2 a3 a4 a5 a6 a7 a8 a9 a10 a11 a12 a13 a14 a15) e v
def qi7 (v : N16 (T3 OObj)) (e : T5 OObj) : T5 OObj := N16.rec (α := N16 (T3 OObj)) (motive := fun _ => N16 (T3 OObj) → T5 OObj) (fun a0 _ a2 a3 a4 a5 a6 a7 a8 a9 a10 a11 a12 a13 a14 a15 v => N16.mk a0 v a2 a3 a4 a5 a6 a7 a8 a9 a10 a11 a12 a13 a14 a15) e v
def qin (v : N16 (T3 OObj)) (e : T5 OObj) : T5 OObj := N16.rec (α := N16 (T3 OObj)) (motive := fun _ => N16 (T3 OObj) → T5 OObj) (fun a0 a1 _ a3 a4 a5 a6 a7 a8 a9 a10 a11 a12 a13 a14 a15 v => N16.mk a0 a1 v a3 a4 a5 a6 a7 a8 a9 a10 a11 a12 a13 a14 a15) e v
def qit (v : N16 (T3 OObj)) (e : T5 OObj) : T5 OObj := N16.rec (α := N16 (T3 OObj)) (motive := fun _ => N16 (T3 OObj) → T5 OObj) (fun a0 a1 a2 _ a4 a5 a6 a7 a8 a9 a10 a11 a12 a13 a14 a15 v => N16.mk a0 a1 a2 v a4 a5 a6 a7 a8 a9 a10 a11 a12 a13 a14 a15) e v
def qid (v : N16 (T3 OObj)) (e : T5 OObj) : T5 OObj := N16.rec (α := N16 (T3 OObj)) (motive := fun _ => N16 (T3 OObj) → T5 OObj) (fun a0 a1 a2 a3 _ a5 a6 a7 a8 a9 a10 a11 a12 a13 a14 a15 v => N16.mk a0 a1 a2 a3 v a5 a6 a7 a8 a9 a10 a11 a12 a13 a14 a15) e v
def qib (v : N16 (T3 OObj)) (e : T5 OObj) : T5 OObj := N16.rec (α := N16 (T3 OObj)) (motive := fun _ => N16 (T3 OObj) → T5 OObj) (fun a0 a1 a2 a3 a4 _ a6 a7 a8 a9 a10 a11 a12 a13 a14 a15 v => N16.mk a0 a1 a2 a3 a4 v a6 a7 a8 a9 a10 a11 a12 a13 a14 a15) e v
def qi2 (v : N16 (T3 OObj)) (e : T5 OObj) : T5 OObj := N16.rec (α := N16 (T3 OObj)) (motive := fun _ => N16 (T3 OObj) → T5 OObj) (fun a0 a1 a2 a3 a4 a5 _ a7 a8 a9 a10 a11 a12 a13 a14 a15 v => N16.mk a0 a1 a2 a3 a4 a5 v a7 a8 a9 a10 a11 a12 a13 a14 a15) e v
def qhe (v : N16 (T3 OObj)) (e : T5 OObj) : T5 OObj := N16.rec (α := N16 (T3 OObj)) (motive := fun _ => N16 (T3 OObj) → T5 OObj) (fun a0 a1 a2 a3 a4 a5 a6 _ a8 a9 a10 a11 a12 a13 a14 a15 v => N16.mk a0 a1 a2 a3 a4 a5 a6 v a8 a9 a10 a11 a12 a13 a14 a15) e v
def qjm (v : N16 (T3 OObj)) (e : T5 OObj) : T5 OObj := N16.rec (α := N16 (T3 OObj)) (motive := fun _ => N16 (T3 OObj) → T5 OObj) (fun a0 a1 a2 a3 a4 a5 a6 a7 _ a9 a10 a11 a12 a13 a14 a15 v => N16.mk a0 a1 a2 a3 a4 a5 a6 a7 v a9 a10 a11 a12 a13 a14 a15) e v
def qhy (v : N16 (T3 OObj)) (e : T5 OObj) : T5 OObj := N16.rec (α := N16 (T3 OObj)) (motive := fun _ => N16 (T3 OObj) → T5 OObj) (fun a0 a1 a2 a3 a4 a5 a6 a7 a8 _ a10 a11 a12 a13 a14 a15 v => N16.mk a0 a1 a2 a3 a4 a5 a6 a7 a8 v a10 a11 a12 a13 a14 a15) e v
def qgv (v : N16 (T3 OObj)) (e : T5 OObj) : T5 OObj := N16.rec (α := N16 (T3 OObj)) (motive := fun _ => N16 (T3 OObj) → T5 OObj) (fun a0 a1 a2 a3 a4 a5 a6 a7 a8 a9 _ a11 a12 a13 a14 a15 v => N16.mk a0 a1 a2 a3 a4 a5 a6 a7 a8 a9 v a11 a12 a13 a14 a15) e v
def qgj (v : N16 (T3 OObj)) (e : T5 OObj) : T5 OObj := N16.rec (α := N16 (T3 OObj)) (motive := fun _ => N16 (T3 OObj) → T5 OObj) (fun a0 a1 a2 a3 a4 a5 a6 a7 a8 a9 a10 _ a12 a13 a14 a15 v => N16.mk a0 a1 a2 a3 a4 a5 a6 a7 a8 a9 a10 v a12 a13 a14 a15) e v
def qg9 (v : N16 (T3 OObj)) (e : T5 OObj) : T5 OObj := N16.rec (α := N16 (T3 OObj)) (motive := fun _ => N16 (T3 OObj) → T5 OObj) (fun a0 a1 a2 a3 a4 a5 a6 a7 a8 a9 a10 a11 _ a13 a14 a15 v => N16.mk a0 a1 a2 a3 a4 a5 a6 a7 a8 a9 a10 a11 v a13 a14 a15) e v
def qgz (v : N16 (T3 OObj)) (e : T5 OObj) : T5 OObj := N16.rec (α := N16 (T3 OObj)) (motive := fun _ => N16 (T3 OObj) → T5 OObj) (fun a0 a1 a2 a3 a4 a5 a6 a7 a8 a9 a10 a11 a12 _ a14 a15 v => N16.mk a0 a1 a2 a3 a4 a5 a6 a7 a8 a9 a10 a11 a12 v a14 a15) e v
def qfn (v : N16 (T3 OObj)) (e : T5 OObj) : T5 OObj := N16.rec (α := N16 (T3 OObj)) (motive := fun _ => N16 (T3 OObj) → T5 OObj) (fun a0 a1 a2 a3 a4 a5 a6 a7 a8 a9 a10 a11 a12 a13 _ a15 v => N16.mk a0 a1 a2 a3 a4 a5 a6 a7 a8 a9 a10 a11 a12 a13 v a15) e v
def qfu (v : N16 (T3 OObj)) (e : T5 OObj) : T5 OObj := N16.rec (α := N16 (T3 OObj)) (motive := fun _ => N16 (T3 OObj) → T5 OObj) (fun a0 a1 a2 a3 a4 a5 a6 a7 a8 a9 a10 a11 a12 a13 a14 _ v => N16.mk a0 a1 a2 a3 a4 a5 a6 a7 a8 a9 a10 a11 a12 a13 a14 v) e v
def gH5 (i : Ix) : T5 OObj → N16 (T3 OObj) := Ix.rec (motive := fun _ => T5 OObj → N16 (T3 OObj)) N16.f0 N16.f1 N16.f2 N16.f3 N16.f4 N16.f5 N16.f6 N16.f7 N16.f8 N16.f9 N16.f10 N16.f11 N16.f12 N16.f13 N16.f14 N16.f15 i
def sH5 (i : Ix) : N16 (T3 OObj) → T5 OObj → T5 OObj := Ix.rec (motive := fun _ => N16 (T3 OObj) → T5 OObj → T5 OObj) qir qi7 qin qit qid qib qi2 qhe qjm qhy qgv qgj qg9 qgz qfn qfu i
theorem YF (i : Ix) (e : T5 OObj) : gH5 i e = N16.get i e := by cases i <;> rfl
theorem qgo (i : Ix) (v : N16 (T3 OObj)) (e : T5 OObj) : sH5 i v e = N16.set i v e := by cases i <;> rfl
def hget (b : Nat) (H : Heap) : Option AObj := gH1 (dg 0 b) (gH2 (dg 4 b) (gH3 (dg 8 b) (gH4 (dg 12 b) (gH5 (dg 16 b) H))))
theorem ZF (b : Nat) (H : Heap) : hget b H = get5 b H := by
 unfold hget
 rw [qh5,qaz,YH,YZ,YF]
 rfl
def hset (b : Nat) (v : Option AObj) (H : Heap) : Heap :=
 sH5 (dg 16 b) (sH4 (dg 12 b) (sH3 (dg 8 b) (sH2 (dg 4 b) (sH1 (dg 0 b) v (gH2 (dg 4 b) (gH3 (dg 8 b) (gH4 (dg 12 b) (gH5 (dg 16 b) H))))) (gH3 (dg 8 b) (gH4 (dg 12 b) (gH5 (dg 16 b) H)))) (gH4 (dg 12 b) (gH5 (dg 16 b) H))) (gH5 (dg 16 b) H)) H
theorem ZJ (b : Nat) (v : Option AObj) (H : Heap) : hset b v H = set5 b v H := by
 unfold hset
 rw [qgo,qfk,qh7,qfp,qfc,qaz,YH,YZ,YF]
 rfl
namespace CT
def getF (c : CT) : Nat → AVal :=
 CT.rec (motive := fun _ => Nat → AVal) (fun t i => gA1 (dg 0 i) t) (fun t i => gA1 (dg 0 i) (gA2 (dg 4 i) t)) (fun t i => gA1 (dg 0 i) (gA2 (dg 4 i) (gA3 (dg 8 i) t))) c
theorem getF_eq (c : CT) (i : Nat) : getF c i = get i c := by
 cases c with
 | c1 t => show gA1 (dg 0 i) t = _; rw [Wf]; rfl
 | c2 t => show gA1 (dg 0 i) (gA2 (dg 4 i) t) = _; rw [Wf,KR]; rfl
 | c3 t => show gA1 (dg 0 i) (gA2 (dg 4 i) (gA3 (dg 8 i) t)) = _; rw [Wf,KR,qaj]; rfl
def setF (c : CT) : Nat → AVal → CT :=
 CT.rec (motive := fun _ => Nat → AVal → CT) (fun t i v => .c1 (sA1 (dg 0 i) v t)) (fun t i v => .c2 (sA2 (dg 4 i) (sA1 (dg 0 i) v (gA2 (dg 4 i) t)) t))
  (fun t i v => .c3 (sA3 (dg 8 i) (sA2 (dg 4 i) (sA1 (dg 0 i) v (gA2 (dg 4 i) (gA3 (dg 8 i) t))) (gA3 (dg 8 i) t)) t)) c
theorem setF_eq (c : CT) (i : Nat) (v : AVal) : setF c i v = set i v c := by
 cases c with
 | c1 t => show CT.c1 (sA1 (dg 0 i) v t) = _; rw [Wz]; rfl
 | c2 t => show CT.c2 (sA2 (dg 4 i) (sA1 (dg 0 i) v (gA2 (dg 4 i) t)) t) = _; rw [Wz,qb6,KR]; rfl
 | c3 t =>
  show CT.c3 (sA3 (dg 8 i) (sA2 (dg 4 i) (sA1 (dg 0 i) v (gA2 (dg 4 i) (gA3 (dg 8 i) t))) (gA3 (dg 8 i) t)) t) = _
  rw [Wz,qb6,qfy,KR,qaj]; rfl
def slabF (c : CT) (n : Nat) : Nat → List AVal := Nat.rec (motive := fun _ => CT → Nat → List AVal) (fun _ _ => []) (fun _ ih c i => getF c i :: ih c (Nat.succ i)) n c
theorem slabF_eq (c : CT) : ∀ (n i : Nat),slabF c n i = slab c n i
 | 0,_ => rfl
 | n + 1,i => by
  show getF c i :: slabF c n (i + 1) = _
  rw [getF_eq,slabF_eq c n]; rfl
end CT
end
end Go.Ev
end
section
namespace Go.Ev
variable [GTab]
noncomputable section
structure St where
 call : zx
 H : Heap
 nx : Nat
 dfs : Dfs
 rc : Option AMode
abbrev FK := Env → St → Bool
abbrev FX := AExit → Env → St → Bool
def St.with2 (st : St) (H : Heap) (nx : Nat) : St := St.rec (motive := fun _ => Heap → Nat → St) (fun c _ _ d r H nx => .mk c H nx d r) st H nx
theorem St.with2_eq (st : St) (H : Heap) (nx : Nat) : st.with2 H nx = ⟨st.call,H,nx,st.dfs,st.rc⟩ := by cases st; rfl
def unc (c : zx) (k : FK) : Env → Heap → Nat → Dfs → Option AMode → Bool := fun env H nx dfs rc => k env ⟨c,H,nx,dfs,rc⟩
def uncX (c : zx) (K : FX) : Kont := fun e env H nx dfs rc => K e env ⟨c,H,nx,dfs,rc⟩
def VR (v : AVal) : Bool → Bool → Bool :=
 AVal.rec (motive_1 := fun _ => Bool → Bool → Bool) (motive_2 := fun _ => Unit) (fun _ _ => false) (fun b yes no => Bool.rec no yes b) (fun _ _ _ _ => false) (fun _ _ _ _ => false) (fun _ _ _ _ => false) (fun _ _ => false) (fun _ _ _ _ _ _ _ => false) (fun _ _ => false) (fun _ _ _ => false) (fun _ _ => false) (fun _ _ _ _ _ _ _ => false) (fun _ _ => false) (fun _ _ _ _ _ => false) (fun _ _ => false) (fun _ _ _ _ => false) (fun _ _ _ _ => false) (fun _ _ _ _ _ => false) (fun _ _ => false) (fun _ _ _ _ => false) (fun _ _ _ => false) () (fun _ _ _ _ => ()) v
def J3 (v : AVal) : Bool → Bool → Bool :=
 AVal.rec (motive_1 := fun _ => Bool → Bool → Bool) (motive_2 := fun _ => Unit) (fun _ _ => false) (fun b yes no => Bool.rec no yes b) (fun _ _ _ _ => false) (fun _ _ _ _ => false) (fun _ _ _ _ => false) (fun _ _ => false) (fun _ _ _ _ _ _ _ => false) (fun _ _ => false) (fun _ _ _ => false) (fun _ _ => false) (fun _ _ _ _ _ _ _ => false) (fun _ _ => false) (fun _ _ _ _ _ => false) (fun _ _ => false) (fun _ _ _ _ => false) (fun _ _ _ _ => false) (fun _ _ _ _ _ => false) (fun yes no => Bool.rec false no yes) (fun _ _ _ _ => false) (fun _ _ _ => false) () (fun _ _ _ _ => ()) v
def vInt (v : AVal) : (IntKind → Int → Bool) → Bool :=
 AVal.rec (motive_1 := fun _ => (IntKind → Int → Bool) → Bool) (motive_2 := fun _ => Unit) (fun _ => false) (fun _ _ => false) (fun k n f => f k n) (fun _ _ _ => false) (fun _ _ _ => false) (fun _ => false) (fun _ _ _ _ _ _ => false) (fun _ => false) (fun _ _ => false) (fun _ => false) (fun _ _ _ _ _ _ => false) (fun _ => false) (fun _ _ _ _ => false) (fun _ => false) (fun _ _ _ => false) (fun _ _ _ => false) (fun _ _ _ _ => false) (fun _ => false) (fun _ _ _ => false) (fun _ _ => false) () (fun _ _ _ _ => ()) v
def Kd (v : AVal) : (IntKind → Int → Bool) → Bool → Bool :=
 AVal.rec (motive_1 := fun _ => (IntKind → Int → Bool) → Bool → Bool) (motive_2 := fun _ => Unit) (fun _ _ => false) (fun _ _ _ => false) (fun k n f _ => f k n) (fun _ _ _ _ => false) (fun _ _ _ _ => false) (fun _ _ => false) (fun _ _ _ _ _ _ _ => false) (fun _ _ => false) (fun _ _ _ => false) (fun _ _ => false) (fun _ _ _ _ _ _ _ => false) (fun _ _ => false) (fun _ _ _ _ _ => false) (fun _ _ => false) (fun _ _ _ _ => false) (fun _ _ _ _ => false) (fun _ _ _ _ s => s) (fun _ _ => false) (fun _ _ _ _ => false) (fun _ _ _ => false) () (fun _ _ _ _ => ()) v
def Va (v : AVal) : (Nat → Nat → Bool) → Bool → Bool :=
 AVal.rec (motive_1 := fun _ => (Nat → Nat → Bool) → Bool → Bool) (motive_2 := fun _ => Unit) (fun _ _ => false) (fun _ _ _ => false) (fun _ _ _ _ => false) (fun n x f _ => f n x) (fun _ _ _ _ => false) (fun _ _ => false) (fun _ _ _ _ _ _ _ => false) (fun _ _ => false) (fun _ _ _ => false) (fun _ _ => false) (fun _ _ _ _ _ _ _ => false) (fun _ _ => false) (fun _ _ _ _ _ => false) (fun _ _ => false) (fun _ _ _ _ => false) (fun _ _ _ _ => false) (fun _ _ _ _ _ => false) (fun _ _ => false) (fun _ _ _ _ => false) (fun _ _ s => s) () (fun _ _ _ _ => ()) v
def vStr (v : AVal) : (Nat → Nat → Bool) → Bool :=
 AVal.rec (motive_1 := fun _ => (Nat → Nat → Bool) → Bool) (motive_2 := fun _ => Unit) (fun _ => false) (fun _ _ => false) (fun _ _ _ => false) (fun n x f => f n x) (fun _ _ _ => false) (fun _ => false) (fun _ _ _ _ _ _ => false) (fun _ => false) (fun _ _ => false) (fun _ => false) (fun _ _ _ _ _ _ => false) (fun _ => false) (fun _ _ _ _ => false) (fun _ => false) (fun _ _ _ => false) (fun _ _ _ => false) (fun _ _ _ _ => false) (fun _ => false) (fun _ _ _ => false) (fun _ _ => false) () (fun _ _ _ _ => ()) v
def vPtr (v : AVal) : (Nat → Nat → Bool) → Bool :=
 AVal.rec (motive_1 := fun _ => (Nat → Nat → Bool) → Bool) (motive_2 := fun _ => Unit) (fun _ => false) (fun _ _ => false) (fun _ _ _ => false) (fun _ _ _ => false) (fun b off f => f b off) (fun _ => false) (fun _ _ _ _ _ _ => false) (fun _ => false) (fun _ _ => false) (fun _ => false) (fun _ _ _ _ _ _ => false) (fun _ => false) (fun _ _ _ _ => false) (fun _ => false) (fun _ _ _ => false) (fun _ _ _ => false) (fun _ _ _ _ => false) (fun _ => false) (fun _ _ _ => false) (fun _ _ => false) () (fun _ _ _ _ => ()) v
def WY (v : AVal) : (Nat → Nat → Bool) → (Nat → Nat → Bool) → Bool :=
 AVal.rec (motive_1 := fun _ => (Nat → Nat → Bool) → (Nat → Nat → Bool) → Bool) (motive_2 := fun _ => Unit) (fun _ _ => false) (fun _ _ _ => false) (fun _ _ _ _ => false) (fun _ _ _ _ => false) (fun b off f _ => f b off) (fun _ _ => false) (fun _ _ _ _ _ _ _ => false) (fun _ _ => false) (fun _ _ _ => false) (fun _ _ => false) (fun _ _ _ _ _ _ _ => false) (fun _ _ => false) (fun _ _ _ _ _ => false) (fun _ _ => false) (fun _ _ _ _ => false) (fun _ _ _ _ => false) (fun _ _ _ _ _ => false) (fun _ _ => false) (fun g off _ f => f g off) (fun _ _ _ => false) () (fun _ _ _ _ => ()) v
def vSl (v : AVal) : (Nat → Nat → Nat → Bool) → Bool :=
 AVal.rec (motive_1 := fun _ => (Nat → Nat → Nat → Bool) → Bool) (motive_2 := fun _ => Unit) (fun _ => false) (fun _ _ => false) (fun _ _ _ => false) (fun _ _ _ => false) (fun _ _ _ => false) (fun _ => false) (fun b off n _ _ f => f b off n) (fun _ => false) (fun _ _ => false) (fun _ => false) (fun _ _ _ _ _ _ => false) (fun _ => false) (fun _ _ _ _ => false) (fun _ => false) (fun _ _ _ => false) (fun _ _ _ => false) (fun _ _ _ _ => false) (fun _ => false) (fun _ _ _ => false) (fun _ _ => false) () (fun _ _ _ _ => ()) v
def qeb (v : AVal) : (Nat → Bool) → Bool :=
 AVal.rec (motive_1 := fun _ => (Nat → Bool) → Bool) (motive_2 := fun _ => Unit) (fun _ => false) (fun _ _ => false) (fun _ _ _ => false) (fun n _ f => f n) (fun _ _ _ => false) (fun _ => false) (fun _ _ _ _ _ _ => false) (fun _ => false) (fun _ _ => false) (fun _ => false) (fun _ _ _ _ _ _ => false) (fun _ => false) (fun _ _ _ _ => false) (fun _ => false) (fun _ _ _ => false) (fun _ _ _ => false) (fun _ _ _ _ => false) (fun _ => false) (fun _ _ _ => false) (fun _ _ => false) () (fun _ _ _ _ => ()) v
def qeu (v : AVal) : (Nat → Bool) → Bool :=
 AVal.rec (motive_1 := fun _ => (Nat → Bool) → Bool) (motive_2 := fun _ => Unit) (fun _ => false) (fun _ _ => false) (fun _ _ _ => false) (fun _ _ _ => false) (fun _ _ _ => false) (fun _ => false) (fun _ _ n _ _ f => f n) (fun f => f 0) (fun _ _ => false) (fun _ => false) (fun _ _ _ _ _ _ => false) (fun _ => false) (fun _ _ _ _ => false) (fun _ => false) (fun _ _ _ => false) (fun _ _ _ => false) (fun _ _ _ _ => false) (fun _ => false) (fun _ _ _ => false) (fun _ _ => false) () (fun _ _ _ _ => ()) v
def vAgg (v : AVal) : (List AVal → Bool) → Bool :=
 AVal.rec (motive_1 := fun _ => (List AVal → Bool) → Bool) (motive_2 := fun _ => Unit) (fun _ => false) (fun _ _ => false) (fun _ _ _ => false) (fun _ _ _ => false) (fun _ _ _ => false) (fun _ => false) (fun _ _ _ _ _ _ => false) (fun _ => false) (fun _ _ => false) (fun _ => false) (fun _ _ _ _ _ _ => false) (fun _ => false) (fun _ _ _ _ => false) (fun _ => false) (fun cs _ f => f cs) (fun _ _ _ => false) (fun _ _ _ _ => false) (fun _ => false) (fun _ _ _ => false) (fun _ _ => false) () (fun _ _ _ _ => ()) v
def vTup (v : AVal) : (List AVal → Bool) → Bool :=
 AVal.rec (motive_1 := fun _ => (List AVal → Bool) → Bool) (motive_2 := fun _ => Unit) (fun _ => false) (fun _ _ => false) (fun _ _ _ => false) (fun _ _ _ => false) (fun _ _ _ => false) (fun _ => false) (fun _ _ _ _ _ _ => false) (fun _ => false) (fun _ _ => false) (fun _ => false) (fun _ _ _ _ _ _ => false) (fun _ => false) (fun _ _ _ _ => false) (fun _ => false) (fun _ _ _ => false) (fun cs _ f => f cs) (fun _ _ _ _ => false) (fun _ => false) (fun _ _ _ => false) (fun _ _ => false) () (fun _ _ _ _ => ()) v
def vChk (v : AVal) : (AVal → Bool) → Bool :=
 AVal.rec (motive_1 := fun _ => (AVal → Bool) → Bool) (motive_2 := fun _ => Unit) (fun _ => false) (fun _ _ => false) (fun _ _ _ => false) (fun _ _ _ => false) (fun b off f => f (.ptr b off)) (fun _ => false) (fun _ _ _ _ _ _ => false) (fun _ => false) (fun _ _ => false) (fun _ => false) (fun _ _ _ _ _ _ => false) (fun _ => false) (fun t v _ f => f (.iface t v)) (fun _ => false) (fun _ _ _ => false) (fun _ _ _ => false) (fun _ _ _ _ => false) (fun _ => false) (fun g off f => f (.gptr g off)) (fun _ _ => false) () (fun _ _ _ _ => ()) v
def qf6 (v : AVal) : (AVal → Bool) → Bool :=
 AVal.rec (motive_1 := fun _ => (AVal → Bool) → Bool) (motive_2 := fun _ => Unit) (fun _ => false) (fun x0 f => f (.bool x0)) (fun x0 x1 f => f (.int x0 x1)) (fun x0 x1 f => f (.str x0 x1)) (fun x0 x1 f => f (.ptr x0 x1)) (fun f => f .nilPtr) (fun x0 x1 x2 x3 x4 f => f (.slice x0 x1 x2 x3 x4)) (fun f => f .nilSlice) (fun x0 f => f (.map x0)) (fun f => f .nilMap) (fun x0 x1 x2 _ _ f => f (.func x0 x1 x2)) (fun f => f .nilFunc) (fun x0 x1 _ f => f (.iface x0 x1)) (fun f => f .nilIface) (fun _ _ _ => false) (fun _ _ _ => false) (fun x0 x1 x2 f => f (.anyInt x0 x1 x2)) (fun f => f .anyBool) (fun x0 x1 f => f (.gptr x0 x1)) (fun x0 f => f (.anyStr x0)) () (fun _ _ _ _ => ()) v
def vOne (v : AVal) : (AVal → Bool) → Bool :=
 AVal.rec (motive_1 := fun _ => (AVal → Bool) → Bool) (motive_2 := fun _ => Unit) (fun _ => false) (fun x0 f => f (.bool x0)) (fun x0 x1 f => f (.int x0 x1)) (fun x0 x1 f => f (.str x0 x1)) (fun x0 x1 f => f (.ptr x0 x1)) (fun f => f .nilPtr) (fun x0 x1 x2 x3 x4 f => f (.slice x0 x1 x2 x3 x4)) (fun f => f .nilSlice) (fun x0 f => f (.map x0)) (fun f => f .nilMap) (fun x0 x1 x2 _ _ f => f (.func x0 x1 x2)) (fun f => f .nilFunc) (fun x0 x1 _ f => f (.iface x0 x1)) (fun f => f .nilIface) (fun l _ f => List.rec (motive := fun _ => (AVal → Bool) → Bool) (fun _ => false) (fun v t _ f => List.rec (f v) (fun _ _ _ => false) t) l f) (fun _ _ _ => false) (fun x0 x1 x2 f => f (.anyInt x0 x1 x2)) (fun f => f .anyBool) (fun x0 x1 f => f (.gptr x0 x1)) (fun x0 f => f (.anyStr x0)) () (fun _ _ _ _ => ()) v
def KW (v : AVal) : Bool → Bool → Bool → Bool :=
 AVal.rec (motive_1 := fun _ => Bool → Bool → Bool → Bool) (motive_2 := fun _ => Unit) (fun _ _ _ => false) (fun b want yes no => Bool.rec (Bool.rec yes no want) (Bool.rec no yes want) b) (fun _ _ _ _ _ => false) (fun _ _ _ _ _ => false) (fun _ _ _ _ _ => false) (fun _ _ _ => false) (fun _ _ _ _ _ _ _ _ => false) (fun _ _ _ => false) (fun _ _ _ _ => false) (fun _ _ _ => false) (fun _ _ _ _ _ _ _ _ => false) (fun _ _ _ => false) (fun _ _ _ _ _ _ => false) (fun _ _ _ => false) (fun _ _ _ _ _ => false) (fun l _ _ _ no => List.rec no (fun _ _ _ => false) l) (fun _ _ _ _ _ _ => false) (fun _ _ _ => false) (fun _ _ _ _ _ => false) (fun _ _ _ _ => false) () (fun _ _ _ _ => ()) v
theorem VQ {v : AVal} {yes no : Bool} (h : VR v yes no = true) : (v = .bool true ∧ yes = true) ∨ (v = .bool false ∧ no = true) := by
 cases v <;> first | exact Bool.noConfusion h | skip
 rename_i b
 cases b
 ·exact .inr ⟨rfl,h⟩
 ·exact .inl ⟨rfl,h⟩
theorem VW {v : AVal} {yes no : Bool} (h : J3 v yes no = true) : (v = .bool true ∧ yes = true) ∨ (v = .bool false ∧ no = true) ∨ (v = .anyBool ∧ yes = true ∧ no = true) := by
 cases v <;> first | exact Bool.noConfusion h | skip
 ·rename_i b
  cases b
  ·exact .inr (.inl ⟨rfl,h⟩)
  ·exact .inl ⟨rfl,h⟩
 ·cases yes with
  | false => exact Bool.noConfusion h
  | true => exact .inr (.inr ⟨rfl,rfl,h⟩)
theorem ZI {v : AVal} {f : IntKind → Int → Bool} (h : vInt v f = true) : ∃ k n,v = .int k n ∧ f k n = true := by
 cases v <;> first | exact Bool.noConfusion h | exact ⟨_,_,rfl,h⟩
theorem Jo {v : AVal} {f : IntKind → Int → Bool} {s : Bool} (h : Kd v f s = true) : (∃ k n,v = .int k n ∧ f k n = true) ∨ s = true := by
 cases v <;> first | exact Bool.noConfusion h | exact .inl ⟨_,_,rfl,h⟩ | exact .inr h
theorem K2 {v : AVal} {f : Nat → Nat → Bool} {s : Bool} (h : Va v f s = true) : (∃ n x,v = .str n x ∧ f n x = true) ∨ s = true := by
 cases v <;> first | exact Bool.noConfusion h | exact .inl ⟨_,_,rfl,h⟩ | exact .inr h
theorem qch {v : AVal} {f : Nat → Nat → Bool} (h : vStr v f = true) : ∃ n x,v = .str n x ∧ f n x = true := by
 cases v <;> first | exact Bool.noConfusion h | exact ⟨_,_,rfl,h⟩
theorem qdq {v : AVal} {f : Nat → Nat → Bool} (h : vPtr v f = true) : ∃ b off,v = .ptr b off ∧ f b off = true := by
 cases v <;> first | exact Bool.noConfusion h | exact ⟨_,_,rfl,h⟩
theorem Jn {v : AVal} {f g : Nat → Nat → Bool} (h : WY v f g = true) : (∃ b off,v = .ptr b off ∧ f b off = true) ∨ (∃ b off,v = .gptr b off ∧ g b off = true) := by
 cases v <;> first | exact Bool.noConfusion h | exact .inl ⟨_,_,rfl,h⟩ | exact .inr ⟨_,_,rfl,h⟩
theorem qfd {v : AVal} {f : Nat → Nat → Nat → Bool} (h : vSl v f = true) : ∃ b off n esz full,v = .slice b off n esz full ∧ f b off n = true := by
 cases v <;> first | exact Bool.noConfusion h | exact ⟨_,_,_,_,_,rfl,h⟩
theorem qap {v : AVal} {f : Nat → Bool} (h : qeb v f = true) : ∃ n x,v = .str n x ∧ f n = true := by
 cases v <;> first | exact Bool.noConfusion h | exact ⟨_,_,rfl,h⟩
theorem qbl {v : AVal} {f : Nat → Bool} (h : qeu v f = true) : (∃ b off n esz full,v = .slice b off n esz full ∧ f n = true) ∨ (v = .nilSlice ∧ f 0 = true) := by
 cases v <;> first | exact Bool.noConfusion h | exact .inl ⟨_,_,_,_,_,rfl,h⟩ | exact .inr ⟨rfl,h⟩
theorem KB {v : AVal} {f : List AVal → Bool} (h : vAgg v f = true) : ∃ cs,v = .agg cs ∧ f cs = true := by
 cases v <;> first | exact Bool.noConfusion h | exact ⟨_,rfl,h⟩
theorem qdj {v : AVal} {f : List AVal → Bool} (h : vTup v f = true) : ∃ cs,v = .tuple cs ∧ f cs = true := by
 cases v <;> first | exact Bool.noConfusion h | exact ⟨_,rfl,h⟩
theorem qcz {v : AVal} {f : AVal → Bool} (h : vChk v f = true) : ((∃ b off,v = .ptr b off) ∨ (∃ t u,v = .iface t u) ∨ ∃ g off,v = .gptr g off) ∧ f v = true := by
 cases v <;> first | exact Bool.noConfusion h | exact ⟨.inl ⟨_,_,rfl⟩,h⟩ | exact ⟨.inr (.inl ⟨_,_,rfl⟩),h⟩ | exact ⟨.inr (.inr ⟨_,_,rfl⟩),h⟩
theorem Y5 {v : AVal} {f : AVal → Bool} (h : qf6 v f = true) : kc v = some [v] ∧ qx v = true ∧ f v = true := by
 cases v <;> first | exact Bool.noConfusion h | exact ⟨rfl,rfl,h⟩
theorem qdn {v : AVal} {f : AVal → Bool} (h : vOne v f = true) : ∃ c,kc v = some [c] ∧ f c = true := by
 cases v <;> first | exact Bool.noConfusion h | exact ⟨_,rfl,h⟩ | skip
 rename_i l
 cases l with
 | nil => exact Bool.noConfusion h
 | cons c l =>
  cases l with
  | nil => exact ⟨c,rfl,h⟩
  | cons d l => exact Bool.noConfusion h
theorem Xw {v : AVal} {want yes no : Bool} (h : KW v want yes no = true) : (∃ b,v = .bool b ∧ ((b = want ∧ yes = true) ∨ (b ≠ want ∧ no = true))) ∨ (v = .tuple [] ∧ no = true) := by
 cases v <;> first | exact Bool.noConfusion h | skip
 ·rename_i b
  refine .inl ⟨b,rfl,?_⟩
  cases b <;> cases want <;> first | exact .inl ⟨rfl,h⟩ | exact .inr ⟨(by decide),h⟩
 ·rename_i l
  cases l with
  | nil => exact .inr ⟨rfl,h⟩
  | cons a l => exact Bool.noConfusion h
inductive SelR | mk (f : Env → N16 AVal)
inductive SelA | mk (f : N16 AVal → AVal)
inductive PutR | mk (f : N16 AVal → Env → Env)
inductive PutA | mk (f : AVal → N16 AVal → N16 AVal)
inductive Acc | mk (f : Env → AVal)
inductive Dst | mk (f : AVal → Env → Env)
inductive Ars | mk (f : Env → List AVal)
inductive Gd | mk (f : Env → Bool → Bool → Bool)
def SelR.fn : SelR → Env → N16 AVal | .mk f => f
def SelA.fn : SelA → N16 AVal → AVal | .mk f => f
def PutR.fn : PutR → N16 AVal → Env → Env | .mk f => f
def PutA.fn : PutA → AVal → N16 AVal → N16 AVal | .mk f => f
def Acc.fn : Acc → Env → AVal | .mk f => f
def Dst.fn : Dst → AVal → Env → Env | .mk f => f
def Ars.fn : Ars → Env → List AVal | .mk f => f
def Gd.fn : Gd → Env → Bool → Bool → Bool | .mk f => f
def selR (i : Ix) : SelR := Ix.rec (motive := fun _ => SelR) (.mk N16.f0) (.mk N16.f1) (.mk N16.f2) (.mk N16.f3) (.mk N16.f4) (.mk N16.f5) (.mk N16.f6) (.mk N16.f7) (.mk N16.f8) (.mk N16.f9) (.mk N16.f10) (.mk N16.f11) (.mk N16.f12) (.mk N16.f13) (.mk N16.f14) (.mk N16.f15) i
def selA (i : Ix) : SelA := Ix.rec (motive := fun _ => SelA) (.mk N16.f0) (.mk N16.f1) (.mk N16.f2) (.mk N16.f3) (.mk N16.f4) (.mk N16.f5) (.mk N16.f6) (.mk N16.f7) (.mk N16.f8) (.mk N16.f9) (.mk N16.f10) (.mk N16.f11) (.mk N16.f12) (.mk N16.f13) (.mk N16.f14) (.mk N16.f15) i
def putR (i : Ix) : PutR := Ix.rec (motive := fun _ => PutR) (.mk qea) (.mk qe4) (.mk qeg) (.mk qez) (.mk qeo) (.mk qes) (.mk qep) (.mk qdz) (.mk qe1) (.mk qf3) (.mk qbp) (.mk YY) (.mk qaa) (.mk YC) (.mk qao) (.mk YB) i
def putA (i : Ix) : PutA := Ix.rec (motive := fun _ => PutA) (.mk qe0) (.mk qek) (.mk qel) (.mk qe5) (.mk qew) (.mk qei) (.mk qf5) (.mk qe9) (.mk qdw) (.mk qf0) (.mk qbb) (.mk qai) (.mk qak) (.mk qas) (.mk qag) (.mk qal) i
theorem Xj (i : Ix) : (selR i).fn = N16.get i := by cases i <;> rfl
theorem qcx (i : Ix) : (selA i).fn = N16.get i := by cases i <;> rfl
theorem qci (i : Ix) : (putR i).fn = N16.set i := by cases i <;> rfl
theorem qd8 (i : Ix) : (putA i).fn = N16.set i := by cases i <;> rfl
def yy (t : Nat) : Acc := match selR (dg 4 t),selA (dg 0 t) with | .mk r,.mk a => .mk fun env => a (r env)
theorem QN (t : Nat) : (yy t).fn = get2 t := by
 unfold yy
 have h1 := Xj (dg 4 t)
 have h2 := qcx (dg 0 t)
 cases e1 : selR (dg 4 t) with | mk r => cases e2 : selA (dg 0 t) with | mk a =>
  rw [e1] at h1; rw [e2] at h2
  have h1' : r = N16.get (dg 4 t) := h1
  have h2' : a = N16.get (dg 0 t) := h2
  subst h1' h2'
  rfl
def WL (t : Nat) : Dst := match selR (dg 4 t),putA (dg 0 t),putR (dg 4 t) with | .mk r,.mk a,.mk p => .mk fun v env => p (a v (r env)) env
theorem YS (t : Nat) : (WL t).fn = set2 t := by
 unfold WL
 have h1 := Xj (dg 4 t)
 have h2 := qd8 (dg 0 t)
 have h3 := qci (dg 4 t)
 cases e1 : selR (dg 4 t) with | mk r => cases e2 : putA (dg 0 t) with | mk a => cases e3 : putR (dg 4 t) with | mk p =>
  rw [e1] at h1; rw [e2] at h2; rw [e3] at h3
  have h1' : r = N16.get (dg 4 t) := h1
  have h2' : a = N16.set (dg 0 t) := h2
  have h3' : p = N16.set (dg 4 t) := h3
  subst h1' h2' h3'
  rfl
def bx (x : Operand) : Acc :=
 match x with
 | .tmp t => match Nat.ble t 255 with
  | true => yy t
  | false => .mk fun _ => .und
 | .const v => .mk fun _ => vR v
 | .global g => .mk fun _ => .gptr g 0
 | .func f => .mk fun _ => .func (.func f) [] []
theorem jc (x : Operand) (env : Env) : (bx x).fn env = aev env x := by
 cases x with
 | tmp t =>
  show (match Nat.ble t 255 with | true => yy t | false => .mk fun _ => .und : Acc).fn env = Bool.rec .und (get2 t env) (Nat.ble t 255)
  cases Nat.ble t 255
  ·rfl
  ·show (yy t).fn env = get2 t env
   rw [QN]
 | const v => rfl
 | global g => rfl
 | func f => rfl
def bd (d : Option Nat) : Dst := match d with
 | none => .mk fun _ env => env
 | some d => WL d
theorem Vn (d : Option Nat) (v : AVal) (env : Env) : (bd d).fn v env = put d v env := by
 cases d with
 | none => rfl
 | some d => show (WL d).fn v env = set2 d v env; rw [YS]
def bas (l : List Operand) : Ars := match l with
 | [] => .mk fun _ => []
 | x :: l => match bx x,bas l with | .mk f,.mk g => .mk fun env => f env :: g env
theorem qbg : ∀ (l : List Operand) (env : Env),(bas l).fn env = l.map (aev env)
 | [],_ => rfl
 | x :: l,env => by
  have h1 := jc x env
  have h2 := qbg l env
  unfold bas
  cases e1 : bx x with | mk f => cases e2 : bas l with | mk g =>
   rw [e1] at h1; rw [e2] at h2
   show f env :: g env = aev env x :: l.map (aev env)
   rw [← h1,← h2]; rfl
def bg (ops : Array Oper) (g : Nat × Bool) : Gd :=
 match (ops[g.1]?).bind (·.dst) with
 | some t => match Nat.ble t 255 with
  | true => match yy t with | .mk f => (match g.2 with
   | true => .mk fun env yes no => KW (f env) true yes no
   | false => .mk fun env yes no => KW (f env) false yes no)
  | false => .mk fun _ _ _ => false
 | none => .mk fun _ _ no => no
theorem qab {ops : Array Oper} {g : Nat × Bool} {env : Env} {yes no : Bool} (h : (bg ops g).fn env yes no = true) :
  (qu ops (some g) env = some true ∧ yes = true) ∨ (qu ops (some g) env = some false ∧ no = true) := by
 obtain ⟨j,want⟩ := g
 unfold bg at h
 unfold qu
 simp only at h ⊢
 cases e : (ops[j]?).bind (·.dst) with
 | none => rw [e] at h; exact .inr ⟨rfl,h⟩
 | some t =>
  simp only [e] at h ⊢
  cases ht : Nat.ble t 255 with
  | false => simp only [ht] at h; exact Bool.noConfusion h
  | true =>
   simp only [ht] at h ⊢
   have ha := QN t
   cases ea : yy t with | mk f =>
    rw [ea] at ha
    have ha' : f = get2 t := ha
    subst ha'
    simp only [ea] at h
    have h' : KW (get2 t env) want yes no = true := by cases want <;> exact h
    rcases Xw h' with ⟨b,hb,hh⟩ | ⟨hb,hh⟩
    ·rw [hb]
     rcases hh with ⟨rfl,hy⟩ | ⟨hne,hn⟩
     ·exact .inl ⟨(by cases b <;> rfl),hy⟩
     ·refine .inr ⟨?_,hn⟩
      cases b <;> cases want <;> first | rfl | exact absurd rfl hne
    ·rw [hb]; exact .inr ⟨rfl,hh⟩
end
end Go.Ev
end
section
namespace Go.Ev
variable [GTab] {P : Program} {o : Oper} {env : Env}
noncomputable section
inductive CV
 | no
 | yes (f : Env → St → (AVal → Bool) → Bool)
def VOK (P : Program) (o : Oper) (f : Env → St → (AVal → Bool) → Bool) : Prop :=
 ∀ env st k,f env st k = true → ∃ v,aop P o (aev env) st.H st.nx = some (.val v st.H st.nx) ∧ k v = true
def oK (r : Option ARes) : (AVal → Bool) → Bool :=
 Option.rec (motive := fun _ => (AVal → Bool) → Bool) (fun _ => false) (fun r => ARes.rec (motive := fun _ => (AVal → Bool) → Bool) (fun v _ _ k => k v) (fun _ _ _ => false) (fun _ _ _ => false) (fun _ _ => false) (fun _ => false) r) r
theorem qi8 {r : Option ARes} {k : AVal → Bool} (h : oK r k = true) : ∃ v H nx,r = some (.val v H nx) ∧ k v = true := by
 cases r with
 | none => exact Bool.noConfusion h
 | some r => cases r <;> first | exact Bool.noConfusion h | exact ⟨_,_,_,rfl,h⟩
def gen (g : (Operand → AVal) → Heap → Nat → Option ARes) : CV := .yes fun env st k => oK (g (aev env) st.H st.nx) k
theorem ki {g : (Operand → AVal) → Heap → Nat → Option ARes} (hg : aop P o = g) (hc : cls o.op = 0) : VOK P o fun env st k => oK (g (aev env) st.H st.nx) k := by
 intro env st k h
 obtain ⟨v,H,nx,e,hk⟩ := qi8 h
 rw [← hg] at e
 obtain ⟨rfl,rfl⟩ := vm hc e
 exact ⟨v,e,hk⟩
def qe8 (o : Option AObj) : Nat → (AVal → Bool) → Bool :=
 Option.rec (motive := fun _ => Nat → (AVal → Bool) → Bool) (fun _ _ => false) (fun ob => AObj.rec (motive := fun _ => Nat → (AVal → Bool) → Bool) (fun n ct _ _ off k => Bool.rec false (k (CT.getF ct off)) (Nat.ble (Nat.succ off) n)) (fun _ _ _ _ => false) ob) o
theorem qah {o : Option AObj} {off : Nat} {k : AVal → Bool} (h : qe8 o off k = true) : ∃ n ct olds s,o = some (.cells n ct olds s) ∧ Nat.ble (Nat.succ off) n = true ∧ k (CT.get off ct) = true := by
 cases o with
 | none => exact Bool.noConfusion h
 | some ob =>
  cases ob with
  | map es c => exact Bool.noConfusion h
  | cells n ct olds s =>
   have h' : (Bool.rec false (k (CT.getF ct off)) (Nat.ble (Nat.succ off) n) : Bool) = true := h
   rw [CT.getF_eq] at h'
   refine ⟨n,ct,olds,s,rfl,?_⟩
   cases hb : Nat.ble (Nat.succ off) n with
   | false => rw [hb] at h'; exact Bool.noConfusion h'
   | true => rw [hb] at h'; exact ⟨rfl,h'⟩
def qf2 (o : Option AObj) : Nat → Nat → (AVal → Bool) → Bool :=
 Option.rec (motive := fun _ => Nat → Nat → (AVal → Bool) → Bool) (fun _ _ _ => false) (fun ob => AObj.rec (motive := fun _ => Nat → Nat → (AVal → Bool) → Bool) (fun n ct _ _ off sz k => Bool.rec false (k (.agg (CT.slabF ct sz off))) (Nat.ble (Nat.add off sz) n)) (fun _ _ _ _ _ => false) ob) o
theorem qb0 {o : Option AObj} {off sz : Nat} {k : AVal → Bool} (h : qf2 o off sz k = true) : ∃ n ct olds s,o = some (.cells n ct olds s) ∧ Nat.ble (Nat.add off sz) n = true ∧ k (.agg (CT.slab ct sz off)) = true := by
 cases o with
 | none => exact Bool.noConfusion h
 | some ob =>
  cases ob with
  | map es c => exact Bool.noConfusion h
  | cells n ct olds s =>
   have h' : (Bool.rec false (k (.agg (CT.slabF ct sz off))) (Nat.ble (Nat.add off sz) n) : Bool) = true := h
   rw [CT.slabF_eq] at h'
   refine ⟨n,ct,olds,s,rfl,?_⟩
   cases hb : Nat.ble (Nat.add off sz) n with
   | false => rw [hb] at h'; exact Bool.noConfusion h'
   | true => rw [hb] at h'; exact ⟨rfl,h'⟩
def qds (o : Option (List AVal)) : Nat → (AVal → Bool) → Bool := Option.rec (motive := fun _ => Nat → (AVal → Bool) → Bool) (fun _ _ => false) (fun l off k => List.rec (motive := fun _ => Nat → Bool) (fun _ => false) (fun v _ ih i => Nat.rec (motive := fun _ => Bool) (k v) (fun j _ => ih j) i) l off) o
theorem gNth : ∀ {l : List AVal} {i : Nat} {k : AVal → Bool},(List.rec (motive := fun _ => Nat → Bool) (fun _ => false) (fun v _ ih i => Nat.rec (motive := fun _ => Bool) (k v) (fun j _ => ih j) i) l i : Bool) = true → ∃ v,l[i]? = some v ∧ k v = true
 | [],i,k,h => Bool.noConfusion h
 | v :: l,0,k,h => ⟨v,rfl,h⟩
 | v :: l,i + 1,k,h => by
  obtain ⟨u,e,hk⟩ := gNth (l := l) (i := i) (k := k) h
  exact ⟨u,by simpa using e,hk⟩
theorem Y0 {o : Option (List AVal)} {off : Nat} {k : AVal → Bool} (h : qds o off k = true) : ∃ l v,o = some l ∧ l[off]? = some v ∧ k v = true := by
 cases o with
 | none => exact Bool.noConfusion h
 | some l =>
  obtain ⟨v,e,hk⟩ := gNth (l := l) (i := off) (k := k) h
  exact ⟨l,v,rfl,e,hk⟩
theorem zM {a b : Bool} (h : (Bool.rec false a b : Bool) = true) : b = true ∧ a = true := by
 cases b with
 | false => exact Bool.noConfusion h
 | true => exact ⟨rfl,h⟩
def ikN (k : IntKind) : Nat := IntKind.rec 0 1 2 3 4 5 6 7 k
theorem qcn {k j : IntKind} (h : Nat.beq (ikN k) (ikN j) = true) : k = j := by
 cases k <;> cases j <;> first | rfl | exact Bool.noConfusion h
def iadd (a b : Int) : Int :=
 Int.rec (motive := fun _ => Int → Int) (fun x b => Int.rec (motive := fun _ => Nat → Int) (fun y x => .ofNat (Nat.add x y)) (fun y x => Int.add (.ofNat x) (.negSucc y)) b x)
  (fun x b => Int.add (.negSucc x) b) a b
theorem qcs (a b : Int) : iadd a b = Int.add a b := by
 cases a with
 | ofNat x => cases b <;> rfl
 | negSucc x => rfl
def isub (a b : Int) : Int :=
 Int.rec (motive := fun _ => Int → Int) (fun x b => Int.rec (motive := fun _ => Nat → Int) (fun y x => Bool.rec (Int.sub (.ofNat x) (.ofNat y)) (.ofNat (Nat.sub x y)) (Nat.ble y x)) (fun y x => .ofNat (Nat.succ (Nat.add x y))) b x)
  (fun x b => Int.sub (.negSucc x) b) a b
theorem qck (a b : Int) : isub a b = Int.sub a b := by
 cases a with
 | ofNat x =>
  cases b with
  | ofNat y =>
   show (Bool.rec (Int.sub (.ofNat x) (.ofNat y)) (.ofNat (Nat.sub x y)) (Nat.ble y x) : Int) = _
   cases h : Nat.ble y x with
   | false => rfl
   | true =>
    have := Nat.le_of_ble_eq_true h
    show Int.ofNat (x - y) = (x : Int) - (y : Int)
    simp only [Int.ofNat_eq_natCast]; omega
  | negSucc y => show Int.ofNat (x + y + 1) = (x : Int) - Int.negSucc y; simp only [Int.ofNat_eq_natCast]; omega
 | negSucc x => rfl
def two (x y : AVal) (f : IntKind → Int → Int → Bool) (s : Bool) : Bool := Kd x (fun k a => Kd y (fun j b => Bool.rec false (f k a b) (Nat.beq (ikN k) (ikN j))) s) s
theorem VZ {x y : AVal} {f : IntKind → Int → Int → Bool} {s : Bool} (h : two x y f s = true) : (∃ k a b,x = .int k a ∧ y = .int k b ∧ f k a b = true) ∨ s = true := by
 rcases Jo (show Kd x _ s = true from h) with ⟨k,a,e1,h⟩ | h
 ·rcases Jo (show Kd y _ s = true from h) with ⟨j,b,e2,h⟩ | h
  ·obtain ⟨h1,h2⟩ := zM h
   have := qcn h1
   subst this
   exact .inl ⟨k,a,b,e1,e2,h2⟩
  ·exact .inr h
 ·exact .inr h
def binI (P : Program) (op : BinOp) (t : TypeId) (xo yo : Operand) (x y : Acc) : CV :=
 match x,y with
 | .mk x,.mk y => match op with
  | .add => .yes fun env st f => two (x env) (y env) (fun k a b => qZ (jG k (iadd a b)) fun r => f (.int k r)) (oK (zn P .add t xo yo (aev env) st.H st.nx) f)
  | .sub => .yes fun env st f => two (x env) (y env) (fun k a b => qZ (jG k (isub a b)) fun r => f (.int k r)) (oK (zn P .sub t xo yo (aev env) st.H st.nx) f)
  | .eql => .yes fun env st f => two (x env) (y env) (fun _ a b => f (.bool (ieq a b))) (oK (zn P .eql t xo yo (aev env) st.H st.nx) f)
  | .neq => .yes fun env st f => two (x env) (y env) (fun _ a b => f (.bool (bnot (ieq a b)))) (oK (zn P .neq t xo yo (aev env) st.H st.nx) f)
  | .lss => .yes fun env st f => two (x env) (y env) (fun _ a b => f (.bool (ilt a b))) (oK (zn P .lss t xo yo (aev env) st.H st.nx) f)
  | .leq => .yes fun env st f => two (x env) (y env) (fun _ a b => f (.bool (bnot (ilt b a)))) (oK (zn P .leq t xo yo (aev env) st.H st.nx) f)
  | .gtr => .yes fun env st f => two (x env) (y env) (fun _ a b => f (.bool (ilt b a))) (oK (zn P .gtr t xo yo (aev env) st.H st.nx) f)
  | .geq => .yes fun env st f => two (x env) (y env) (fun _ a b => f (.bool (bnot (ilt a b)))) (oK (zn P .geq t xo yo (aev env) st.H st.nx) f)
  | _ => .no
theorem Kr {op : BinOp} {t u : TypeId} {x y : Operand} (ho : o.op = .binOp op t x y u) {st : St} {k : AVal → Bool} (h : oK (zn P op t x y (aev env) st.H st.nx) k = true) :
  ∃ v,aop P o (aev env) st.H st.nx = some (.val v st.H st.nx) ∧ k v = true :=
 ki (P := P) (o := o) (g := zn P op t x y) (by funext ρ H nx; unfold aop; rw [ho]) (by rw [ho]; rfl) env st k h
theorem qco {op : BinOp} {t u : TypeId} {x y : Operand} {f : Env → St → (AVal → Bool) → Bool} (ho : o.op = .binOp op t x y u) (h : binI P op t x y (bx x) (bx y) = .yes f) : VOK P o f := by
 have key : ∀ env (st : St) k a b v,aev env x = .int k a → aev env y = .int k b → aInt op k a b = some v → op ≠ .shl → op ≠ .shr → aop P o (aev env) st.H st.nx = some (.val v st.H st.nx) := by
  intro env st k a b v hx hy hv h1 h2
  unfold aop
  rw [ho]
  show zn P op t x y (aev env) st.H st.nx = _
  unfold zn
  rw [hx,hy]
  cases op <;> first | exact absurd rfl h1 | exact absurd rfl h2 | (simp only [decide_true,hv])
 have hx := jc x
 have hy := jc y
 unfold binI at h
 cases ex : bx x with | mk fx => cases ey : bx y with | mk fy =>
  rw [ex] at h hx; rw [ey] at h hy
  have hx' : ∀ env,fx env = aev env x := hx
  have hy' : ∀ env,fy env = aev env y := hy
  cases op <;> try (cases h; done)
  all_goals
   cases h
   intro env st k hk
   rcases VZ hk with ⟨kd,a,b,e1,e2,hf⟩ | hs
   case inr => exact Kr ho hs
   rw [hx'] at e1
   rw [hy'] at e2
  ·rw [qp,qcs] at hf
   exact ⟨_,key env st kd a b _ e1 e2 (by simp only [aInt,qp]) (by decide) (by decide),hf⟩
  ·rw [qp,qck] at hf
   exact ⟨_,key env st kd a b _ e1 e2 (by simp only [aInt,qp]) (by decide) (by decide),hf⟩
  all_goals exact ⟨_,key env st kd a b _ e1 e2 rfl (by decide) (by decide),hf⟩
def twoT (x y : AVal) (f : Nat → Nat → Nat → Nat → Bool) (s : Bool) : Bool := Va x (fun n a => Va y (fun m b => f n a m b) s) s
theorem Xk {x y : AVal} {f : Nat → Nat → Nat → Nat → Bool} {s : Bool} (h : twoT x y f s = true) : (∃ n a m b,x = .str n a ∧ y = .str m b ∧ f n a m b = true) ∨ s = true := by
 rcases K2 (show Va x _ s = true from h) with ⟨n,a,e1,h⟩ | h
 ·rcases K2 (show Va y _ s = true from h) with ⟨m,b,e2,h⟩ | h
  ·exact .inl ⟨n,a,m,b,e1,e2,h⟩
  ·exact .inr h
 ·exact .inr h
def binT (P : Program) (op : BinOp) (t : TypeId) (xo yo : Operand) (x y : Acc) : CV :=
 match x,y with
 | .mk x,.mk y => match op with
  | .add => .yes fun env st f => twoT (x env) (y env) (fun n a m b => Bool.rec false (qn (Nat.add n m) fun l => qn (Nat.add (Nat.shiftLeft a (Nat.mul 8 m)) b) fun z => f (.str l z)) (Nat.ble (Nat.add n m) 9223372036854775807)) (oK (zn P .add t xo yo (aev env) st.H st.nx) f)
  | .eql => .yes fun env st f => twoT (x env) (y env) (fun n a m b => f (.bool (Bool.rec false (Nat.beq a b) (Nat.beq n m)))) (oK (zn P .eql t xo yo (aev env) st.H st.nx) f)
  | .neq => .yes fun env st f => twoT (x env) (y env) (fun n a m b => f (.bool (Bool.rec true (bnot (Nat.beq a b)) (Nat.beq n m)))) (oK (zn P .neq t xo yo (aev env) st.H st.nx) f)
  | _ => .no
theorem qcu {op : BinOp} {t u : TypeId} {x y : Operand} {f : Env → St → (AVal → Bool) → Bool} (ho : o.op = .binOp op t x y u) (h : binT P op t x y (bx x) (bx y) = .yes f) : VOK P o f := by
 have key : ∀ env (st : St) n a m b v,aev env x = .str n a → aev env y = .str m b → yk op n a m b = some v → aop P o (aev env) st.H st.nx = some (.val v st.H st.nx) := by
  intro env st n a m b v hx hy hv
  unfold aop
  rw [ho]
  show zn P op t x y (aev env) st.H st.nx = _
  unfold zn
  rw [hx,hy]
  simp only [hv]
 have hx := jc x
 have hy := jc y
 unfold binT at h
 cases ex : bx x with | mk fx => cases ey : bx y with | mk fy =>
  rw [ex] at h hx; rw [ey] at h hy
  have hx' : ∀ env,fx env = aev env x := hx
  have hy' : ∀ env,fy env = aev env y := hy
  cases op <;> try (cases h; done)
  ·cases h
   intro env st k hk
   rcases Xk hk with ⟨n,a,m,b,e1,e2,hk⟩ | hs
   case inr => exact Kr ho hs
   rw [hx'] at e1
   rw [hy'] at e2
   obtain ⟨h1,h2⟩ := zM hk
   rw [qb,qb] at h2
   refine ⟨_,key env st n a m b _ e1 e2 ?_,h2⟩
   unfold yk
   simp only [h1,qb]
  all_goals
   cases h
   intro env st k hk
   rcases Xk hk with ⟨n,a,m,b,e1,e2,hk⟩ | hs
   case inr => exact Kr ho hs
   rw [hx'] at e1
   rw [hy'] at e2
   exact ⟨_,key env st n a m b _ e1 e2 rfl,hk⟩
def nthK (l : List AVal) (i : Nat) : (AVal → Bool) → Bool :=
 List.rec (motive := fun _ => Nat → (AVal → Bool) → Bool) (fun _ _ => false) (fun v _ ih i k => Nat.rec (motive := fun _ => Bool) (k v) (fun j _ => ih j k) i) l i
theorem KJ : ∀ {l : List AVal} {i : Nat} {k : AVal → Bool},nthK l i k = true → ∃ v,l[i]? = some v ∧ k v = true
 | [],i,k,h => Bool.noConfusion h
 | v :: l,0,k,h => ⟨v,rfl,h⟩
 | v :: l,i + 1,k,h => by
  have h' : nthK l i k = true := h
  obtain ⟨u,e,hk⟩ := KJ h'
  exact ⟨u,by simpa using e,hk⟩
def VL (n : Nat) : List AVal → List AVal := Nat.rec (motive := fun _ => List AVal → List AVal) (fun l => l) (fun _ ih l => List.rec [] (fun _ t _ => ih t) l) n
theorem Jv : ∀ (n : Nat) (l : List AVal),VL n l = l.drop n
 | 0,l => rfl
 | n + 1,[] => by show ([] : List AVal) = _; simp
 | n + 1,_ :: l => by show VL n l = _; rw [Jv n l]; simp
def qaw (n : Nat) : List AVal → List AVal := Nat.rec (motive := fun _ => List AVal → List AVal) (fun _ => []) (fun _ ih l => List.rec [] (fun v t _ => v :: ih t) l) n
theorem Vc : ∀ (n : Nat) (l : List AVal),qaw n l = l.take n
 | 0,l => by show ([] : List AVal) = _; simp
 | n + 1,[] => by show ([] : List AVal) = _; simp
 | n + 1,v :: l => by show v :: qaw n l = _; rw [Vc n l]; simp
def natK (i : Int) (f : Nat → Bool) : Bool := Int.rec (motive := fun _ => (Nat → Bool) → Bool) (fun n f => f n) (fun _ _ => false) i f
theorem WK {i : Int} {f : Nat → Bool} (h : natK i f = true) : ∃ n,i = .ofNat n ∧ f n = true := by
 cases i with
 | ofNat n => exact ⟨n,rfl,h⟩
 | negSucc n => exact Bool.noConfusion h
def qjv : TypeDesc → Nat
 | .int _ => 1
 | .string => 2
 | _ => 0
def lenL (l : List AVal) : Nat := List.rec (motive := fun _ => Nat) 0 (fun _ _ n => Nat.succ n) l
theorem KI : ∀ l : List AVal,lenL l = l.length
 | [] => rfl
 | _ :: l => by show Nat.succ (lenL l) = _; rw [KI l]; rfl
def appL (a b : List AVal) : List AVal := List.rec (motive := fun _ => List AVal → List AVal) (fun b => b) (fun v _ ih b => v :: ih b) a b
theorem WP : ∀ a b : List AVal,appL a b = a ++ b
 | [],_ => rfl
 | v :: a,b => by show v :: appL a b = _; rw [WP a b]; rfl
def segF (off : Nat) : List AVal → List AVal → List AVal :=
 Nat.rec (motive := fun _ => List AVal → List AVal → List AVal) (fun cs l => appL cs (VL (lenL cs) l)) (fun _ ih cs l => List.rec (motive := fun _ => List AVal) cs (fun h t _ => h :: ih cs t) l) off
theorem Xh : ∀ (off : Nat) (cs l : List AVal),segF off cs l = seg off cs l
 | 0,cs,l => by
  show appL cs (VL (lenL cs) l) = _
  rw [WP,Jv,KI]
  simp [seg]
 | off + 1,cs,[] => by show cs = _; simp [seg]
 | off + 1,cs,h :: t => by
  show h :: segF off cs t = _
  rw [Xh off cs t]
  have : off + 1 + cs.length = (off + cs.length) + 1 := by omega
  simp [seg,this]
def setL (off : Nat) : AVal → List AVal → List AVal :=
 Nat.rec (motive := fun _ => AVal → List AVal → List AVal) (fun v l => List.rec (motive := fun _ => List AVal) [v] (fun _ t _ => v :: t) l) (fun _ ih v l => List.rec (motive := fun _ => List AVal) [v] (fun h t _ => h :: ih v t) l) off
theorem Xe : ∀ (off : Nat) (v : AVal) (l : List AVal),setL off v l = seg off [v] l
 | 0,v,[] => by show [v] = _; simp [seg]
 | 0,v,_ :: t => by show v :: t = _; simp [seg]
 | off + 1,v,[] => by show [v] = _; simp [seg]
 | off + 1,v,h :: t => by
  show h :: setL off v t = _
  rw [Xe off v t]
  simp [seg]
theorem Jq {off : Nat} {cs l : List AVal} (h : off + cs.length ≤ l.length) : (seg off cs l).length = l.length := by
 unfold seg
 simp only [List.length_append,List.length_take,List.length_drop]
 omega
inductive Bf | mk (f : Env → List AVal → (List AVal → Bool) → Bool)
def Bf.fn : Bf → Env → List AVal → (List AVal → Bool) → Bool | .mk f => f
def Je (place : Nat → Option (Nat × Nat)) (n : Nat) : List (Nat × Operand) → Bf
 | [] => .mk fun _ cells k => k cells
 | (i,x) :: rest => match place i,bx x,Je place n rest with
  | some (off,size),.mk fx,.mk g => match Nat.ble (Nat.add off size) n,Nat.beq size 1 with
   | true,true => qn off fun off => .mk fun env cells k => vOne (fx env) fun v => g env (setL off v cells) k
   | true,false => qn off fun off => qn size fun size => .mk fun env cells k => vAgg (fx env) fun cs => Bool.rec false (g env (segF off cs cells) k) (Nat.beq (lenL cs) size)
   | _,_ => .mk fun _ _ _ => false
  | _,_,_ => .mk fun _ _ _ => false
theorem Qx {place : Nat → Option (Nat × Nat)} {n : Nat} : ∀ {ps : List (Nat × Operand)} {env : Env} {cells : List AVal} {k : List AVal → Bool},cells.length = n → (Je place n ps).fn env cells k = true → ∃ cs,jD place (aev env) cells ps = some cs ∧ k cs = true
 | [],env,cells,k,_,h => ⟨cells,rfl,h⟩
 | (i,x) :: rest,env,cells,k,hn,h => by
  unfold Je at h
  have hx := jc x
  split at h <;> first | (exact Bool.noConfusion h) | skip
  rename_i off size fx g hp hfx hg
  rw [hfx] at hx
  have hx' : ∀ env,fx env = aev env x := hx
  unfold jD
  split at h <;> first | (exact Bool.noConfusion h) | skip
  ·rename_i hle hs
   have hs' := Nat.eq_of_beq_eq_true hs
   subst hs'
   rw [qb] at h
   obtain ⟨c,hc,h2⟩ := qdn (show vOne (fx env) _ = true from h)
   rw [hx'] at hc
   have hle' : off + 1 ≤ n := Nat.le_of_ble_eq_true hle
   have hlen : (seg off [c] cells).length = n := by rw [Jq (by simp; omega)]; exact hn
   rw [Xe] at h2
   obtain ⟨cs,h3,h4⟩ := Qx (ps := rest) hlen (by rw [hg]; exact h2)
   refine ⟨cs,?_,h4⟩
   have bl : Nat.beq ([c] : List AVal).length 1 = true := rfl
   rw [hn]
   simp only [hp,hc,bl,hle]
   exact h3
  ·rename_i hle hs
   rw [qb,qb] at h
   obtain ⟨cs0,hc,h2⟩ := KB (show vAgg (fx env) _ = true from h)
   rw [hx'] at hc
   obtain ⟨hl,h2⟩ := zM h2
   rw [KI] at hl
   have hl' := Nat.eq_of_beq_eq_true hl
   have hle' : off + size ≤ n := Nat.le_of_ble_eq_true hle
   have hlen : (seg off cs0 cells).length = n := by rw [Jq (by omega)]; exact hn
   rw [Xh] at h2
   obtain ⟨cs,h3,h4⟩ := Qx (ps := rest) hlen (by rw [hg]; exact h2)
   refine ⟨cs,?_,h4⟩
   rw [hn]
   have hac : kc (.agg cs0) = some cs0 := rfl
   simp only [hp,hc,hac,hl,hle]
   exact h3
def Wi (P : Program) (t : TypeId) (ps : List (Nat × Operand)) : CV :=
 match jg P t,P.underlying t with
 | some z,some (.struct fields) => match vt P fields.toList with
  | some pl => match Je (fun i => pl[i]?) z.length ps with
   | .mk f => .yes fun env _ k => f env z fun cs => k (.agg cs)
  | none => .no
 | some z,some (.array _ elem) => match P.info? elem with
  | some e => match Je (fun i => some (Nat.mul i e.size,e.size)) z.length ps with
   | .mk f => .yes fun env _ k => f env z fun cs => k (.agg cs)
  | none => .no
 | _,_ => .no
theorem XP {t : TypeId} {ps : Array (Nat × Operand)} {f : Env → St → (AVal → Bool) → Bool} (hop : o.op = .build t ps) (h : Wi P t ps.toList = .yes f) : VOK P o f := by
 have fin : ∀ env (st : St) cs,vc P t ps (aev env) = some cs → aop P o (aev env) st.H st.nx = some (.val (.agg cs) st.H st.nx) := by
  intro env st cs hcs
  unfold aop; rw [hop]
  show jb P t ps (aev env) st.H st.nx = _
  unfold jb
  simp only [hcs]
 unfold Wi at h
 split at h <;> try (cases h; done)
 ·rename_i z fields hz hu
  split at h <;> try (cases h; done)
  rename_i pl hpl
  cases ef : Je (fun i => pl[i]?) z.length ps.toList with | mk g =>
   rw [ef] at h
   cases h
   intro env st k hk
   obtain ⟨cs,hcs,hk⟩ := Qx (place := fun i => pl[i]?) (n := z.length) (ps := ps.toList) (env := env) (cells := z) (k := fun cs => k (.agg cs)) rfl (by rw [ef]; exact hk)
   exact ⟨_,fin env st cs (by unfold vc; simp only [hz,hu,hpl]; exact hcs),hk⟩
 ·rename_i z n elem hz hu
  split at h <;> try (cases h; done)
  rename_i e he
  cases ef : Je (fun i => some (Nat.mul i e.size,e.size)) z.length ps.toList with | mk g =>
   rw [ef] at h
   cases h
   intro env st k hk
   obtain ⟨cs,hcs,hk⟩ := Qx (place := fun i => some (Nat.mul i e.size,e.size)) (n := z.length) (ps := ps.toList) (env := env) (cells := z) (k := fun cs => k (.agg cs)) rfl (by rw [ef]; exact hk)
   exact ⟨_,fin env st cs (by unfold vc; simp only [hz,hu,he]; exact hcs),hk⟩
def cVal (P : Program) (o : Op) : CV :=
 match o with
 | .move x => match bx x with | .mk fx => .yes fun env _ k => k (fx env)
 | .assign x => match bx x with | .mk fx => .yes fun env _ k => k (fx env)
 | .pick c a b => match bx c,bx a,bx b with | .mk c,.mk a,.mk b => .yes fun env _ k => VR (c env) (k (a env)) (k (b env))
 | .load t a => match P.underlying t,P.info? t,bx a with
  | some d,some i,.mk fa => match aggD d with
   | false => .yes fun env st k => WY (fa env) (fun b off => qe8 (hget b st.H) off k) (fun g off => qds (GTab.tab g) off k)
   | true => qn i.size fun sz => .yes fun env st k => WY (fa env) (fun b off => qf2 (hget b st.H) off sz k) (fun _ _ => oK (jl P t a (aev env) st.H st.nx) k)
  | _,_,_ => .no
 | .nilCheck x => match bx x with | .mk fx => .yes fun env _ k => vChk (fx env) k
 | .binOp op t x y _ => match P.underlying t with
  | some (.int _) => match binI P op t x y (bx x) (bx y) with
   | .yes f => .yes f
   | .no => gen (zn P op t x y)
  | some .string => match binT P op t x y (bx x) (bx y) with
   | .yes f => .yes f
   | .no => gen (zn P op t x y)
  | _ => gen (zn P op t x y)
 | .unOp .not _ x => match bx x with | .mk fx => .yes fun env _ k => VR (fx env) (k (.bool false)) (k (.bool true))
 | .unOp op _ x => gen (opUn op x)
 | .convert s d x => match P.underlying s,P.underlying d,bx x with
  | some _,some (.int j),.mk fx => .yes fun env st k => Kd (fx env) (fun _ n => qZ (jG j n) fun r => k (.int j r)) (oK (z5 P s d x (aev env) st.H st.nx) k)
  | _,_,_ => gen (z5 P s d x)
 | .fieldAddr s x f => match P.underlying s with
  | some (.struct fields) => match fields[f]? with
   | some fd => match P.info? fd.type,bx x with
    | some i,.mk fx => match Nat.beq i.size 0 with
     | false => qn fd.offset fun q => .yes fun env _ k => WY (fx env) (fun b off => k (.ptr b (Nat.add off q))) (fun g off => k (.gptr g (Nat.add off q)))
     | true => .no
    | _,_ => .no
   | none => .no
  | _ => .no
 | .field t x f => match P.underlying t with
  | some (.struct fields) => match fields[f]? with
   | some fd => match P.underlying fd.type,P.info? fd.type,bx x with
    | some d,some i,.mk fx => match aggD d with
     | false => qn fd.offset fun q => .yes fun env _ k => vAgg (fx env) fun cs => nthK cs q k
     | true => qn fd.offset fun q => qn i.size fun sz => .yes fun env _ k => vAgg (fx env) fun cs => k (.agg (qaw sz (VL q cs)))
    | _,_,_ => .no
   | none => .no
  | _ => .no
 | .indexAddr t x i => match P.underlying t with
  | some (.slice elem) => match P.info? elem,bx x,bx i with
   | some e,.mk fx,.mk fi => qn e.size fun sz => .yes fun env _ k => vInt (fi env) fun _ i => natK i fun n => vSl (fx env) fun b off len => Bool.rec false (k (.ptr b (Nat.add off (Nat.mul n sz)))) (Nat.ble (Nat.succ n) len)
   | _,_,_ => .no
  | _ => gen (qN P t x i)
 | .index t x i => match P.underlying t,bx x,bx i with
  | some .string,.mk fx,.mk fi => .yes fun env _ k => vInt (fi env) fun _ i => natK i fun n => vStr (fx env) fun l z => Bool.rec false (qn (cutX l z n (Nat.succ n)) fun c => k (.int .u8 (.ofNat c))) (Nat.ble (Nat.succ n) l)
  | _,_,_ => gen (zN P t x i)
 | .extract t i => match bx t with | .mk ft => .yes fun env _ k => vTup (ft env) fun vs => nthK vs i k
 | .makeInterface t x => gen (qB P t x)
 | .makeFunc fn a b => gen (zJ fn a b)
 | .slice t x lo hi mx => gen (ju P t x lo hi mx)
 | .typeAssert x _ a ok => gen (zT P x a ok)
 | .lookup t x i ok => gen (wb P t x i ok)
 | .build t ps => match Wi P t ps.toList with
  | .yes f => .yes f
  | .no => gen (jb P t ps)
 | .call c => match c.callee with
  | .builtin .len => match c.argTypes.toList,c.args.toList with
   | [t],[x] => match P.underlying t,bx x with
    | some .string,.mk fx => .yes fun env _ k => qeb (fx env) fun n => k (.int .i64 (.ofNat n))
    | some (.slice _),.mk fx => .yes fun env _ k => qeu (fx env) fun n => k (.int .i64 (.ofNat n))
    | _,_ => gen (qG P c)
   | _,_ => .no
  | .builtin .max => gen (qG P c)
  | .builtin .min => gen (qG P c)
  | _ => .no
 | _ => .no
theorem KX {f : Env → St → (AVal → Bool) → Bool} (h : cVal P o.op = .yes f) : VOK P o f := by
 unfold cVal at h
 split at h
 ·rename_i x hop
  have hx := jc x
  cases e : bx x with | mk fx =>
   rw [e] at h hx; cases h
   intro env st k hk
   refine ⟨fx env,?_,hk⟩
   unfold aop; rw [hop]
   have : fx env = aev env x := hx env
   rw [this]; rfl
 ·rename_i x hop
  have hx := jc x
  cases e : bx x with | mk fx =>
   rw [e] at h hx; cases h
   intro env st k hk
   refine ⟨fx env,?_,hk⟩
   unfold aop; rw [hop]
   have : fx env = aev env x := hx env
   rw [this]; rfl
 ·rename_i c a b hop
  have hc := jc c; have ha := jc a; have hb := jc b
  cases ec : bx c with | mk fc => cases ea : bx a with | mk fa => cases eb : bx b with | mk fb =>
   rw [ec] at h hc; rw [ea] at h ha; rw [eb] at h hb; cases h
   intro env st k hk
   have hc' : fc env = aev env c := hc env
   have ha' : fa env = aev env a := ha env
   have hb' : fb env = aev env b := hb env
   have hk' : VR (fc env) (k (fa env)) (k (fb env)) = true := hk
   unfold aop; rw [hop]
   show ∃ v,jz c a b (aev env) st.H st.nx = _ ∧ _
   rcases VQ hk' with ⟨e,hh⟩ | ⟨e,hh⟩
   ·rw [hc'] at e; rw [ha'] at hh
    exact ⟨_,by unfold jz; rw [e],hh⟩
   ·rw [hc'] at e; rw [hb'] at hh
    exact ⟨_,by unfold jz; rw [e],hh⟩
 ·rename_i t a hop
  split at h <;> try (cases h; done)
  rename_i d i fa hd hi ha
  have hx := jc a; rw [ha] at hx
  have hx' : ∀ env,fa env = aev env a := hx
  split at h
  ·rename_i hagg
   cases h
   intro env st k hk
   rcases Jn hk with ⟨b,off,e,hk⟩ | ⟨g,off,e,hk⟩
   ·obtain ⟨n,ct,olds,s,e2,e3,hk⟩ := qah hk
    rw [ZF] at e2
    refine ⟨_,?_,hk⟩
    unfold aop; rw [hop]
    show jl P t a (aev env) st.H st.nx = _
    rw [hx'] at e
    simp only [jl,jN,e,e2,hd,hi,hagg,e3]
   ·obtain ⟨l,v,e2,e3,hk⟩ := Y0 hk
    refine ⟨v,?_,hk⟩
    unfold aop; rw [hop]
    show jl P t a (aev env) st.H st.nx = _
    rw [hx'] at e
    simp only [jl,jN,e,e2,hd,hi,hagg,e3]
  ·rename_i hagg
   rw [qb] at h
   cases h
   intro env st k hk
   rcases Jn hk with ⟨b,off,e,hk⟩ | ⟨g,off,e,hk⟩
   ·obtain ⟨n,ct,olds,s,e2,e3,hk⟩ := qb0 hk
    rw [ZF] at e2
    refine ⟨_,?_,hk⟩
    unfold aop; rw [hop]
    show jl P t a (aev env) st.H st.nx = _
    rw [hx'] at e
    simp only [jl,jN,e,e2,hd,hi,hagg,e3]
   ·exact ki (by funext ρ H nx; unfold aop; rw [hop]) (by rw [hop]; rfl) env st k hk
 ·rename_i x hop
  have hx := jc x
  cases e : bx x with | mk fx =>
   rw [e] at h hx; cases h
   intro env st k hk
   have hx' : fx env = aev env x := hx env
   obtain ⟨e2,hk⟩ := qcz hk
   rw [hx'] at e2 hk
   refine ⟨_,?_,hk⟩
   unfold aop; rw [hop]
   show zb x (aev env) st.H st.nx = _
   rcases e2 with ⟨b,off,e2⟩ | ⟨t,u,e2⟩ | ⟨g,off,e2⟩ <;> simp only [zb,e2]
 ·rename_i op t x y u hop
  have g : ∀ {f},gen (zn P op t x y) = .yes f → VOK P o f := fun {f} h => by
   cases h
   exact ki (by funext ρ H nx; unfold aop; rw [hop]) (by rw [hop]; rfl)
  split at h
  ·split at h
   ·rename_i hb; cases h; exact qco hop hb
   ·exact g h
  ·split at h
   ·rename_i hb; cases h; exact qcu hop hb
   ·exact g h
  ·exact g h
 ·rename_i t x hop
  have hx := jc x
  cases e : bx x with | mk fx =>
   rw [e] at h hx; cases h
   intro env st k hk
   have hx' : fx env = aev env x := hx env
   have hk' : VR (fx env) (k (.bool false)) (k (.bool true)) = true := hk
   unfold aop; rw [hop]
   show ∃ v,opUn .not x (aev env) st.H st.nx = _ ∧ _
   rcases VQ hk' with ⟨e,hh⟩ | ⟨e,hh⟩
   ·rw [hx'] at e
    exact ⟨_,by unfold opUn; rw [e]; rfl,hh⟩
   ·rw [hx'] at e
    exact ⟨_,by unfold opUn; rw [e]; rfl,hh⟩
 ·rename_i op t x hne hop
  cases h
  exact ki (by funext ρ H nx; unfold aop; rw [hop]) (by rw [hop]; rfl)
 ·rename_i s d x hop
  split at h
  ·rename_i ds j fx hs hd hx0
   have hx := jc x; rw [hx0] at hx
   have hx' : ∀ env,fx env = aev env x := hx
   cases h
   intro env st k hk
   rcases Jo hk with ⟨kd,n,e,hk⟩ | hk
   case inr => exact ki (P := P) (o := o) (g := z5 P s d x) (by funext ρ H nx; unfold aop; rw [hop]) (by rw [hop]; rfl) env st k hk
   rw [qp] at hk
   rw [hx'] at e
   refine ⟨_,?_,hk⟩
   unfold aop; rw [hop]
   show z5 P s d x (aev env) st.H st.nx = _
   unfold z5
   rw [hs,hd,e]
   simp only [qp]
  ·cases h
   exact ki (by funext ρ H nx; unfold aop; rw [hop]) (by rw [hop]; rfl)
 ·rename_i s x f' hop
  split at h <;> try (cases h; done)
  rename_i fields hs
  split at h <;> try (cases h; done)
  rename_i fd hf
  split at h <;> try (cases h; done)
  rename_i i fx hi hx0
  have hx := jc x; rw [hx0] at hx
  have hx' : ∀ env,fx env = aev env x := hx
  split at h <;> try (cases h; done)
  rename_i hz
  rw [qb] at h
  cases h
  intro env st k hk
  rcases Jn hk with ⟨b,off,e,hk⟩ | ⟨b,off,e,hk⟩ <;> rw [hx'] at e
  all_goals
   refine ⟨_,?_,hk⟩
   unfold aop; rw [hop]
   show qT P s x f' (aev env) st.H st.nx = _
   unfold qT
   simp only [hs,hf,hi,hz,e]
 ·rename_i t x f' hop
  split at h <;> try (cases h; done)
  rename_i fields hs
  split at h <;> try (cases h; done)
  rename_i fd hf
  split at h <;> try (cases h; done)
  rename_i d i fx hd hi hx0
  have hx := jc x; rw [hx0] at hx
  have hx' : ∀ env,fx env = aev env x := hx
  split at h
  ·rename_i hagg
   rw [qb] at h
   cases h
   intro env st k hk
   obtain ⟨cs,e,hk⟩ := KB hk
   rw [hx'] at e
   obtain ⟨v,hv,hk⟩ := KJ hk
   refine ⟨v,?_,hk⟩
   unfold aop; rw [hop]
   show zZ P t x f' (aev env) st.H st.nx = _
   unfold zZ ye
   have hdrop : ∃ r,List.drop fd.offset cs = v :: r := by
    obtain ⟨hlt,hv'⟩ := List.getElem?_eq_some_iff.1 hv
    exact ⟨_,by rw [List.drop_eq_getElem_cons hlt,hv']⟩
   obtain ⟨r,hdrop⟩ := hdrop
   simp only [hs,hf,e,hd,hi,hagg,hdrop]
  ·rename_i hagg
   rw [qb,qb] at h
   cases h
   intro env st k hk
   obtain ⟨cs,e,hk⟩ := KB hk
   rw [hx'] at e
   rw [Vc,Jv] at hk
   refine ⟨_,?_,hk⟩
   unfold aop; rw [hop]
   show zZ P t x f' (aev env) st.H st.nx = _
   unfold zZ ye
   simp only [hs,hf,e,hd,hi,hagg]
 ·rename_i t x i hop
  split at h
  ·rename_i elem hs
   split at h <;> try (cases h; done)
   rename_i e fx fi he hx0 hi0
   have hx := jc x; rw [hx0] at hx
   have hx' : ∀ env,fx env = aev env x := hx
   have hi := jc i; rw [hi0] at hi
   have hi' : ∀ env,fi env = aev env i := hi
   rw [qb] at h
   cases h
   intro env st k hk
   obtain ⟨kd,n,e1,hk⟩ := ZI hk
   obtain ⟨m,rfl,hk⟩ := WK hk
   obtain ⟨b,off,len,esz,full,e2,hk⟩ := qfd hk
   obtain ⟨h1,hk⟩ := zM hk
   rw [hi'] at e1
   rw [hx'] at e2
   refine ⟨_,?_,hk⟩
   unfold aop; rw [hop]
   show qN P t x i (aev env) st.H st.nx = _
   unfold qN
   simp only [e1,kx,hs,e2,h1,he]
  ·cases h
   exact ki (by funext ρ H nx; unfold aop; rw [hop]) (by rw [hop]; rfl)
 ·rename_i t x i hop
  split at h
  ·rename_i fx fi hs hx0 hi0
   have hx := jc x; rw [hx0] at hx
   have hx' : ∀ env,fx env = aev env x := hx
   have hi := jc i; rw [hi0] at hi
   have hi' : ∀ env,fi env = aev env i := hi
   cases h
   intro env st k hk
   obtain ⟨kd,n,e1,hk⟩ := ZI hk
   obtain ⟨m,rfl,hk⟩ := WK hk
   obtain ⟨l,z,e2,hk⟩ := qch hk
   obtain ⟨h1,hk⟩ := zM hk
   rw [qb] at hk
   rw [hi'] at e1
   rw [hx'] at e2
   refine ⟨_,?_,hk⟩
   unfold aop; rw [hop]
   show zN P t x i (aev env) st.H st.nx = _
   unfold zN
   simp only [e1,kx,hs,e2,h1,qb]
  ·cases h
   exact ki (by funext ρ H nx; unfold aop; rw [hop]) (by rw [hop]; rfl)
 ·rename_i t i hop
  have hx := jc t
  cases e : bx t with | mk fx =>
   rw [e] at h hx; cases h
   intro env st k hk
   have hx' : fx env = aev env t := hx env
   obtain ⟨vs,e2,hk⟩ := qdj hk
   obtain ⟨v,hv,hk⟩ := KJ hk
   rw [hx'] at e2
   refine ⟨v,?_,hk⟩
   unfold aop; rw [hop]
   show zy t i (aev env) st.H st.nx = _
   unfold zy
   simp only [e2,hv]
 ·rename_i hop; cases h; exact ki (by funext ρ H nx; unfold aop; rw [hop]) (by rw [hop]; rfl)
 ·rename_i hop; cases h; exact ki (by funext ρ H nx; unfold aop; rw [hop]) (by rw [hop]; rfl)
 ·rename_i hop; cases h; exact ki (by funext ρ H nx; unfold aop; rw [hop]) (by rw [hop]; rfl)
 ·rename_i hop; cases h; exact ki (by funext ρ H nx; unfold aop; rw [hop]) (by rw [hop]; rfl)
 ·rename_i hop; cases h; exact ki (by funext ρ H nx; unfold aop; rw [hop]) (by rw [hop]; rfl)
 ·rename_i hop
  split at h
  ·rename_i hb; cases h; exact XP hop hb
  ·cases h; exact ki (by funext ρ H nx; unfold aop; rw [hop]) (by rw [hop]; rfl)
 ·rename_i c hop
  have g : cls (.call c) = 0 → ∀ {f},gen (qG P c) = .yes f → VOK P o f := fun hc {f} h => by
   cases h
   exact ki (by funext ρ H nx; unfold aop; rw [hop]) (by rw [hop]; exact hc)
  split at h
  ·rename_i hcal
   have hcl : cls (.call c) = 0 := by unfold cls; simp only [hcal]
   split at h <;> try (cases h; done)
   rename_i t x ht hx1
   split at h
   ·rename_i fx hs hx0
    have hx := jc x; rw [hx0] at hx
    have hx' : ∀ env,fx env = aev env x := hx
    cases h
    intro env st k hk
    obtain ⟨n,z,e,hk⟩ := qap hk
    rw [hx'] at e
    refine ⟨_,?_,hk⟩
    unfold aop; rw [hop]
    show qG P c (aev env) st.H st.nx = _
    unfold qG
    simp only [hcal,qy,ht,hx1,kh,hs,e]
   ·rename_i el fx hs hx0
    have hx := jc x; rw [hx0] at hx
    have hx' : ∀ env,fx env = aev env x := hx
    cases h
    intro env st k hk
    rcases qbl hk with ⟨b,off,n,esz,full,e,hk⟩ | ⟨e,hk⟩
    ·rw [hx'] at e
     refine ⟨_,?_,hk⟩
     unfold aop; rw [hop]
     show qG P c (aev env) st.H st.nx = _
     unfold qG
     simp only [hcal,qy,ht,hx1,kh,hs,e]
    ·rw [hx'] at e
     refine ⟨_,?_,hk⟩
     unfold aop; rw [hop]
     show qG P c (aev env) st.H st.nx = _
     unfold qG
     simp only [hcal,qy,ht,hx1,kh,hs,e]
   ·exact g hcl h
  ·rename_i hcal
   exact g (by unfold cls; simp only [hcal]) h
  ·rename_i hcal
   exact g (by unfold cls; simp only [hcal]) h
  ·cases h
 ·cases h
end
end Go.Ev
end
section
namespace Go.Ev
variable [GTab] {P : Program} {H : Heap} {ops : Array Oper} {o : Oper} {env : Env}
noncomputable section
abbrev Fop := Env → St → FK → FX → Bool
inductive CF
 | no
 | yes (f : Fop)
inductive Fo | mk (f : Fop)
inductive Fl | mk (f : Nat → Env → St → FK → Bool)
inductive Ag | mk (f : Env → St → Bool)
inductive Co | mk (f : Env → St → FX → Bool)
inductive Sf | mk (f : Nat → Env → Env → St → FX → Bool)
def Fo.fn : Fo → Fop | .mk f => f
def Fl.fn : Fl → Nat → Env → St → FK → Bool | .mk f => f
def Ag.fn : Ag → Env → St → Bool | .mk f => f
def Co.fn : Co → Env → St → FX → Bool | .mk f => f
def Sf.fn : Sf → Nat → Env → Env → St → FX → Bool | .mk f => f
def Yr : ARes → Bool
 | .val _ _ _ | .call _ _ | .pan _ => true
 | _ => false
def COK (P : Program) (o : Oper) (f : Fop) : Prop :=
 ∀ env st k K,f env st k K = true → ∃ r,aop P o (aev env) st.H st.nx = some r ∧ Yr r = true ∧ JU st.call o.dst r env st.H st.nx st.dfs st.rc (unc st.call k) (uncX st.call K) = true
def retK (d : AVal → Env → Env) (env : Env) (st : St) (k : FK) (K : FX) (e : AEnd) : Heap → Nat → Bool :=
 AEnd.rec (motive := fun _ => (AVal → Env → Env) → Env → St → FK → FX → Heap → Nat → Bool) (fun v d env st k _ H nx => k (d v env) (st.with2 H nx)) (fun l _ env st _ K H nx => K (.pan l) env (st.with2 H nx)) e d env st k K
theorem qc5 {o : Option Nat} {d : AVal → Env → Env} (hd : ∀ v env,d v env = put o v env) (env : Env) (st : St) (k : FK) (K : FX) :
  retK d env st k K = fun e H' nx' => match e with
  | .ret v => unc st.call k (put o v env) H' nx' st.dfs st.rc
  | .pan l => uncX st.call K (.pan l) env H' nx' st.dfs st.rc := by
 funext e H nx
 cases e with
 | ret v => show k (d v env) (st.with2 H nx) = _; rw [hd,St.with2_eq]; rfl
 | pan l => show K (.pan l) env (st.with2 H nx) = _; rw [St.with2_eq]; rfl
def Ki (v : AVal) (off n : Nat) (ct : CT) : CT := Bool.rec (CT.setF ct off v) (Bool.rec (CT.setF ct off v) (.c1 (CT.of1 [v])) (Nat.beq 1 n)) (Nat.beq off 0)
theorem Xr (v : AVal) (off n : Nat) (ct : CT) : Ki v off n ct = relay [v] 1 off n ct := by
 unfold Ki relay
 rw [CT.setF_eq]
 cases h1 : Nat.beq off 0 with
 | false => rfl
 | true =>
  cases h2 : Nat.beq 1 n with
  | false => rfl
  | true =>
   have := Nat.eq_of_beq_eq_true h2
   subst this
   rfl
def hSt (o : Option AObj) : Nat → Nat → AVal → Heap → (Heap → Bool) → Bool :=
 Option.rec (motive := fun _ => Nat → Nat → AVal → Heap → (Heap → Bool) → Bool) (fun _ _ _ _ _ => false)
  (fun ob => AObj.rec (motive := fun _ => Nat → Nat → AVal → Heap → (Heap → Bool) → Bool)
   (fun n ct olds s b off v H k => Bool.rec (Bool.rec false (k (hset b (some (.cells n (Ki v off n ct) [] false)) (dels olds H))) (Nat.ble (Nat.succ off) n)) false s) (fun _ _ _ _ _ _ _ => false) ob) o
theorem qfr {o : Option AObj} {b off : Nat} {v : AVal} {k : Heap → Bool} (h : hSt o b off v H k = true) :
  ∃ n ct olds,o = some (.cells n ct olds false) ∧ Nat.ble (Nat.succ off) n = true ∧ k (set5 b (some (.cells n (relay [v] 1 off n ct) [] false)) (dels olds H)) = true := by
 cases o with
 | none => exact Bool.noConfusion h
 | some ob =>
  cases ob with
  | map es c => exact Bool.noConfusion h
  | cells n ct olds s =>
   cases s with
   | true => exact Bool.noConfusion h
   | false =>
    have h' : (Bool.rec false (k (hset b (some (.cells n (Ki v off n ct) [] false)) (dels olds H))) (Nat.ble (Nat.succ off) n) : Bool) = true := h
    obtain ⟨h1,h2⟩ := zM h'
    rw [Xr,ZJ] at h2
    exact ⟨n,ct,olds,rfl,h1,h2⟩
def genF (g : (Operand → AVal) → Heap → Nat → Option ARes) (d : Option Nat) : CF := .yes fun env st k K => match g (aev env) st.H st.nx with
 | some r => match Yr r with
  | true => JU st.call d r env st.H st.nx st.dfs st.rc (unc st.call k) (uncX st.call K)
  | false => false
 | none => false
theorem j8 {g : (Operand → AVal) → Heap → Nat → Option ARes} {f : Fop} (hg : aop P o = g) (h : genF g o.dst = .yes f) : COK P o f := by
 cases h
 intro env st k K h
 rw [hg]
 simp only at h
 split at h <;> first | (exact Bool.noConfusion h) | skip
 rename_i r hr
 split at h <;> first | (exact Bool.noConfusion h) | skip
 exact ⟨r,hr,‹_›,h⟩
def Yi (P : Program) (t : TypeId) : Bool := match P.underlying t with
 | some d => bnot (aggD d)
 | none => false
def K4 (P : Program) (o : Oper) : CF :=
 match cVal P o.op,bd o.dst with
 | .yes f,.mk d => .yes fun env st k _ => f env st fun v => k (d v env) st
 | .no,.mk d => match o.op with
  | .store t a x => match P.info? t,bx a,bx x with
   | some i,.mk fa,.mk fx => match Nat.beq 1 i.size,Yi P t with
    | true,true => .yes fun env st k _ => vPtr (fa env) fun b off => qf6 (fx env) fun v => hSt (hget b st.H) b off v st.H fun H => k (d .und env) (st.with2 H st.nx)
    | _,_ => genF (jr P t a x) o.dst
   | _,_,_ => .no
  | .call c => match c.callee with
   | .value (.func g) => match zF P g,bas c.args.toList with
    | true,.mk as => .yes fun env st k K => st.call g (as env) st.H st.nx (retK d env st k K)
    | false,_ => .no
   | .value _ => genF (qG P c) o.dst
   | .builtin .append => genF (qG P c) o.dst
   | .builtin .copy => genF (qG P c) o.dst
   | .invoke _ _ => genF (qG P c) o.dst
   | _ => .no
  | .alloc t => match jg P t with
   | some z => match Nat.ble z.length 4096 with
    | true => qn z.length fun n => .yes fun env st k _ => Bool.rec false (qn st.nx fun b => k (d (.ptr b 0) env) (st.with2 (hset b (some (.cells n (CT.ofL n z) [] false)) st.H) (Nat.succ b))) (Nat.ble (Nat.succ st.nx) 1048576)
    | false => .no
   | none => .no
  | .box t x => genF (qU P (.box t x)) o.dst
  | .buildSlice t n ps => genF (qU P (.buildSlice t n ps)) o.dst
  | .makeSlice t l c => genF (qU P (.makeSlice t l c)) o.dst
  | .panic x => genF (ku x) o.dst
  | .makeMap _ r => genF (yE r) o.dst
  | .mapUpdate t m k x => genF (ji P t m k x) o.dst
  | .insert t m k x => genF (ji P t m k x) o.dst
  | _ => .no
theorem Jd {f : Fop} (h : K4 P o = .yes f) : COK P o f := by
 have hd := Vn o.dst
 unfold K4 at h
 split at h
 ·rename_i f d hv hd0
  rw [hd0] at hd
  cases h
  intro env st k K hk
  obtain ⟨v,ha,hk⟩ := KX hv env st _ hk
  refine ⟨_,ha,rfl,?_⟩
  have hd' : d v env = put o.dst v env := hd v env
  rw [hd'] at hk
  exact hk
 ·rename_i d hv hd0
  rw [hd0] at hd
  have hd' : ∀ v env,d v env = put o.dst v env := hd
  split at h
  ·rename_i t a x hop
   split at h <;> try (cases h; done)
   rename_i i fa fx hi ha0 hx0
   have ha := jc a; rw [ha0] at ha
   have ha' : ∀ env,fa env = aev env a := ha
   have hx := jc x; rw [hx0] at hx
   have hx' : ∀ env,fx env = aev env x := hx
   split at h
   ·rename_i hsz _
    cases h
    intro env st k K hk
    obtain ⟨b,off,e1,hk⟩ := qdq hk
    obtain ⟨c1,c2,hk⟩ := Y5 hk
    obtain ⟨n,ct,olds,e2,e3,hk⟩ := qfr hk
    rw [ZF] at e2
    rw [ha'] at e1
    rw [hx'] at c1 c2 hk
    have hs := Nat.eq_of_beq_eq_true hsz
    refine ⟨.val .und (set5 b (some (.cells n (relay [aev env x] 1 off n ct) [] false)) (dels olds st.H)) st.nx,?_,rfl,?_⟩
    ·unfold aop; rw [hop]
     show jr P t a x (aev env) st.H st.nx = _
     have e3' : Nat.ble (Nat.add off 1) n = true := e3
     have ac : qo [aev env x] = true := by unfold qo; rw [c2]; rfl
     have bl : Nat.beq ([aev env x] : List AVal).length 1 = true := rfl
     simp only [jr,zt,e1,c1,hi,e2,← hs,e3',ac,bl]
    ·rw [hd',St.with2_eq] at hk
     exact hk
   ·exact j8 (by funext ρ H nx; unfold aop; rw [hop]) h
  ·rename_i c hop
   split at h
   ·rename_i g hcal
    split at h <;> try (cases h; done)
    rename_i as hb has
    have hA := qbg c.args.toList; rw [has] at hA
    have hA' : ∀ env,as env = c.args.toList.map (aev env) := hA
    cases h
    intro env st k K hk
    refine ⟨.call g (c.args.toList.map (aev env)),?_,rfl,?_⟩
    ·unfold aop; rw [hop]
     show qG P c (aev env) st.H st.nx = _
     unfold qG
     simp only [hcal,kv,callTo]
     have : aev env (.func g) = .func (.func g) [] [] := rfl
     rw [this]
     simp only [hb,List.nil_append,List.append_nil]
    ·have hk' : st.call g (as env) st.H st.nx (retK d env st k K) = true := hk
     rw [hA',qc5 hd'] at hk'
     exact hk'
   ·exact j8 (by funext ρ H nx; unfold aop; rw [hop]) h
   ·exact j8 (by funext ρ H nx; unfold aop; rw [hop]) h
   ·exact j8 (by funext ρ H nx; unfold aop; rw [hop]) h
   ·exact j8 (by funext ρ H nx; unfold aop; rw [hop]) h
   ·cases h
  ·rename_i t hop
   split at h <;> try (cases h; done)
   rename_i z hz
   split at h <;> try (cases h; done)
   rename_i hle
   rw [qb] at h
   cases h
   intro env st k K hk
   obtain ⟨h1,hk⟩ := zM hk
   rw [qb,hd',St.with2_eq,ZJ] at hk
   refine ⟨.val (.ptr st.nx 0) (set5 st.nx (some (.cells z.length (CT.ofL z.length z) [] false)) st.H) (Nat.succ st.nx),?_,rfl,hk⟩
   unfold aop; rw [hop]
   show qU P (.alloc t) (aev env) st.H st.nx = _
   simp only [qU,made,jy,hz,wX,hle,h1,qb]
  ·rename_i hop; exact j8 (by funext ρ H nx; unfold aop; rw [hop]) h
  ·rename_i hop; exact j8 (by funext ρ H nx; unfold aop; rw [hop]) h
  ·rename_i hop; exact j8 (by funext ρ H nx; unfold aop; rw [hop]) h
  ·rename_i hop; exact j8 (by funext ρ H nx; unfold aop; rw [hop]) h
  ·rename_i hop; exact j8 (by funext ρ H nx; unfold aop; rw [hop]) h
  ·rename_i hop; exact j8 (by funext ρ H nx; unfold aop; rw [hop]) h
  ·rename_i hop; exact j8 (by funext ρ H nx; unfold aop; rw [hop]) h
  ·cases h
def cOp (P : Program) (nt : Nat) (ops : Array Oper) (o : Oper) : Fo :=
 match z0 nt o.dst,K4 P o,o.guard with
 | true,.yes f,none => .mk f
 | true,.yes f,some g => match bg ops g,bd o.dst with
  | .mk w,.mk d => .mk fun env st k K => w env (f env st k K) (k (d (.tuple []) env) st)
 | _,_,_ => .mk fun env st k K => opK P st.call nt ops o env st.H st.nx st.dfs st.rc (unc st.call k) (uncX st.call K)
theorem YT {nt : Nat} {st : St} {k : FK} {K : FX} (h : (cOp P nt ops o).fn env st k K = true) :
  opK P st.call nt ops o env st.H st.nx st.dfs st.rc (unc st.call k) (uncX st.call K) = true := by
 unfold cOp at h
 split at h
 ·rename_i f hdst hf hg
  obtain ⟨r,ha,_,ht⟩ := Jd hf env st k K h
  unfold opK
  have hw : qu ops o.guard env = some true := by rw [hg]; rfl
  simp only [hdst,hw,ha]
  exact ht
 ·rename_i f g hdst hf hg
  have hd := Vn o.dst
  cases ew : bg ops g with | mk w => cases ed : bd o.dst with | mk d =>
   rw [ew] at h; rw [ed] at h hd
   have h' : (bg ops g).fn env (f env st k K) (k (d (.tuple []) env) st) = true := by rw [ew]; exact h
   unfold opK
   rcases qab h' with ⟨hw,hh⟩ | ⟨hw,hh⟩
   ·obtain ⟨r,ha,_,ht⟩ := Jd hf env st k K hh
    rw [← hg] at hw
    simp only [hdst,hw,ha]
    exact ht
   ·rw [← hg] at hw
    simp only [hdst,hw]
    have : d (.tuple []) env = put o.dst (.tuple []) env := hd _ _
    rw [← this]
    exact hh
 ·exact h
def cOps (P : Program) (nt : Nat) (ops : Array Oper) : List Oper → Co
 | [] => .mk fun env st K => K .normal env st
 | o :: l => match cOp P nt ops o,cOps P nt ops l with
  | .mk f,.mk g => .mk fun env st K => f env st (fun env st => g env st K) K
def cAct (P : Program) (ops : Array Oper) (o : Oper) : Fo :=
 match K4 P o,o.guard with
 | .yes f,none => .mk f
 | .yes f,some g => match bg ops g,bd o.dst with
  | .mk w,.mk d => .mk fun env st k K => w env (f env st k K) (k (d (.tuple []) env) st)
 | _,_ => .mk fun env st k K => actK P st.call ops o env st.H st.nx st.dfs st.rc (fun env' H' nx' => k env' ⟨st.call,H',nx',st.dfs,st.rc⟩) (uncX st.call K) env
theorem qdo {st : St} {k : FK} {K : FX} (h : (cAct P ops o).fn env st k K = true) :
  actK P st.call ops o env st.H st.nx st.dfs st.rc (fun env' H' nx' => k env' ⟨st.call,H',nx',st.dfs,st.rc⟩) (uncX st.call K) env = true := by
 have key : ∀ {f : Fop},K4 P o = .yes f → qu ops o.guard env = some true → f env st k K = true → actK P st.call ops o env st.H st.nx st.dfs st.rc (fun env' H' nx' => k env' ⟨st.call,H',nx',st.dfs,st.rc⟩) (uncX st.call K) env = true := by
  intro f hf hw hh
  obtain ⟨r,ha,hp,ht⟩ := Jd hf env st k K hh
  unfold actK
  simp only [hw,ha]
  cases r <;> first | exact Bool.noConfusion hp | exact ht
 unfold cAct at h
 split at h
 ·rename_i f hf hg
  exact key hf (by rw [hg]; rfl) h
 ·rename_i f g hf hg
  have hd := Vn o.dst
  cases ew : bg ops g with | mk w => cases ed : bd o.dst with | mk d =>
   rw [ew] at h; rw [ed] at h hd
   have h' : (bg ops g).fn env (f env st k K) (k (d (.tuple []) env) st) = true := by rw [ew]; exact h
   rcases qab h' with ⟨hw,hh⟩ | ⟨hw,hh⟩
   ·exact key hf (by rw [hg]; exact hw) hh
   ·unfold actK
    rw [← hg] at hw
    simp only [hw]
    have : d (.tuple []) env = put o.dst (.tuple []) env := hd _ _
    rw [← this]
    exact hh
 ·exact h
theorem Ww {res : Nat} {i : Nat} {nx : Nat} {k : Env → Heap → Bool} (h : zz P ops res o i env H nx k = true) :
  ∃ env' H',k env' H' = true ∧ ∀ k' : Env → Heap → Bool,k' env' H' = true → zz P ops res o i env H nx k' = true := by
 unfold zz at h
 split at h <;> first | (exact Bool.noConfusion h) | skip
 ·rename_i hw
  split at h
  ·rename_i hc
   split at h <;> first | (exact Bool.noConfusion h) | skip
   rename_i m hm
   split at h <;> first | (exact Bool.noConfusion h) | skip
   rename_i hle
   rw [qb] at h
   refine ⟨_,_,h,fun k' hk' => ?_⟩
   unfold zz
   simp only [hw,hc,hm,hle,qb]
   exact hk'
  ·rename_i hc
   split at h <;> first | (exact Bool.noConfusion h) | skip
   rename_i v H1 nx1 ha
   refine ⟨_,_,h,fun k' hk' => ?_⟩
   unfold zz
   simp only [hw,hc,ha]
   exact hk'
 ·rename_i hw
  refine ⟨_,_,h,fun k' hk' => ?_⟩
  unfold zz
  simp only [hw]
  exact hk'
def Qr (P : Program) (ops : Array Oper) (i : Nat) (o : Oper) : Fl :=
 match Nat.beq (cls o.op) 1,cVal P o.op,o.guard,bd o.dst with
 | false,.yes f,none,.mk d => .mk fun _ env st k => f env st fun v => k (d v env) st
 | false,.yes f,some g,.mk d => match bg ops g with
  | .mk w => .mk fun _ env st k => w env (f env st fun v => k (d v env) st) (k (d (.tuple []) env) st)
 | true,_,none,.mk d => match o.op with
  | .alloc t => match jg P t with
   | some z => match Nat.ble z.length 4096 with
    | true => qn z.length fun n => .mk fun res env st k => qn (Nat.add res i) fun b => k (d (.ptr b 0) env) (st.with2 (hset b (some (.cells n (CT.ofL n z) [] false)) st.H) st.nx)
    | false => .mk fun _ _ _ _ => false
   | none => .mk fun _ _ _ _ => false
  | _ => .mk fun res env st k => zz P ops res o i env st.H st.nx fun env' H' => k env' (st.with2 H' st.nx)
 | _,_,_,_ => .mk fun res env st k => zz P ops res o i env st.H st.nx fun env' H' => k env' (st.with2 H' st.nx)
theorem wP (st : St) : st.with2 st.H st.nx = st := by cases st; rfl
theorem V2 {i : Nat} {res : Nat} {st : St} {k : FK} (h : (Qr P ops i o).fn res env st k = true) :
  zz P ops res o i env st.H st.nx (fun env' H' => k env' (st.with2 H' st.nx)) = true := by
 have hd := Vn o.dst
 unfold Qr at h
 split at h
 ·rename_i f d hc hv hg hd0
  rw [hd0] at hd
  obtain ⟨v,ha,hk⟩ := KX hv env st _ h
  have hd' : d v env = put o.dst v env := hd _ _
  rw [hd'] at hk
  unfold zz
  have hw : qu ops o.guard env = some true := by rw [hg]; rfl
  simp only [hw,hc,ha,wP]
  exact hk
 ·rename_i f g d hc hv hg hd0
  rw [hd0] at hd
  cases ew : bg ops g with | mk w =>
   rw [ew] at h
   have h' : (bg ops g).fn env (f env st fun v => k (d v env) st) (k (d (.tuple []) env) st) = true := by rw [ew]; exact h
   unfold zz
   rcases qab h' with ⟨hw,hh⟩ | ⟨hw,hh⟩
   ·obtain ⟨v,ha,hk⟩ := KX hv env st _ hh
    have hd' : d v env = put o.dst v env := hd _ _
    rw [hd'] at hk
    rw [← hg] at hw
    simp only [hw,hc,ha,wP]
    exact hk
   ·rw [← hg] at hw
    have hd' : d (.tuple []) env = put o.dst (.tuple []) env := hd _ _
    rw [hd'] at hh
    simp only [hw,wP]
    exact hh
 ·rename_i d hc hg hd0
  rw [hd0] at hd
  split at h
  ·rename_i t hop
   split at h <;> first | (exact Bool.noConfusion h) | skip
   rename_i z hz
   split at h <;> first | (exact Bool.noConfusion h) | skip
   rename_i hle
   rw [qb] at h
   have h' : (qn (Nat.add res i) fun b => k (d (.ptr b 0) env) (st.with2 (hset b (some (.cells z.length (CT.ofL z.length z) [] false)) st.H) st.nx)) = true := h
   rw [qb,ZJ] at h'
   unfold zz
   have hw : qu ops o.guard env = some true := by rw [hg]; rfl
   have hm : made P o.op (aev env) = some ⟨z.length,z,fun b => .ptr b 0⟩ := by rw [hop]; simp only [made,jy,hz]
   have hd' : d (.ptr (Nat.add res i) 0) env = put o.dst (.ptr (Nat.add res i) 0) env := hd _ _
   rw [hd'] at h'
   simp only [hw,hc,hm,hle,qb]
   exact h'
  ·exact h
 ·exact h
def vf (P : Program) (ops : Array Oper) : List Nat → Fl
 | [] => .mk fun _ env st k => k env st
 | i :: l => match ops[i]? with
  | some o => match Qr P ops i o,vf P ops l with
   | .mk f,.mk g => .mk fun res env st k => f res env st fun env st => g res env st k
  | none => .mk fun _ _ _ _ => false
theorem yz (st : St) (H H' : Heap) (nx nx' : Nat) : (st.with2 H nx).with2 H' nx' = st.with2 H' nx' := by cases st; rfl
theorem QG (st : St) (H : Heap) (nx : Nat) : (st.with2 H nx).H = H := by cases st; rfl
theorem yp (st : St) (H : Heap) (nx : Nat) : (st.with2 H nx).nx = nx := by cases st; rfl
theorem wW {res : Nat} {k : FK} : ∀ {l : List Nat} {env : Env} {st : St},(vf P ops l).fn res env st k = true →
  jt P ops res st.nx (fun env' H' => k env' (st.with2 H' st.nx)) l env st.H = true
 | [],env,st,h => by
  have h' : k env st = true := h
  show k env (st.with2 st.H st.nx) = true
  rw [wP]; exact h'
 | i :: l,env,st,h => by
  unfold vf at h
  show (match ops[i]? with | some o => zz P ops res o i env st.H st.nx (jt P ops res st.nx (fun env' H' => k env' (st.with2 H' st.nx)) l) | none => false) = true
  cases ho : ops[i]? with
  | none => rw [ho] at h; exact Bool.noConfusion h
  | some o =>
   rw [ho] at h
   simp only
   cases e1 : Qr P ops i o with | mk f => cases e2 : vf P ops l with | mk g =>
    simp only [e1,e2] at h
    have h' : (Qr P ops i o).fn res env st (fun env st => g res env st k) = true := by rw [e1]; exact h
    obtain ⟨env',H',hk,hall⟩ := Ww (V2 h')
    refine hall _ ?_
    have hk' : (vf P ops l).fn res env' (st.with2 H' st.nx) k = true := by rw [e2]; exact hk
    have := wW hk'
    rw [QG,yp] at this
    simpa only [yz] using this
def ZO (P : Program) (ops : Array Oper) (o : Oper) : Ag :=
 match o.op,o.guard with
 | .move _,none | .assign _,none | .fieldAddr _ _ _,none | .field _ _ _,none | .nilCheck _,none | .extract _ _,none => .mk fun env st => ka P ops env st.H st.nx o
 | _,_ => .mk fun env st => ka P ops env st.H st.nx o
theorem Wm {st : St} (h : (ZO P ops o).fn env st = true) : ka P ops env st.H st.nx o = true := by
 unfold ZO at h
 split at h <;> exact h
def vT (P : Program) (ops : Array Oper) : List Nat → Ag
 | [] => .mk fun _ _ => true
 | i :: l => match ops[i]? with
  | some o => match ZO P ops o,vT P ops l with
   | .mk f,.mk g => .mk fun env st => Bool.rec false (g env st) (f env st)
  | none => .mk fun _ _ => false
theorem wJ {st : St} : ∀ {l : List Nat},(vT P ops l).fn env st = true → zR P ops env st.H st.nx l = true
 | [],_ => rfl
 | i :: l,h => by
  unfold vT at h
  show (Bool.rec false (zR P ops env st.H st.nx l) (match ops[i]? with | some o => ka P ops env st.H st.nx o | none => false) : Bool) = true
  cases ho : ops[i]? with
  | none => rw [ho] at h; exact Bool.noConfusion h
  | some o =>
   rw [ho] at h
   cases e1 : ZO P ops o with | mk f => cases e2 : vT P ops l with | mk g =>
    simp only [e1,e2] at h
    obtain ⟨h1,h2⟩ := zM (show (Bool.rec false (g env st) (f env st) : Bool) = true from h)
    have h1' : ka P ops env st.H st.nx o = true := Wm (by rw [e1]; exact h1)
    have h2' : zR P ops env st.H st.nx l = true := wJ (by rw [e2]; exact h2)
    simp only [h1',h2']
def vi (P : Program) (ops : Array Oper) : List (Nat × List Nat × List Nat) → Sf
 | [] => .mk fun _ _ env st K => K .normal env st
 | s :: rest => match ops[s.1]? with
  | some o => match cAct P ops o,vf P ops s.2.1,vT P ops s.2.2,vi P ops rest with
   | .mk f,.mk g,.mk a,.mk r => .mk fun res env0 env st K => f env st (fun env st => g res env st fun env st => Bool.rec false (r res env0 env st K) (a env st)) (fun e _ st => K e env0 st)
  | none => .mk fun _ _ _ _ _ => false
inductive Bl | mk (f : Env → Env)
def Bl.fn : Bl → Env → Env | .mk f => f
def QV : List Oper → Bl
 | [] => .mk fun env => env
 | o :: l => match bd o.dst,QV l with | .mk d,.mk g => .mk fun env => g (d .und env)
theorem QT : ∀ (l : List Oper) (env : Env),(QV l).fn env = jE l env
 | [],_ => rfl
 | o :: l,env => by
  have hd := Vn o.dst .und env
  have e : jE (o :: l) env = jE l (put o.dst .und env) := rfl
  rw [e]
  unfold QV
  cases e1 : bd o.dst with | mk d => cases e2 : QV l with | mk g =>
   rw [e1] at hd
   have hd' : d .und env = put o.dst .und env := hd
   have := QT l (put o.dst .und env)
   rw [e2] at this
   show g (d .und env) = _
   rw [hd']; exact this
def V7 (P : Program) (nt : Nat) (ops : Array Oper) : Co :=
 match Zq nt ops,vf P ops (yP ops),vT P ops (yX ops),vi P ops (yw ops),QV ops.toList with
 | true,.mk f,.mk a,.mk r,.mk bl => qn ops.size fun n => .mk fun env st K => Bool.rec false (qn (Nat.add st.nx n) fun nx' => f st.nx env (st.with2 st.H nx') fun env' st' => Bool.rec false (r st.nx (bl env) env' st' K) (a env' st')) (Nat.ble (Nat.add st.nx n) 1048576)
 | _,_,_,_,_ => .mk fun _ _ _ => false
end
end Go.Ev
end
section
namespace Go.Ev
variable [GTab] {P : Program} {H : Heap} {nx : Nat} {w : World} {ops : Array Oper} {o : Oper} {nt : Nat} {env : Env}
theorem qH {α : Type} {p : α → Bool} : ∀ {l : List α},allL p l = true → ∀ x,x ∈ l → p x = true
 | [],_,x,hx => by cases hx
 | y :: l,h,x,hx => by
  have h' : (Bool.rec false (allL p l) (p y) : Bool) = true := h
  cases e : p y <;> rw [e] at h'
  ·cases h'
  ·rcases List.mem_cons.1 hx with rfl | hx
   ·exact e
   ·exact qH h' x hx
theorem ks {i : Nat} : ∀ {l : List Nat},memN i l = true → i ∈ l
 | [],h => by cases h
 | j :: l,h => by
  have h' : (Bool.rec (memN i l) true (Nat.beq j i) : Bool) = true := h
  cases e : Nat.beq j i <;> rw [e] at h'
  ·exact List.mem_cons_of_mem _ (ks h')
  ·rw [Nat.eq_of_beq_eq_true e]; exact List.mem_cons_self ..
theorem j9 (m j : Nat) : bit m j = m.testBit j := by
 unfold bit
 have e : Nat.beq (Nat.mod (Nat.shiftRight m j) 2) 1 = decide (m >>> j % 2 = 1) := by
  by_cases h : m >>> j % 2 = 1
  ·rw [decide_eq_true h]; have h2 : Nat.mod (Nat.shiftRight m j) 2 = 1 := h
   rw [h2]; rfl
  ·rw [decide_eq_false h]
   cases q : Nat.beq (Nat.mod (Nat.shiftRight m j) 2) 1
   ·rfl
   ·exact (h (Nat.eq_of_beq_eq_true q)).elim
 rw [e,Nat.testBit,Nat.and_comm,Nat.and_one_is_mod]
 by_cases h : m >>> j % 2 = 1
 ·rw [decide_eq_true h,h]; rfl
 ·have : m >>> j % 2 = 0 := by omega
  rw [decide_eq_false h,this]; rfl
theorem kg {as : List Nat} {j : Nat} : ∀ {es : List Edge},bit (jM as es) j = true → ∃ e,e ∈ es ∧ Region.binds .any e = true ∧ (e.on = j ∨ bit (as.getD e.on 0) j = true)
 | [],h => by rw [j9] at h; have : jM as [] = 0 := rfl; rw [this] at h; simp at h
 | e :: es,h => by
  have h' : bit (Bool.rec (jM as es) (Nat.lor (Nat.lor (Nat.shiftLeft 1 e.on) (as.getD e.on 0)) (jM as es)) (Region.binds .any e)) j = true := h
  cases q : Region.binds .any e <;> rw [q] at h'
  ·obtain ⟨e',m,b,c⟩ := kg h'
   exact ⟨e',List.mem_cons_of_mem _ m,b,c⟩
  ·rw [j9] at h'
   have h2 : ((1 <<< e.on ||| as.getD e.on 0) ||| jM as es).testBit j = true := h'
   rw [Nat.testBit_or,Nat.testBit_or,Bool.or_eq_true,Bool.or_eq_true] at h2
   rcases h2 with (h2 | h2) | h2
   ·refine ⟨e,List.mem_cons_self ..,q,.inl ?_⟩
    rw [Nat.one_shiftLeft,Nat.testBit_two_pow] at h2
    exact of_decide_eq_true h2
   ·exact ⟨e,List.mem_cons_self ..,q,.inr (by rw [j9]; exact h2)⟩
   ·obtain ⟨e',m,b,c⟩ := kg (by rw [j9]; exact h2)
    exact ⟨e',List.mem_cons_of_mem _ m,b,c⟩
theorem vl {t : Nat} : ∀ {l : List Oper} {i j : Nat} {o : Oper},l[j]? = some o → o.dst = some t → i + j ∈ je l t i
 | [],i,j,o,h,_ => by simp at h
 | q :: l,i,0,o,h,hd => by
  simp at h
  subst h
  unfold je
  simp only [hd]
  have : Nat.beq t t = true := Nat.beq_refl t
  rw [this]
  exact List.mem_cons_self ..
 | q :: l,i,j + 1,o,h,hd => by
  simp at h
  have ih := vl (i := i + 1) h hd
  have e : i + (j + 1) = i + 1 + j := by omega
  rw [e]
  unfold je
  split
  ·split
   ·exact List.mem_cons_of_mem _ ih
   ·exact ih
  ·exact ih
structure OpsFact (nt : Nat) (ops : Array Oper) (as : List Nat) : Prop where
 dst : ∀ (i : Nat) (o : Oper),ops[i]? = some o → z0 nt o.dst = true
 edge : ∀ (i : Nat) (o : Oper),ops[i]? = some o → ∀ e,e ∈ o.after.toList → Region.binds .any e = true → e.on < i
 ahead : ∀ (i : Nat) (o : Oper),ops[i]? = some o → ∀ j,bit (as.getD i 0) j = true → ∃ e,e ∈ o.after.toList ∧ Region.binds .any e = true ∧ (e.on = j ∨ bit (as.getD e.on 0) j = true)
 look : ∀ (i : Nat) (o : Oper),ops[i]? = some o → ∀ t,t ∈ looks ops o → ∀ (j : Nat) (q : Oper),ops[j]? = some q → q.dst = some t → bit (as.getD i 0) j = true
 uniq : ∀ (i j : Nat) (o q : Oper) (t : Nat),ops[i]? = some o → ops[j]? = some q → o.dst = some t → q.dst = some t → i = j
 grd : ∀ (i : Nat) (o : Oper) (g : Nat) (b : Bool),ops[i]? = some o → o.guard = some (g,b) → ∃ t,(ops[g]?).bind (·.dst) = some t
theorem wt {l : List Oper} {as : List Nat} : ∀ {r : List Oper} {k i : Nat} {o : Oper},yd nt ops l as r k = true → r[i]? = some o → opOK nt ops l as (k + i) o = true
 | [],_,_,_,_,h => by simp at h
 | q :: r,k,i,o,h,hi => by
  unfold yd at h
  split at h <;> try (cases h; done)
  rename_i hq
  cases i with
  | zero => simp at hi; subst hi; exact hq
  | succ i =>
   simp at hi
   have := wt h hi
   have e : k + (i + 1) = k + 1 + i := by omega
   rw [e]; exact this
theorem wH {as : List Nat} (h : yd nt ops ops.toList as ops.toList 0 = true) : OpsFact nt ops as := by
 have key : ∀ i o,ops[i]? = some o → opOK nt ops ops.toList as i o = true := fun i o hi => by
  have := wt h (i := i) (o := o) (by simpa using hi)
  simpa using this
 have parts : ∀ i o,ops[i]? = some o → z0 nt o.dst = true ∧ as.getD i 0 = jM as o.after.toList ∧ allL (fun e => Bool.rec true (Nat.ble (Nat.succ e.on) i) (Region.binds .any e)) o.after.toList = true ∧
   allL (fun t => allL (fun j => bit (as.getD i 0) j) (je ops.toList t 0)) (looks ops o) = true ∧ (∀ t,o.dst = some t → allL (fun j => Nat.beq j i) (je ops.toList t 0) = true) ∧
   (∀ g b,o.guard = some (g,b) → ∃ t,(ops[g]?).bind (·.dst) = some t) := by
  intro i o hi
  have h1 := key i o hi
  unfold opOK at h1
  split at h1 <;> try (cases h1; done)
  rename_i a1 a2
  split at h1 <;> try (cases h1; done)
  rename_i a3 a4
  split at h1 <;> try (cases h1; done)
  rename_i a5
  refine ⟨a1,Nat.eq_of_beq_eq_true a2,a3,a4,fun t ht => ?_,fun g b hg => ?_⟩
  ·rw [ht] at a5; exact a5
  ·rw [hg] at h1
   simp only [] at h1
   split at h1 <;> try (cases h1; done)
   rename_i t ht
   exact ⟨_,ht⟩
 have own : ∀ j q t,ops[j]? = some q → q.dst = some t → j ∈ je ops.toList t 0 := fun j q t hj hd => by
  have := vl (t := t) (l := ops.toList) (i := 0) (j := j) (o := q) (by simpa using hj) hd
  simpa using this
 refine ⟨fun i o hi => (parts i o hi).1,?_,?_,?_,?_,fun i o g b hi hg => (parts i o hi).2.2.2.2.2 g b hg⟩
 ·intro i o hi e he hb
  have := qH (parts i o hi).2.2.1 e he
  rw [hb] at this
  exact Nat.le_of_ble_eq_true this
 ·intro i o hi j hj
  rw [(parts i o hi).2.1] at hj
  exact kg hj
 ·intro i o hi t ht j q hj hq
  exact qH (qH (parts i o hi).2.2.2.1 t ht) j (own j q t hj hq)
 ·intro i j o q t hi hj ho hq
  exact (Nat.eq_of_beq_eq_true (qH ((parts i o hi).2.2.2.2.1 t ho) j (own j q t hj hq))).symm
theorem kE {past : List Nat} {i : Nat} (h : w9 ops past i o = true) : ∀ p,p ∈ past → p ≠ i ∧ ∃ q,ops[p]? = some q ∧ ∀ d,o.dst = some d → d ∉ looks ops q := by
 intro p hp
 have h1 := qH h p hp
 split at h1 <;> try (cases h1; done)
 rename_i hne
 have ne : p ≠ i := fun e => by subst e; rw [Nat.beq_refl] at hne; cases hne
 split at h1 <;> try (cases h1; done)
 ·rename_i d q hd hq
  refine ⟨ne,q,hq,fun d' hd' hm => ?_⟩
  rw [hd] at hd'
  cases hd'
  have := qH h1 d hm
  simp only [Nat.beq_refl] at this
  cases this
 ·rename_i q hd hq
  exact ⟨ne,q,hq,fun d' hd' => by rw [hd] at hd'; cases hd'⟩
theorem ze : ∀ {l past past' : List Nat},chkF ops l past = some past' → ∀ i,i ∈ past' ↔ (i ∈ past ∨ i ∈ l)
 | [],past,past',h,i => by cases h; simp
 | j :: l,past,past',h,i => by
  unfold chkF at h
  split at h <;> try (cases h; done)
  split at h <;> try (cases h; done)
  have := ze h i
  rw [this]
  simp [or_assoc,or_comm,or_left_comm]
theorem za : ∀ {l past past' : List Nat},chkF ops l past = some past' → ∀ p,p ∈ past → ∀ j,j ∈ l → p ≠ j ∧ ∃ q o,ops[p]? = some q ∧ ops[j]? = some o ∧ ∀ d,o.dst = some d → d ∉ looks ops q
 | [],_,_,_,_,_,j,hj => by cases hj
 | i :: l,past,past',h,p,hp,j,hj => by
  unfold chkF at h
  split at h <;> try (cases h; done)
  rename_i o ho
  split at h <;> try (cases h; done)
  rename_i hc hf
  rcases List.mem_cons.1 hj with rfl | hj
  ·obtain ⟨h1,q,h2,h3⟩ := kE hf p hp
   exact ⟨h1,q,o,h2,ho,h3⟩
  ·exact za h p (List.mem_cons_of_mem _ hp) j hj
theorem jW : ∀ {l past past' : List Nat},chkF ops l past = some past' → ∀ j,j ∈ l → ∃ o,ops[j]? = some o ∧ cls o.op ≠ 2
 | [],_,_,_,j,hj => by cases hj
 | i :: l,past,past',h,j,hj => by
  unfold chkF at h
  split at h <;> try (cases h; done)
  rename_i o ho
  split at h <;> try (cases h; done)
  rename_i hc hf
  rcases List.mem_cons.1 hj with rfl | hj
  ·exact ⟨o,ho,fun e => by rw [e] at hc; cases hc⟩
  ·exact jW h j hj
theorem OpsFact.lt {as : List Nat} (F : OpsFact nt ops as) : ∀ (i : Nat) (o : Oper),ops[i]? = some o → ∀ j,bit (as.getD i 0) j = true → j < i := by
 intro i
 induction i using Nat.strongRecOn with
 | _ i ih =>
  intro o hi j hj
  obtain ⟨e,he,hb,hc⟩ := F.ahead i o hi j hj
  have hlt := F.edge i o hi e he hb
  rcases hc with hc | hc
  ·omega
  ·have hsz : i < ops.size := (Array.getElem?_eq_some_iff.1 hi).1
   have := ih e.on hlt ops[e.on] (Array.getElem?_eq_getElem (by omega)) j hc
   omega
theorem OpsFact.own {as : List Nat} (F : OpsFact nt ops as) {i : Nat} (hi : ops[i]? = some o) {d : Nat} (hd : o.dst = some d) : d ∉ looks ops o := by
 intro hm
 have := F.lt i o hi i (F.look i o hi d hm i o hi hd)
 omega
theorem Zc {env env' : Env} {x : Operand} (h : ∀ t,x = .tmp t → t < 256 → get2 t env' = get2 t env) : aev env' x = aev env x := by
 cases x with
 | tmp t =>
  show (Bool.rec .und (get2 t env') (Nat.ble t 255) : AVal) = Bool.rec .und (get2 t env) (Nat.ble t 255)
  cases hb : Nat.ble t 255 with
  | false => rfl
  | true => exact h t rfl (Nat.lt_of_le_of_lt (Nat.le_of_ble_eq_true hb) (by decide))
 | const v => rfl
 | global g => rfl
 | func f => rfl
theorem zA {env env' : Env} (h : ∀ t,t ∈ looks ops o → t < 256 → get2 t env' = get2 t env) :
  qu ops o.guard env' = qu ops o.guard env ∧ ∀ x ∈ o.op.operands,aev env' x = aev env x := by
 constructor
 ·unfold qu
  cases hg : o.guard with
  | none => rfl
  | some p =>
   obtain ⟨g,b⟩ := p
   simp only []
   cases ht : (ops[g]?).bind (·.dst) with
   | none => rfl
   | some t =>
    simp only []
    cases hb : Nat.ble t 255 with
    | false => rfl
    | true =>
     simp only []
     rw [h t (by unfold looks; rw [hg]; simp only [ht]; simp) (Nat.lt_of_le_of_lt (Nat.le_of_ble_eq_true hb) (by decide))]
 ·intro x hx
  refine Zc fun t e ht => h t ?_ ht
  subst e
  unfold looks
  exact List.mem_append_left _ (List.mem_filterMap.2 ⟨.tmp t,by simpa using hx,rfl⟩)
end Go.Ev
namespace Go.Ev
variable [GTab] {P : Program} {H : Heap} {nx : Nat} {w : World} {ops : Array Oper} {o : Oper} {nt : Nat} {env : Env}
def Fl1 (P : Program) (ops : Array Oper) (res : Nat) (env : Env) (H : Heap) (i : Nat) (o : Oper) : Prop :=
 (qu ops o.guard env = some false ∧ ∀ d,o.dst = some d → get2 d env = .tuple []) ∨
 (qu ops o.guard env = some true ∧ ∃ m,made P o.op (aev env) = some m ∧ m.n ≤ 4096 ∧ get5 (res + i) H = some (.cells m.n (CT.ofL m.n m.l) [] false) ∧ ∀ d,o.dst = some d → get2 d env = m.v (res + i))
theorem Fl1.keep {res : Nat} {env env' : Env} {H H' : Heap} {i : Nat} (h : Fl1 P ops res env H i o) (hl : ∀ t,t ∈ looks ops o → t < 256 → get2 t env' = get2 t env)
  (hd : ∀ d,o.dst = some d → get2 d env' = get2 d env) (hH : get5 (res + i) H' = get5 (res + i) H) : Fl1 P ops res env' H' i o := by
 obtain ⟨e1,e2⟩ := zA hl
 rcases h with ⟨h1,h2⟩ | ⟨h1,m,h2,h3,h4,h5⟩
 ·exact .inl ⟨e1.trans h1,fun d hd' => (hd d hd').trans (h2 d hd')⟩
 ·exact .inr ⟨e1.trans h1,m,(jj e2).trans h2,h3,hH.trans h4,fun d hd' => (hd d hd').trans (h5 d hd')⟩
def Fl0 (P : Program) (ops : Array Oper) (env : Env) (H : Heap) (nx : Nat) (o : Oper) : Prop :=
 (qu ops o.guard env = some false ∧ ∀ d,o.dst = some d → get2 d env = .tuple []) ∨
 (qu ops o.guard env = some true ∧ ∃ v,aop P o (aev env) H nx = some (.val v H nx) ∧ ∀ d,o.dst = some d → get2 d env = v)
theorem kO (hc : cls o.op = 0) (h : ka P ops env H nx o = true) : Fl0 P ops env H nx o := by
 unfold ka at h
 split at h <;> try (cases h; done)
 ·rename_i hw
  split at h <;> try (cases h; done)
  rename_i v H1 nx1 hop
  obtain ⟨rfl,rfl⟩ := vm hc hop
  refine .inr ⟨hw,v,hop,fun d hd => ?_⟩
  rw [hd] at h
  exact (wU _ _ _ h).symm
 ·rename_i hw
  refine .inl ⟨hw,fun d hd => ?_⟩
  rw [hd] at h
  simp only [] at h
  split at h <;> first | (cases h; done) | assumption
theorem QY {ρ : Operand → AVal} {H H' : Heap} {nx nx' : Nat} {v : AVal} (hc : cls o.op = 0) (hp : z4 o.op = false) (h : aop P o ρ H nx = some (.val v H nx)) : aop P o ρ H' nx' = some (.val v H' nx') := by
 unfold aop at h ⊢
 cases hop : o.op <;> rw [hop] at h hc hp <;> simp only [] at h ⊢ <;> first | (cases hc; done) | (cases hp; done) | skip
 case move => unfold jm at h ⊢; cases h; rfl
 case assign => unfold jm at h ⊢; cases h; rfl
 case call c =>
  simp only [cls] at hc
  unfold qG at h ⊢
  cases hce : c.callee with
  | value f => rw [hce] at hc; cases hc
  | invoke r m => rw [hce] at hc; cases hc
  | builtin b =>
   rw [hce] at hc h
   cases b <;> simp only [] at hc h ⊢ <;> try (cases hc; done)
   all_goals
    unfold qy at h ⊢
    try simp only [qp] at h ⊢
    split at h <;> try (cases h; done)
    all_goals (repeat' (split at h)) <;> first | (cases h; done) | (cases h; simp only [*]; done) | (cases h; simp [*]; done)
 all_goals first
  | (have h' : wS ρ H nx = some (.val v H nx) := h; cases h'; done)
  | (unfold jz at h ⊢) | (unfold zb at h ⊢) | (unfold opUn at h ⊢) | (unfold z5 at h ⊢) | (unfold qB at h ⊢) | (unfold zJ at h ⊢; cases h; rfl; done)
  | (unfold qT at h ⊢) | (unfold zZ at h ⊢) | (unfold qN at h ⊢) | (unfold zN at h ⊢) | (unfold zT at h ⊢) | (unfold zy at h ⊢) | (unfold jb at h ⊢) | (unfold zn at h ⊢)
 all_goals try simp only [qp,qb] at h ⊢
 all_goals (repeat' (split at h)) <;> first | (cases h; done) | (cases h; simp only [*]; done) | (cases h; simp [*]; done) | skip
theorem Fl0.keep {env env' : Env} {H H' : Heap} {nx nx' : Nat} (hc : cls o.op = 0) (hp : z4 o.op = false) (h : Fl0 P ops env H nx o) (hl : ∀ t,t ∈ looks ops o → t < 256 → get2 t env' = get2 t env)
  (hd : ∀ d,o.dst = some d → get2 d env' = get2 d env) : Fl0 P ops env' H' nx' o := by
 obtain ⟨e1,e2⟩ := zA hl
 rcases h with ⟨h1,h2⟩ | ⟨h1,v,h2,h3⟩
 ·exact .inl ⟨e1.trans h1,fun d hd' => (hd d hd').trans (h2 d hd')⟩
 ·exact .inr ⟨e1.trans h1,v,(zP e2).trans (QY hc hp h2),fun d hd' => (hd d hd').trans (h3 d hd')⟩
theorem qR {d : Option Nat} {v : AVal} {nt t : Nat} (hd : z0 nt d = true) (hn : nt ≤ 256) (ht : t < 256) (hne : d ≠ some t) : get2 t (put d v env) = get2 t env := by
 cases d with
 | none => rfl
 | some d =>
  have h1 : d < nt := Nat.le_of_ble_eq_true hd
  show get2 t (set2 d v env) = _
  rw [jP (by omega) ht,if_neg (fun e => hne (by rw [e]))]
theorem q8 {d : Nat} {v : AVal} : get2 d (put (some d) v env) = v := by
 show get2 d (set2 d v env) = v
 rw [zX]
theorem Zg {as : List Nat} {res nx : Nat} {k : Env → Heap → Bool} {i : Nat} (F : OpsFact nt ops as) (hn : nt ≤ 256) (hlim : res + ops.size ≤ 1048576)
  (hi : ops[i]? = some o) (h : zz P ops res o i env H nx k = true) :
  ∃ env' H',k env' H' = true ∧ (∀ t,t < 256 → o.dst ≠ some t → get2 t env' = get2 t env) ∧ (∀ b,b < 1048576 → b ≠ res + i → get5 b H' = get5 b H) ∧
   (∀ σ w,Rel σ H nx w → σ (res + i) = none → Rel σ H' nx w) ∧ (cls o.op = 1 → Fl1 P ops res env' H' i o) ∧ (cls o.op = 0 → z4 o.op = false → Fl0 P ops env' H' nx o) := by
 have hd := F.dst i o hi
 have hsz : i < ops.size := (Array.getElem?_eq_some_iff.1 hi).1
 have looks_same : ∀ v t,t ∈ looks ops o → t < 256 → get2 t (put o.dst v env) = get2 t env := fun v t ht hlt => qR hd hn hlt (fun e => F.own hi e ht)
 unfold zz at h
 split at h <;> try (cases h; done)
 ·rename_i hw
  split at h
  ·rename_i hc
   split at h <;> try (cases h; done)
   rename_i m hm
   split at h <;> try (cases h; done)
   rename_i h4
   rw [qb] at h
   refine ⟨_,_,h,fun t ht hne => qR hd hn ht hne,?_,?_,fun _ => ?_,fun e => by rw [e] at hc; cases hc⟩
   ·intro b hb hne
    exact qr (fun e => hne e.symm) (show res + i < 1048576 by omega) hb
   ·intro σ w hr hp
    exact hr.pend hp (Nat.le_refl _) hr.lim (by show res + i < 1048576; omega)
   ·obtain ⟨e1,e2⟩ := zA (looks_same (m.v (Nat.add res i)))
    refine .inr ⟨e1.trans hw,m,(jj e2).trans hm,Nat.le_of_ble_eq_true h4,qg ..,fun d hd' => ?_⟩
    rw [hd']; exact q8
  ·rename_i hc
   split at h <;> try (cases h; done)
   rename_i v H1 nx1 hop
   refine ⟨_,_,h,fun t ht hne => qR hd hn ht hne,fun _ _ _ => rfl,fun _ _ hr _ => hr,fun e => ?_,fun hc0 hp => ?_⟩
   ·rw [e] at hc; cases hc
   ·obtain ⟨rfl,rfl⟩ := vm hc0 hop
    obtain ⟨e1,e2⟩ := zA (looks_same v)
    refine .inr ⟨e1.trans hw,v,(zP e2).trans hop,fun d hd' => ?_⟩
    rw [hd']; exact q8
 ·rename_i hw
  obtain ⟨e1,e2⟩ := zA (looks_same (.tuple []))
  refine ⟨_,_,h,fun t ht hne => qR hd hn ht hne,fun _ _ _ => rfl,fun _ _ hr _ => hr,fun _ => ?_,fun _ _ => ?_⟩
  ·refine .inl ⟨e1.trans hw,fun d hd' => ?_⟩
   rw [hd']; exact q8
  ·refine .inl ⟨e1.trans hw,fun d hd' => ?_⟩
   rw [hd']; exact q8
theorem jO {as : List Nat} {res nx : Nat} {k : Env → Heap → Bool} (F : OpsFact nt ops as) (hn : nt ≤ 256) (hlim : res + ops.size ≤ 1048576) :
  ∀ (l past past' : List Nat) (env : Env) (H : Heap),chkF ops l past = some past' → jt P ops res nx k l env H = true →
   ∃ env' H',k env' H' = true ∧ (∀ t,t < 256 → (∀ (j : Nat) (q : Oper),j ∈ l → ops[j]? = some q → q.dst ≠ some t) → get2 t env' = get2 t env) ∧ (∀ b,b < 1048576 → (∀ j,j ∈ l → b ≠ res + j) → get5 b H' = get5 b H) ∧
    (∀ σ w,Rel σ H nx w → (∀ j,j ∈ l → σ (res + j) = none) → Rel σ H' nx w) ∧ (∀ (i : Nat) (q : Oper),i ∈ l → ops[i]? = some q → cls q.op = 1 → Fl1 P ops res env' H' i q) ∧
    (∀ (i : Nat) (q : Oper),i ∈ l → ops[i]? = some q → cls q.op = 0 → z4 q.op = false → Fl0 P ops env' H' nx q)
 | [],_,_,env,H,_,h => ⟨env,H,h,fun _ _ _ => rfl,fun _ _ _ => rfl,fun _ _ hr _ => hr,(fun i q hi => by cases hi),fun i q hi => by cases hi⟩
 | i :: l,past,past',env,H,hc,h => by
  have h' : (match ops[i]? with | some o => zz P ops res o i env H nx (jt P ops res nx k l) | none => false) = true := h
  unfold chkF at hc
  split at hc <;> try (cases hc; done)
  rename_i o ho
  split at hc <;> try (cases hc; done)
  rw [ho] at h'
  simp only [] at h'
  obtain ⟨env1,H1,hk,a1,a2,a3,a4,a5⟩ := Zg F hn hlim ho h'
  obtain ⟨env2,H2,hk2,b1,b2,b3,b4,b5⟩ := jO F hn hlim l _ past' env1 H1 hc hk
  have hsz : i < ops.size := (Array.getElem?_eq_some_iff.1 ho).1
  have fr := za hc i (List.mem_cons_self ..)
  refine ⟨env2,H2,hk2,?_,?_,?_,?_,?_⟩
  ·intro t ht hne
   rw [b1 t ht (fun j q hj hq => hne j q (List.mem_cons_of_mem _ hj) hq),a1 t ht (hne i o (List.mem_cons_self ..) ho)]
  ·intro b hb hne
   rw [b2 b hb (fun j hj => hne j (List.mem_cons_of_mem _ hj)),a2 b hb (hne i (List.mem_cons_self ..))]
  ·intro σ w hr hp
   exact b3 σ w (a3 σ w hr (hp i (List.mem_cons_self ..))) fun j hj => hp j (List.mem_cons_of_mem _ hj)
  ·intro j q hj hq hcl
   rcases List.mem_cons.1 hj with rfl | hj
   ·rw [ho] at hq
    cases hq
    refine (a4 hcl).keep ?_ ?_ ?_
    ·intro t ht hlt
     refine b1 t hlt fun j' q' hj' hq' e => ?_
     obtain ⟨_,q0,o0,e1,e2,e3⟩ := fr j' hj'
     rw [ho] at e1; cases e1
     rw [hq'] at e2; cases e2
     exact e3 t e ht
    ·intro d hd
     have hdl : d < nt := by have := F.dst j o ho; rw [hd] at this; exact Nat.le_of_ble_eq_true this
     refine b1 d (Nat.lt_of_lt_of_le hdl hn) fun j' q' hj' hq' e => ?_
     exact (fr j' hj').1 (F.uniq j j' o q' d ho hq' hd e)
    ·exact b2 _ (by omega) fun j' hj' e => (fr j' hj').1 (by omega)
   ·exact b4 j q hj hq hcl
  ·intro j q hj hq hcl hp
   rcases List.mem_cons.1 hj with rfl | hj
   ·rw [ho] at hq
    cases hq
    refine (a5 hcl hp).keep hcl hp ?_ ?_
    ·intro t ht hlt
     refine b1 t hlt fun j' q' hj' hq' e => ?_
     obtain ⟨_,q0,o0,e1,e2,e3⟩ := fr j' hj'
     rw [ho] at e1; cases e1
     rw [hq'] at e2; cases e2
     exact e3 t e ht
    ·intro d hd
     have hdl : d < nt := by have := F.dst j o ho; rw [hd] at this; exact Nat.le_of_ble_eq_true this
     refine b1 d (Nat.lt_of_lt_of_le hdl hn) fun j' q' hj' hq' e => ?_
     exact (fr j' hj').1 (F.uniq j j' o q' d ho hq' hd e)
   ·exact b5 j q hj hq hcl hp
end Go.Ev
namespace Go.Ev
variable [GTab] {P : Program} {H : Heap} {nx : Nat} {w : World} {ops : Array Oper} {o : Oper} {nt : Nat} {env : Env}
abbrev zV := Nat × List Nat × List Nat
def isL (listed : Array Bool) (i : Nat) : Prop := listed.getD i false = true
structure Inv (P : Program) (nt : Nat) (ops : Array Oper) (as : List Nat) (res : Nat) (σ0 : Sg) (H0 : Heap) (w0 : World) (dfs : Dfs) (past : List Nat) (rest : List zV) (env : Env) (H : Heap) (nx : Nat) (listed : Array Bool) (σ : Sg) (w : World) (a : Act) : Prop where
 size : listed.size = ops.size
 tsize : a.tmps.size = nt
 closed : ∀ i j,isL listed i → bit (as.getD i 0) j = true → isL listed j
 todo : ∀ i,i ∈ named rest → ¬ isL listed i
 all : ∀ i,i < ops.size → i ∈ past ∨ i ∈ named rest ∨ isL listed i
 den : ∀ t,t < 256 → (∀ (j : Nat) (q : Oper),ops[j]? = some q → q.dst = some t → isL listed j) → Den σ (get2 t env) (a.tmps.getD t undef)
 fl0 : ∀ (i : Nat) (q : Oper),i ∈ past → ops[i]? = some q → ¬ isL listed i → cls q.op = 0 → Fl0 P ops env H nx q
 fl1 : ∀ (i : Nat) (q : Oper),i ∈ past → ops[i]? = some q → ¬ isL listed i → cls q.op = 1 → Fl1 P ops res env H i q
 pend : ∀ i,i < ops.size → ¬ isL listed i → σ (res + i) = none
 lim : res + ops.size ≤ nx
 rel : Rel σ H nx w
 ext : Ext σ0 σ H0 H res nx w0 w
 dfs : DfsRel σ dfs a.defers
theorem JG (p : Nat → Prop) (env : Env) : ∃ env',∀ t,t < 256 → (p t → get2 t env' = get2 t env) ∧ (¬ p t → get2 t env' = .und) := by
 have key : ∀ n,n ≤ 256 → ∃ env',∀ t,t < 256 → ((p t ∨ n ≤ t) → get2 t env' = get2 t env) ∧ ((¬ p t ∧ t < n) → get2 t env' = .und) := by
  intro n
  induction n with
  | zero => exact fun _ => ⟨env,fun t _ => ⟨fun _ => rfl,fun h => by omega⟩⟩
  | succ n ih =>
   intro hn
   obtain ⟨e,he⟩ := ih (by omega)
   by_cases hp : p n
   ·refine ⟨e,fun t ht => ⟨fun h => (he t ht).1 ?_,fun h => (he t ht).2 ⟨h.1,?_⟩⟩⟩
    ·rcases h with h | h
     ·exact .inl h
     ·exact .inr (by omega)
    ·have : t ≠ n := fun q => h.1 (q ▸ hp)
     omega
   ·refine ⟨set2 n .und e,fun t ht => ⟨fun h => ?_,fun h => ?_⟩⟩
    ·have hne : n ≠ t := fun q => by
      rcases h with h | h
      ·exact hp (q ▸ h)
      ·omega
     rw [jP (by omega) ht,if_neg hne]
     refine (he t ht).1 ?_
     rcases h with h | h
     ·exact .inl h
     ·exact .inr (by omega)
    ·rw [jP (by omega) ht]
     by_cases q : n = t
     ·rw [if_pos q]
     ·rw [if_neg q]; exact (he t ht).2 ⟨h.1,by omega⟩
 obtain ⟨e,he⟩ := key 256 (Nat.le_refl _)
 exact ⟨e,fun t ht => ⟨fun h => (he t ht).1 (.inl h),fun h => (he t ht).2 ⟨h,ht⟩⟩⟩
theorem kS {listed : Array Bool} {i j : Nat} (hi : i < listed.size) : isL (listed.setIfInBounds i true) j ↔ (j = i ∨ isL listed j) := by
 unfold isL
 by_cases e : i = j
 ·subst e; simp [hi]
 ·simp only [Array.getD_eq_getD_getElem?,Array.getElem?_setIfInBounds_ne e]
  constructor
  ·exact fun h => .inr h
  ·rintro (h | h)
   ·exact (e h.symm).elim
   ·exact h
theorem Inv.view {as : List Nat} {res : Nat} {σ0 : Sg} {H0 : Heap} {w0 : World} {dfs : Dfs} {past : List Nat} {rest : List zV} {listed : Array Bool} {σ : Sg} {a : Act}
  (F : OpsFact nt ops as) (hn : nt ≤ 256) (I : Inv P nt ops as res σ0 H0 w0 dfs past rest env H nx listed σ w a) {i : Nat} {o : Oper} (hi : ops[i]? = some o) (hr : ∀ j,bit (as.getD i 0) j = true → isL listed j) :
  ∃ envm,EnvRel σ nt envm a.tmps ∧ qu ops o.guard envm = qu ops o.guard env ∧ ∀ x ∈ o.op.operands,aev envm x = aev env x := by
 obtain ⟨envm,hm⟩ := JG (fun t => ∀ (j : Nat) (q : Oper),ops[j]? = some q → q.dst = some t → isL listed j) env
 refine ⟨envm,⟨I.tsize,hn,fun t ht => ?_⟩,zA fun t ht hlt => (hm t hlt).1 fun j q hj hq => hr j (F.look i o hi t ht j q hj hq)⟩
 by_cases hp : ∀ (j : Nat) (q : Oper),ops[j]? = some q → q.dst = some t → isL listed j
 ·rw [(hm t ht).1 hp]; exact I.den t ht hp
 ·rw [(hm t ht).2 hp]; exact .und _
theorem Inv.next {as : List Nat} {res : Nat} {σ0 : Sg} {H0 : Heap} {w0 : World} {dfs : Dfs} {past : List Nat} {rest : List zV} {listed : Array Bool} {σ : Sg} {a : Act}
  (F : OpsFact nt ops as) (I : Inv P nt ops as res σ0 H0 w0 dfs past rest env H nx listed σ w a) {i : Nat} {o : Oper} (hi : ops[i]? = some o) (hr : ∀ j,bit (as.getD i 0) j = true → isL listed j) (hrest : i ∉ named rest)
  {σ1 : Sg} {w1 : World} {v' : Value} (sub : ∀ b p,σ b = some p → σ1 b = some p) (R : Rel σ1 H nx w1) (E : Ext σ0 σ1 H0 H res nx w0 w1) (hp : ∀ j,j < ops.size → j ≠ i → σ (res + j) = none → σ1 (res + j) = none)
  (hv : ∀ d,o.dst = some d → Den σ1 (get2 d env) v') : Inv P nt ops as res σ0 H0 w0 dfs past rest env H nx (listed.setIfInBounds i true) σ1 w1 (a.put o.dst v') := by
 have hlt : i < ops.size := (Array.getElem?_eq_some_iff.1 hi).1
 have S : ∀ j,isL (listed.setIfInBounds i true) j ↔ (j = i ∨ isL listed j) := fun j => kS (by rw [I.size]; exact hlt)
 have hd := F.dst i o hi
 refine ⟨by rw [Array.size_setIfInBounds]; exact I.size,?_,?_,?_,?_,?_,?_,?_,?_,I.lim,R,E,?_⟩
 ·cases hdst : o.dst with
  | none => exact I.tsize
  | some d => show (a.tmps.setIfInBounds d v').size = nt; rw [Array.size_setIfInBounds]; exact I.tsize
 ·intro j k hj hb
  rw [S] at hj ⊢
  rcases hj with rfl | hj
  ·exact .inr (hr k hb)
  ·exact .inr (I.closed j k hj hb)
 ·intro j hj hl
  rw [S] at hl
  rcases hl with rfl | hl
  ·exact hrest hj
  ·exact I.todo j hj hl
 ·intro j hj
  rw [S]
  rcases I.all j hj with h | h | h
  ·exact .inl h
  ·exact .inr (.inl h)
  ·exact .inr (.inr (.inr h))
 ·intro t ht hown
  by_cases e : o.dst = some t
  ·rw [e]
   show Den σ1 (get2 t env) ((a.tmps.setIfInBounds t v').getD t undef)
   have : t < a.tmps.size := by rw [I.tsize]; rw [e] at hd; exact Nat.le_of_ble_eq_true hd
   rw [zU _ _ _ _ this,if_pos rfl]
   exact hv t e
  ·have h1 : (a.put o.dst v').tmps.getD t undef = a.tmps.getD t undef := by
    cases hdst : o.dst with
    | none => rfl
    | some d =>
     show (a.tmps.setIfInBounds d v').getD t undef = _
     have : d < a.tmps.size := by rw [I.tsize]; rw [hdst] at hd; exact Nat.le_of_ble_eq_true hd
     rw [zU _ _ _ _ this,if_neg (fun q => e (by rw [hdst,q]))]
   rw [h1]
   refine (I.den t ht fun j q hj hq => ?_).mono sub
   have := hown j q hj hq
   rw [S] at this
   rcases this with rfl | h
   ·rw [hi] at hj; cases hj; exact (e hq).elim
   ·exact h
 ·intro j q hj hq hl
  exact I.fl0 j q hj hq (fun h => hl ((S j).2 (.inr h)))
 ·intro j q hj hq hl
  exact I.fl1 j q hj hq (fun h => hl ((S j).2 (.inr h)))
 ·intro j hj hl
  exact hp j hj (fun e => hl ((S j).2 (.inl e))) (I.pend j hj (fun h => hl ((S j).2 (.inr h))))
 ·have : (a.put o.dst v').defers = a.defers := by cases o.dst <;> rfl
  rw [this]; exact I.dfs.mono sub
theorem Inv.float {as : List Nat} {res : Nat} {σ0 : Sg} {H0 : Heap} {w0 : World} {dfs : Dfs} {past : List Nat} {rest : List zV} {listed : Array Bool} {σ : Sg} {a : Act}
  (F : OpsFact nt ops as) (hn : nt ≤ 256) (I : Inv P nt ops as res σ0 H0 w0 dfs past rest env H nx listed σ w a) {i : Nat} {o : Oper} (hi : ops[i]? = some o) (hpast : i ∈ past) (hnl : ¬ isL listed i) (hcls : cls o.op = 0 ∨ cls o.op = 1)
  (hr : ∀ j,bit (as.getD i 0) j = true → isL listed j) (hrest : i ∉ named rest) {Q : Exit → Act → World → Prop} {K : Act → World → Prop}
  (hK : ∀ σ1 w1 a1,Inv P nt ops as res σ0 H0 w0 dfs past rest env H nx (listed.setIfInBounds i true) σ1 w1 a1 → K a1 w1) : wpOp P ops Q i K a w := by
 have hlt : i < ops.size := (Array.getElem?_eq_some_iff.1 hi).1
 obtain ⟨envm,M,hw,hx⟩ := I.view F hn hi hr
 unfold wpOp
 rw [hi]
 simp only []
 have unw : qu ops o.guard env = some false → (∀ d,o.dst = some d → get2 d env = .tuple []) → (if Region.wanted o (yielded ops a.tmps) = true then o.wp P a w K Q ∨ (o.asks P a w ∧ LetsOut Q) else K (a.put o.dst undef) w) := by
  intro h1 h2
  rw [if_neg (by rw [zp (hw.trans h1) M]; simp)]
  exact hK σ w _ (I.next F hi hr hrest (fun _ _ h => h) I.rel I.ext (fun _ _ _ h => h) fun d hd => by rw [h2 d hd]; exact .tuple .nil)
 rcases hcls with hc | hc
 ·rcases I.fl0 i o hpast hi hnl hc with ⟨h1,h2⟩ | ⟨hwt,v,hop,hdv⟩
  ·exact unw h1 h2
  ·rw [if_pos (zp (hw.trans hwt) M)]
   have hop' : aop P o (aev envm) H nx = some (.val v H nx) := (zP hx).trans hop
   obtain ⟨σ',w',v',R,E,D,hrun⟩ := kC hop' σ w a.eval I.rel M.aev
   have fin : K (a.put o.dst v') w' := by
    refine hK σ' w' _ (I.next F hi hr hrest E.sub R (I.ext.trans E) (fun j hj _ h => (E.pend (res + j) (by have := I.lim; omega) h).1) fun d hd => ?_)
    rw [hdv d hd]
    exact D
   refine .inl ?_
   unfold Oper.wp
   rcases hrun with hrun | ⟨hrun,rfl⟩
   ·rw [hrun]; exact fin
   ·rw [hrun]; exact fin
 ·rcases I.fl1 i o hpast hi hnl hc with ⟨h1,h2⟩ | ⟨h1,m,h2,h3,h4,h5⟩
  ·exact unw h1 h2
  ·rw [if_pos (zp (hw.trans h1) M)]
   have hm : made P o.op (aev envm) = some m := (jj hx).trans h2
   obtain ⟨l',t,v',hl,hln,hv,hrun⟩ := QF hm σ w a.eval M.aev
   obtain ⟨c1,c2,c3⟩ := vr hl hln h3
   have hb : σ (res + i) = none := I.pend i hlt hnl
   have hbx : res + i < nx := by have := I.lim; omega
   have R := I.rel.alloc_at (t := t) (fz := (0,0)) hb hbx h4 c1 c2 (Nat.le_refl _) (fun i _ h => by omega) c3
   obtain ⟨e1,e2,e3,e4⟩ := Ext.alloc_at (sz := m.n) (.cells ⟨l'⟩ t) I.rel hb
   have E := I.ext
   refine .inl ?_
   unfold Oper.wp
   rw [hrun]
   refine hK _ _ _ (I.next F hi hr hrest e2 R ⟨fun b p h => e2 b p (E.sub b p h),?_,?_,E.le,E.os,E.tape,E.output,?_,?_⟩ ?_ ?_)
   ·intro b cb sz h hcb
    obtain ⟨b',sz',h'⟩ := e3 b cb sz h (Nat.lt_of_lt_of_le hcb E.size)
    exact E.rng b' cb sz' h' hcb
   ·intro b hbr h
    obtain ⟨p1,p2⟩ := E.pend b hbr h
    exact ⟨e1 b (by omega) (by have := E.le; omega) p1,p2⟩
   ·have := E.size
    have : (w.alloc (.cells ⟨l'⟩ t)).heap.size = w.heap.size + 1 := by simp
    omega
   ·intro k hk h
    rw [e4 k (Nat.lt_of_lt_of_le hk E.size)]
    exact E.frame k hk h
   ·intro j hj hne h
    exact e1 _ (by omega) (by have := I.lim; omega) h
   ·intro d hd
    rw [h5 d hd]
    exact hv _ _ (by simp [upd])
end Go.Ev
end
section
namespace Go.Ev
variable [GTab] {P : Program} {H : Heap} {nx : Nat} {w : World} {nt : Nat} {env : Env}
theorem X7 {Q : Exit → Act → List Frame → World → Prop} {a : Act} {cs : List Frame} {id : Nat} {c : Code}
  (h : c.wpS P (fun e a' cs' w' => match e with | .exit j => if j = id then Q .normal a' cs' w' else Q (.exit j) a' cs' w' | e => Q e a' cs' w') a cs w) : (Code.block id c).wpS P Q a cs w := by
 intro b k hb hro
 obtain ⟨e,a₁,cs₁,w₁,hq,harr⟩ := h b (.inBlock id :: k) hb hro
 cases e with
 | normal => exact ⟨.normal,a₁,cs₁,w₁,hq,.head step_block (Steps.trans harr (.one step_inBlock))⟩
 | exit id' =>
  by_cases hid : id' = id
  ·simp only [hid,if_true] at hq
   exact ⟨.normal,a₁,cs₁,w₁,hq,.head step_block (harr k (by simp [exitTo,hid]))⟩
  ·simp only [hid,if_false] at hq
   refine ⟨.exit id',a₁,cs₁,w₁,hq,fun k' hk => .head step_block (harr k' ?_)⟩
   have : (id == id') = false := by simp; exact fun h => hid h.symm
   simp [exitTo,this,hk]
 | goto l => exact ⟨_,a₁,cs₁,w₁,hq,fun k' hk => .head step_block (harr k' (by simp [gotoIn,hk]))⟩
 | ret => exact ⟨_,a₁,cs₁,w₁,hq,.of_steps (.one step_block) harr⟩
 | panic ch => exact ⟨_,a₁,cs₁,w₁,hq,.of_steps (.one step_block) harr⟩
 | outgrown => exact ⟨_,a₁,cs₁,w₁,hq,.of_steps (b := b) (k := k) (cs := cs₁) (e := .outgrown) (.one step_block) harr⟩
theorem jR {σ : Sg} {dfs : Dfs} {a : Act} {c : Operand} {b : Bool} (ha : ARel σ nt env dfs a) (h : aev env c = .bool b) : a.eval c = .bool b := by
 have := ha.env.aev c
 rw [h] at this
 cases hq : a.eval c <;> rw [hq] at this <;> cases this
 rfl
theorem kr : ∀ (args : List AVal) (i : Nat) (env : Env) (t : Nat),i + args.length ≤ 256 → t < 256 →
  get2 t (jY args i env) = if i ≤ t ∧ t < i + args.length then args.getD (t - i) .und else get2 t env
 | [],i,env,t,_,_ => by
  have : ¬ (i ≤ t ∧ t < i + ([] : List AVal).length) := by simp
  rw [if_neg this]; rfl
 | v :: args,i,env,t,h,ht => by
  show get2 t (jY args (i + 1) (set2 i v env)) = _
  simp only [List.length_cons] at h
  rw [kr args (i + 1) _ t (by omega) ht,jP (by omega) ht]
  by_cases h1 : i = t
  ·subst h1
   rw [if_neg (by omega),if_pos rfl,if_pos (by simp)]
   simp
  ·rw [if_neg h1]
   by_cases h2 : i + 1 ≤ t ∧ t < i + 1 + args.length
   ·rw [if_pos h2,if_pos (by simp; omega)]
    have e : t - i = (t - (i + 1)) + 1 := by omega
    rw [e]; simp
   ·rw [if_neg h2,if_neg (by simp; omega)]
theorem yM {σ : Sg} {args : List AVal} {args' : List Value} (hn : nt ≤ 256) (hl : args.length ≤ nt) (hd : DenL σ args args') :
  EnvRel σ nt (jY args 0 (all2 (.tuple []))) ((⟨args'⟩ : Array Value) ++ Array.replicate (nt - (⟨args'⟩ : Array Value).size) undef) := by
 have hlen := hd.length
 have hs : (⟨args'⟩ : Array Value).size = args'.length := rfl
 refine ⟨by simp; omega,hn,fun t ht => ?_⟩
 rw [kr args 0 _ t (by omega) ht]
 by_cases h : t < args.length
 ·rw [if_pos (by omega)]
  obtain ⟨v',e,d⟩ := hd.get t args[t] (by simp [List.getElem?_eq_getElem h])
  have e1 : ((⟨args'⟩ : Array Value) ++ Array.replicate (nt - (⟨args'⟩ : Array Value).size) undef).getD t undef = v' := by
   have : ((⟨args'⟩ : Array Value) ++ Array.replicate (nt - (⟨args'⟩ : Array Value).size) undef)[t]? = some v' := by
    rw [Array.getElem?_append_left (by rw [hs]; omega)]
    simpa using e
   rw [Array.getD_eq_getD_getElem?,this]
   rfl
  rw [e1]
  simpa [List.getD,List.getElem?_eq_getElem h] using d
 ·rw [if_neg (by omega),Jz]
  have e1 : ((⟨args'⟩ : Array Value) ++ Array.replicate (nt - (⟨args'⟩ : Array Value).size) undef).getD t undef = undef := by
   by_cases h2 : t < nt
   ·have : ((⟨args'⟩ : Array Value) ++ Array.replicate (nt - (⟨args'⟩ : Array Value).size) undef)[t]? = some undef := by
     rw [Array.getElem?_append_right (by rw [hs]; omega),Array.getElem?_replicate,if_pos (by rw [hs]; omega)]
    rw [Array.getD_eq_getD_getElem?,this]
    rfl
   ·have : ((⟨args'⟩ : Array Value) ++ Array.replicate (nt - (⟨args'⟩ : Array Value).size) undef)[t]? = none := by
     apply Array.getElem?_eq_none
     rw [Array.size_append,Array.size_replicate,hs]
     omega
    rw [Array.getD_eq_getD_getElem?,this]
    rfl
  rw [e1]
  exact .tuple .nil
theorem jF {σ : Sg} {tmps : Array Value} (hr : Rel σ H nx w) (he : EnvRel σ nt env tmps) :
  ∀ (rs : List ResultVar) (vs : List AVal),qX P env H rs = some vs →
   ∃ vs',DenL σ vs vs' ∧ (rs.mapM (fun | .tmp t => pure (tmps.getD t undef) | .cell a t => do loadVar t (← asAddr (tmps.getD a undef))) : Sem (List Value)).run P w = .ok vs' w
 | [],vs,h => by cases h; exact ⟨[],.nil,rfl⟩
 | .tmp t :: l,vs,h => by
  unfold qX at h
  split at h <;> try (cases h; done)
  rename_i vs1 hle h1
  cases h
  obtain ⟨vs',hd,hrun⟩ := jF hr he l vs1 h1
  refine ⟨tmps.getD t undef :: vs',.cons (he.den t (Nat.lt_of_le_of_lt (Nat.le_of_ble_eq_true hle) (by decide))) hd,?_⟩
  simp only [List.mapM_cons,Sem.run_bind,Sem.run_pure,Result.andThen_ok,hrun]
 | .cell a t :: l,vs,h => by
  unfold qX at h
  split at h <;> try (cases h; done)
  rename_i vs1 hle h1
  split at h <;> try (cases h; done)
  rename_i v hv
  cases h
  obtain ⟨vs',hd,hrun⟩ := jF hr he l vs1 h1
  have hda := he.den a (Nat.lt_of_le_of_lt (Nat.le_of_ble_eq_true hle) (by decide))
  obtain ⟨x',dx,hx⟩ := vJ (P := P) hr hda hv
  refine ⟨x' :: vs',.cons dx hd,?_⟩
  have isptr : ∃ ad,tmps.getD a undef = .pointer (some ad) := by
   unfold jN at hv
   split at hv <;> try (cases hv; done)
   all_goals
    rename_i heq
    rw [heq] at hda
    cases hq : tmps.getD a undef <;> rw [hq] at hda <;> cases hda
    exact ⟨_,rfl⟩
  obtain ⟨ad,had⟩ := isptr
  rw [had] at hx
  have hx' : (loadVar t ad).run P w = .ok x' w := by simpa [Instr.loadAt,Instr.sureAddr] using hx
  have hasa : (asAddr (tmps.getD a undef)).run P w = .ok ad w := by rw [had]; rfl
  simp only [List.mapM_cons,Sem.run_bind,hasa,Result.andThen_ok,hx',hrun,Sem.run_pure]
theorem kI {σ : Sg} {tmps : Array Value} {fn : Func} {vs : List AVal} (hr : Rel σ H nx w) (he : EnvRel σ nt env tmps)
  (h : qX P env H fn.results.toList = some vs) : ∃ v',Den σ (kY vs) v' ∧ (results fn tmps).run P w = .ok v' w := by
 obtain ⟨vs',hd,hrun⟩ := jF hr he _ vs h
 have hm : (fn.results.mapM (fun | .tmp t => pure (tmps.getD t undef) | .cell a t => do loadVar t (← asAddr (tmps.getD a undef))) : Sem (Array Value)).run P w = .ok ⟨vs'⟩ w := by
  rw [Array.mapM_eq_mapM_toList]
  simp only [Sem.run_map]
  rw [hrun]
  rfl
 refine ⟨if h : (⟨vs'⟩ : Array Value).size = 1 then (⟨vs'⟩ : Array Value)[0] else .tuple ⟨vs'⟩,?_,?_⟩
 ·cases hd with
  | nil => exact .tuple .nil
  | cons h1 t1 => cases t1 with
   | nil => exact h1
   | cons h2 t2 => exact .tuple (.cons h1 (.cons h2 t2))
 ·unfold results
  rw [Sem.run_bind]
  exact (congrArg (fun r : Result (Array Value) => r.andThen fun vs w' => Sem.run P (pure (if h : vs.size = 1 then vs[0] else .tuple vs)) w') hm).trans rfl
theorem Q6 {σ : Sg} {m : AMode} {u : FrameMode} (h : MRel σ m u) : MRel σ (wL m) (settle u) := by
 cases m with
 | returning => cases u <;> first | exact h.elim | trivial
 | panicking l =>
  cases u with
  | run => exact h.elim
  | returning => exact h.elim
  | panicking c =>
   have hc : Chain σ l c := h
   cases hc with
   | nil => exact Chain.nil
   | @cons v r p l c hv hr hg t =>
    obtain ⟨pv,pr,pg⟩ := p
    simp only at hr hg hv
    subst hr
    subst hg
    cases pr with
    | false => exact Chain.cons hv rfl rfl t
    | true =>
     have all : ∀ {l : List (AVal × Bool)} {c : List PanicEntry},Chain σ l c → c.dropWhile (!·.goexit) = [] := by
      intro l c hch
      induction hch with
      | nil => rfl
      | cons hv hr hg t ih => simp [hg,ih]
     show MRel σ .returning (settle (.panicking ({ v := pv,recovered := true,goexit := false } :: c)))
     simp only [settle,all t]
     trivial
theorem Zj {σ : Sg} {m : AMode} {u : FrameMode} {l : List (AVal × Bool)} {c : List PanicEntry} (h : MRel σ m u) (hc : Chain σ l c) : MRel σ (wO m l) (raised u c) := by
 cases m with
 | returning => cases u <;> first | exact h.elim | exact hc
 | panicking l0 => cases u <;> first | exact h.elim | exact hc.append h
theorem KM {σ : Sg} {m : AMode} {u : FrameMode} (h : MRel σ m u) : u ≠ .run := by
 rintro rfl
 cases m <;> exact h.elim
end Go.Ev
end
section
namespace Go.Ev
variable [GTab] {w : World} {ops : Array Oper} {nt : Nat}
def Took (P : Program) (ops : Array Oper) (o : Oper) (a : Act) (w : World) (next : Act → World → Prop) (Q : Exit → Act → World → Prop) : Prop :=
 if Region.wanted o (yielded ops a.tmps) = true then o.wp P a w next Q ∨ (o.asks P a w ∧ LetsOut Q) else next (a.put o.dst undef) w
noncomputable def left (ops : Array Oper) (listed : Array Bool) : Nat := (List.range ops.size).countP fun i => !listed.getD i false
theorem JY {α : Type} {p q : α → Bool} : ∀ {l : List α},(∀ x,x ∈ l → p x = true → q x = true) → (∃ x,x ∈ l ∧ p x = false ∧ q x = true) → l.countP p < l.countP q
 | [],_,⟨x,hx,_⟩ => by cases hx
 | y :: l,h,⟨x,hx,hp,hq⟩ => by
  rw [List.countP_cons,List.countP_cons]
  have mono : l.countP p ≤ l.countP q := List.countP_mono_left fun z hz => h z (List.mem_cons_of_mem _ hz)
  have hy := h y (List.mem_cons_self ..)
  rcases List.mem_cons.1 hx with rfl | hx
  ·rw [hp,hq]; simp; omega
  ·have ih := JY (fun z hz => h z (List.mem_cons_of_mem _ hz)) ⟨x,hx,hp,hq⟩
   cases e1 : p y with
   | false => simp; omega
   | true => rw [hy e1]; simp; omega
theorem va {listed : Array Bool} {i : Nat} (hs : listed.size = ops.size) (hi : i < ops.size) (hn : ¬ isL listed i) : left ops (listed.setIfInBounds i true) < left ops listed := by
 refine JY (fun x _ hx => ?_) ⟨i,List.mem_range.2 hi,?_,?_⟩
 ·cases e : listed.getD x false with
  | false => rfl
  | true => have := (kS (listed := listed) (i := i) (j := x) (by omega)).2 (.inr e); unfold isL at this; rw [this] at hx; cases hx
 ·have := (kS (listed := listed) (i := i) (j := i) (by omega)).2 (.inl rfl); unfold isL at this; rw [this]; rfl
 ·cases e : listed.getD i false with
  | false => rfl
  | true => exact (hn e).elim
theorem vn {listed : Array Bool} (h : left ops listed = 0) : ∀ i,i < ops.size → isL listed i := by
 intro i hi
 unfold left at h
 rw [List.countP_eq_zero] at h
 have := h i (List.mem_range.2 hi)
 unfold isL
 cases e : listed.getD i false with
 | true => rfl
 | false => rw [e] at this; simp at this
theorem jx {listed : Array Bool} {i : Nat} (hs : listed.size = ops.size) : i ∈ Region.ready .any ops listed ↔ ∃ o,ops[i]? = some o ∧ ¬ isL listed i ∧ ∀ e,e ∈ o.after.toList → Region.binds .any e = true → isL listed e.on := by
 unfold Region.ready
 rw [List.mem_filter,List.mem_range]
 constructor
 ·rintro ⟨h1,h2⟩
  have hi : ops[i]? = some ops[i] := Array.getElem?_eq_getElem h1
  rw [hi,Bool.and_eq_true] at h2
  obtain ⟨h2,h3⟩ := h2
  refine ⟨_,hi,?_,?_⟩
  ·intro h
   unfold isL at h
   have : listed.getD i true = true := by
    rw [Array.getD_eq_getD_getElem?] at h ⊢
    rw [Array.getElem?_eq_getElem (by omega)] at h ⊢
    exact h
   rw [this] at h2
   cases h2
  ·intro e he hb
   simp only [Option.map_some,Option.getD_some,Array.all_eq_true'] at h3
   have := h3 e (by simpa using he)
   rw [hb] at this
   simpa [isL] using this
 ·rintro ⟨o,ho,h1,h2⟩
  have hlt : i < ops.size := (Array.getElem?_eq_some_iff.1 ho).1
  refine ⟨hlt,?_⟩
  rw [ho,Bool.and_eq_true]
  constructor
  ·unfold isL at h1
   rw [Array.getD_eq_getD_getElem?] at h1 ⊢
   rw [Array.getElem?_eq_getElem (by omega)] at h1 ⊢
   simpa using h1
  ·simp only [Option.map_some,Option.getD_some,Array.all_eq_true']
   intro e he
   have := h2 e (by simpa using he)
   cases hb : Region.binds .any e with
   | false => rfl
   | true => simpa [isL] using this hb
theorem vo {as : List Nat} (F : OpsFact nt ops as) {listed : Array Bool} (hs : listed.size = ops.size) (h : Region.ready .any ops listed = []) : ∀ i,i < ops.size → isL listed i := by
 intro i
 induction i using Nat.strongRecOn with
 | _ i ih =>
  intro hi
  refine Classical.byContradiction fun hn => ?_
  have ho : ops[i]? = some ops[i] := Array.getElem?_eq_getElem hi
  have : i ∈ Region.ready .any ops listed := (jx hs).2 ⟨_,ho,hn,fun e he hb => by
   have := F.edge i _ ho e he hb
   exact ih e.on this (by omega)⟩
  rw [h] at this
  cases this
theorem vp {as : List Nat} : ∀ {rest : List zV} {p : Nat} {past : List Nat},chkS ops as rest (some p) past = true → ∀ i,i ∈ named rest → ∃ j,(j = p ∨ j ∈ named rest) ∧ bit (as.getD i 0) j = true
 | [],_,_,_,i,hi => by cases hi
 | (e,L,A) :: rest,p,past,h,i,hi => by
  unfold chkS at h
  split at h <;> try (cases h; done)
  rename_i o ho hp
  split at h <;> try (cases h; done)
  rename_i hf hL
  split at h <;> try (cases h; done)
  split at h <;> try (cases h; done)
  unfold named at hi
  rcases List.mem_cons.1 hi with rfl | hi
  ·exact ⟨p,.inl rfl,hp⟩
  ·rcases List.mem_append.1 hi with hi | hi
   ·exact ⟨e,.inr (by unfold named; exact List.mem_cons_self ..),qH hL i hi⟩
   ·obtain ⟨j,hj,hb⟩ := vp h i hi
    refine ⟨j,.inr ?_,hb⟩
    unfold named
    rcases hj with rfl | hj
    ·exact List.mem_cons_self ..
    ·exact List.mem_cons_of_mem _ (List.mem_append_right _ hj)
theorem kH (hn : nt ≤ 256) : ∀ (l : List Oper) (env : Env) (t : Nat),t < 256 → (∀ o,o ∈ l → z0 nt o.dst = true) → get2 t (jE l env) = .und ∨ ((∀ o,o ∈ l → o.dst ≠ some t) ∧ get2 t (jE l env) = get2 t env)
 | [],env,t,_,_ => .inr ⟨fun o ho => (by cases ho),rfl⟩
 | o :: l,env,t,ht,hd => by
  have e : jE (o :: l) env = jE l (put o.dst .und env) := rfl
  rw [e]
  rcases kH hn l (put o.dst .und env) t ht (fun q hq => hd q (List.mem_cons_of_mem _ hq)) with h | ⟨h1,h2⟩
  ·exact .inl h
  ·by_cases ed : o.dst = some t
   ·refine .inl ?_
    rw [h2,ed]; exact q8
   ·refine .inr ⟨fun q hq => ?_,?_⟩
    ·rcases List.mem_cons.1 hq with rfl | hq
     ·exact ed
     ·exact h1 q hq
    ·rw [h2,qR (hd o (List.mem_cons_self ..)) hn ht ed]
theorem j6 {n i : Nat} : ¬ isL (Array.replicate n false) i := by
 unfold isL
 rw [Array.getD_eq_getD_getElem?,Array.getElem?_replicate]
 split <;> simp
theorem Rel.more {σ : Sg} {H : Heap} {nx nx' : Nat} (h : Rel σ H nx w) (hn : nx ≤ nx') (hl : nx' ≤ 1048576) : Rel σ H nx' w :=
 ⟨hl,fun b cb sz e => ⟨Nat.lt_of_lt_of_le (h.dom b cb sz e).1 hn,(h.dom b cb sz e).2⟩,h.obj,h.sep,h.sup,h.old,h.glob⟩
theorem Rel.nothing (hg : Glob (fun _ => none) w) : Rel (fun _ => none) (all5 none) 0 w :=
 ⟨(by omega),(fun _ _ _ h => by cases h),(fun _ _ _ _ _ h => by cases h),(fun _ _ _ _ _ _ _ _ _ h => by cases h),(fun _ _ _ _ _ _ _ h => by cases h),(fun _ _ _ _ h => by cases h),hg⟩
end Go.Ev
end
section
namespace Go.Ev
variable [GTab] {P : Program} {H : Heap} {nx : Nat} {w : World} {ops : Array Oper} {o : Oper} {nt : Nat} {env : Env}
def TriC (P : Program) (f : FuncId) (args : List AVal) (H : Heap) (nx : Nat) (K : KEnd) : Prop :=
 ∀ (σ : Sg) (w : World) (args' : List Value) (R : Ending → World → Prop),Rel σ H nx w → DenL σ args args' →
  (∀ e H' nx' σ' w' en,K e H' nx' = true → Rel σ' H' nx' w' → Ext σ σ' H H' nx nx' w w' → yu σ' e en → R en w') → Calls P f ⟨args'⟩ w R
def jB (P : Program) (call : zx) : Prop := ∀ f args H nx K,call f args H nx K = true → TriC P f args H nx K
theorem JO {call : zx} {dfs : Dfs} {rc : Option AMode} {r : ARes} {k : Env → Heap → Nat → Dfs → Option AMode → Bool} {K : Kont}
  (hc : jB P call) (hok : OpOK P o (aev env) H nx r) (hdst : z0 nt o.dst = true) (hnr : r ≠ .rcv) (ht : JU call o.dst r env H nx dfs rc k K = true)
  {σ : Sg} {w : World} {a : Act} {next : Act → World → Prop} {Q : Exit → Act → World → Prop} (hr : Rel σ H nx w) (ha : ARel σ nt env dfs a)
  (hn : ∀ env1 H1 nx1 dfs1 σ1 w1 a1,k env1 H1 nx1 dfs1 rc = true → Rel σ1 H1 nx1 w1 → Ext σ σ1 H H1 nx nx1 w w1 → ARel σ1 nt env1 dfs1 a1 → next a1 w1)
  (hp : ∀ l H1 nx1 σ1 w1 c,K (.pan l) env H1 nx1 dfs rc = true → Rel σ1 H1 nx1 w1 → Ext σ σ1 H H1 nx nx1 w w1 → Chain σ1 l c → Q (.panic c) a w1) :
  We P o a w ∧ o.wp P a w next Q := by
 cases r with
 | val v H' nx' =>
  obtain ⟨σ',w',v',R,E,D,hrun⟩ := hok σ w a.eval hr ha.env.aev
  rcases hrun with hrun | ⟨hrun,rfl⟩
  ·exact ⟨(fun w2 e => by rw [hrun] at e; cases e),by unfold Oper.wp; rw [hrun]; exact hn _ _ _ _ σ' w' _ ht R E ((ha.mono E.sub).put hdst D)⟩
  ·exact ⟨(fun w2 e => by rw [hrun] at e; cases e),by unfold Oper.wp; rw [hrun]; exact hn _ _ _ _ σ' w' _ ht R E ((ha.mono E.sub).put hdst D)⟩
 | call f args =>
  have tri := hc f args H nx _ ht
  obtain ⟨args',hl,hrun⟩ := hok σ w a.eval hr ha.env.aev
  refine ⟨(fun w2 e => by rw [hrun] at e; cases e),?_⟩
  unfold Oper.wp
  rw [hrun]
  show Calls P f ⟨args'⟩ w _
  refine tri σ w args' _ hr hl fun e H' nx' σ' w' en hk R E he => ?_
  cases e with
  | ret v =>
   cases en with
   | returned v' => exact hn _ _ _ _ σ' w' _ hk R E ((ha.mono E.sub).put hdst he)
   | panicked c => exact he.elim
   | outgrown => exact he.elim
  | pan l =>
   cases en with
   | returned v' => exact he.elim
   | panicked c => exact hp l H' nx' σ' w' c hk R E he
   | outgrown => exact he.elim
 | dfr f args =>
  obtain ⟨d,hd,hrun⟩ := hok σ w a.eval hr ha.env.aev
  refine ⟨(fun w2 e => by rw [hrun] at e; cases e),?_⟩
  unfold Oper.wp
  rw [hrun]
  refine hn _ _ _ _ σ w _ ht hr (Ext.refl _ _ _ _) ⟨?_,?_⟩
  ·have h1 : EnvRel σ nt (put o.dst (.tuple []) env) (a.put o.dst undef).tmps := ha.env.put hdst (.tuple .nil)
   have e : (({ a with defers := d :: a.defers } : Act).put o.dst undef).tmps = (a.put o.dst undef).tmps := by cases o.dst <;> rfl
   rw [e]; exact h1
  ·have e : (({ a with defers := d :: a.defers } : Act).put o.dst undef).defers = d :: a.defers := by cases o.dst <;> rfl
   rw [e]; exact .cons hd ha.dfs
 | pan v =>
  obtain ⟨v',dv,hrun⟩ := hok σ w a.eval hr ha.env.aev
  refine ⟨(fun w2 e => by rw [hrun] at e; cases e),?_⟩
  unfold Oper.wp
  rw [hrun]
  exact hp [(v,false)] H nx σ w [{ v := v',recovered := false }] ht hr (Ext.refl _ _ _ _) (.cons dv rfl rfl .nil)
 | rcv => exact (hnr rfl).elim
def yU (nt : Nat) (call : zx) (K : FX) (σ : Sg) (H : Heap) (nx : Nat) (w : World) (Q : Exit → Act → World → Prop) : Prop :=
 ∀ ex env' st' σ' w' a' e,K ex env' st' = true → st'.call = call → st'.rc = none → Rel σ' st'.H st'.nx w' → Ext σ σ' H st'.H nx st'.nx w w' → ARel σ' nt env' st'.dfs a' → Qw σ' ex e → Q e a' w'
def Vj (nt : Nat) (call : zx) (K : FX) (σ : Sg) (H : Heap) (nx : Nat) (w : World) (c₀ : Frame) (cs : List Frame) (Q : Exit → Act → List Frame → World → Prop) : Prop :=
 ∀ ex env' st' m' σ' w' a' e u',K ex env' st' = true → st'.call = call → st'.rc = some m' → Rel σ' st'.H st'.nx w' → Ext σ σ' H st'.H nx st'.nx w w' → ARel σ' nt env' st'.dfs a' → Qw σ' ex e → MRel σ' m' u' →
  Q e a' ({ c₀ with mode := u' } :: cs) w'
theorem yU.from {call : zx} {K : FX} {σ σ1 : Sg} {H H1 : Heap} {nx nx1 : Nat} {w w1 : World} {Q : Exit → Act → World → Prop} (h : yU nt call K σ H nx w Q) (E : Ext σ σ1 H H1 nx nx1 w w1) :
  yU nt call K σ1 H1 nx1 w1 Q := fun ex env' st' σ' w' a' e hk hc hr R E2 A X => h ex env' st' σ' w' a' e hk hc hr R (E.trans E2) A X
theorem Vj.from {call : zx} {K : FX} {σ σ1 : Sg} {H H1 : Heap} {nx nx1 : Nat} {w w1 : World} {c₀ : Frame} {cs : List Frame} {Q : Exit → Act → List Frame → World → Prop} (h : Vj nt call K σ H nx w c₀ cs Q) (E : Ext σ σ1 H H1 nx nx1 w w1) :
  Vj nt call K σ1 H1 nx1 w1 c₀ cs Q := fun ex env' st' m' σ' w' a' e u' hk hc hr R E2 A X M => h ex env' st' m' σ' w' a' e u' hk hc hr R (E.trans E2) A X M
def Y8 (P : Program) (nt : Nat) (c : Code) (f : Env → St → FX → Bool) : Prop :=
 ∀ env st K,jB P st.call → st.rc = none → f env st K = true → ∀ σ w a Q,Rel σ st.H st.nx w → ARel σ nt env st.dfs a → yU nt st.call K σ st.H st.nx w Q → c.wp P Q a w
def qjh (P : Program) (nt : Nat) (c : Code) (f : Env → St → FX → Bool) : Prop :=
 ∀ env st K m,jB P st.call → st.rc = some m → f env st K = true → ∀ σ w a u (c₀ : Frame) cs Q,Rel σ st.H st.nx w → ARel σ nt env st.dfs a → MRel σ m u →
  Vj nt st.call K σ st.H st.nx w c₀ cs Q → c.wpS P Q a ({ c₀ with mode := u } :: cs) w
theorem JW : ∀ (l : List Oper) (env : Env) (st : St) (K : FX),jB P st.call → st.rc = none → (cOps P nt ops l).fn env st K = true →
  ∀ σ w a Q,Rel σ st.H st.nx w → ARel σ nt env st.dfs a → yU nt st.call K σ st.H st.nx w Q → wpList P ops Q l a w
 | [],env,st,K,_,hrc,h,σ,w,a,Q,hr,ha,hQ => hQ .normal env st σ w a .normal h rfl hrc hr (Ext.refl _ _ _ _) ha trivial
 | o :: l,env,st,K,hc,hrc,h,σ,w,a,Q,hr,ha,hQ => by
  unfold cOps at h
  cases e1 : cOp P nt ops o with | mk f => cases e2 : cOps P nt ops l with | mk g =>
   rw [e1,e2] at h
   have h1 : (cOp P nt ops o).fn env st (fun env st => g env st K) K = true := by rw [e1]; exact h
   have h' := YT h1
   have next : ∀ env1 H1 nx1 dfs1 σ1 w1 a1,unc st.call (fun env st => g env st K) env1 H1 nx1 dfs1 st.rc = true → Rel σ1 H1 nx1 w1 → Ext σ σ1 st.H H1 st.nx nx1 w w1 → ARel σ1 nt env1 dfs1 a1 → wpList P ops Q l a1 w1 :=
    fun env1 H1 nx1 dfs1 σ1 w1 a1 hk R1 E1 A1 =>
     JW l env1 ⟨st.call,H1,nx1,dfs1,st.rc⟩ K hc hrc (by rw [e2]; exact hk) σ1 w1 a1 Q R1 A1 (hQ.from E1)
   unfold opK at h'
   split at h' <;> first | (exact Bool.noConfusion h') | skip
   ·rename_i hdst hw
    split at h' <;> first | (exact Bool.noConfusion h') | skip
    rename_i r hop
    have hnr : r ≠ .rcv := by
     rintro rfl
     rw [hrc] at h'
     exact Bool.noConfusion h'
    unfold wpList
    rw [if_pos (zp hw ha.env)]
    refine .inl (JO hc (kC hop) hdst hnr h' hr ha next fun lp H1 nx1 σ1 w1 c hk R1 E1 C1 => ?_).2
    exact hQ (.pan lp) env ⟨st.call,H1,nx1,st.dfs,st.rc⟩ σ1 w1 a (.panic c) hk rfl hrc R1 E1 (ha.mono E1.sub) C1
   ·rename_i hdst hw
    exact Jy (zp hw ha.env) (next _ _ _ _ σ w _ h' hr (Ext.refl _ _ _ _) (ha.put hdst (.tuple .nil)))
theorem JV : ∀ (l : List Oper) (n : Nat) (env : Env) (st : St) (K : FX) (m : AMode),(∀ j,l[j]? = ops[n + j]?) → jB P st.call → st.rc = some m → (cOps P nt ops l).fn env st K = true →
  ∀ σ w a u (c₀ : Frame) cs Q,Rel σ st.H st.nx w → ARel σ nt env st.dfs a → MRel σ m u → Vj nt st.call K σ st.H st.nx w c₀ cs Q → wpOpsS P ops Q (List.range' n l.length) a ({ c₀ with mode := u } :: cs) w
 | [],n,env,st,K,m,_,_,hrc,h,σ,w,a,u,c₀,cs,Q,hr,ha,hm,hQ => hQ .normal env st m σ w a .normal u h rfl hrc hr (Ext.refl _ _ _ _) ha trivial hm
 | o :: l,n,env,st,K,m,hl,hc,hrc,h,σ,w,a,u,c₀,cs,Q,hr,ha,hm,hQ => by
  have ho : ops[n]? = some o := by simpa using (hl 0).symm
  have hl' : ∀ j,l[j]? = ops[n + 1 + j]? := fun j => by have := hl (j + 1); simpa [Nat.add_assoc,Nat.add_comm 1 j] using this
  unfold cOps at h
  cases e1 : cOp P nt ops o with | mk f => cases e2 : cOps P nt ops l with | mk g =>
   rw [e1,e2] at h
   have h1 : (cOp P nt ops o).fn env st (fun env st => g env st K) K = true := by rw [e1]; exact h
   have h' := YT h1
   have next : ∀ env1 H1 nx1 dfs1 rc1 m1 σ1 w1 a1 u1,rc1 = some m1 → unc st.call (fun env st => g env st K) env1 H1 nx1 dfs1 rc1 = true → Rel σ1 H1 nx1 w1 → Ext σ σ1 st.H H1 st.nx nx1 w w1 → ARel σ1 nt env1 dfs1 a1 → MRel σ1 m1 u1 →
     wpOpsS P ops Q (List.range' (n + 1) l.length) a1 ({ c₀ with mode := u1 } :: cs) w1 :=
    fun env1 H1 nx1 dfs1 rc1 m1 σ1 w1 a1 u1 hrc1 hk R1 E1 A1 M1 =>
     JV l (n + 1) env1 ⟨st.call,H1,nx1,dfs1,rc1⟩ K m1 hl' hc hrc1 (by rw [e2]; exact hk) σ1 w1 a1 u1 c₀ cs Q R1 A1 M1 (hQ.from E1)
   rw [List.length_cons,List.range'_succ]
   simp only [wpOpsS,ho]
   unfold opK at h'
   split at h' <;> first | (exact Bool.noConfusion h') | skip
   ·rename_i hdst hw
    split at h' <;> first | (exact Bool.noConfusion h') | skip
    rename_i r hop
    rw [if_pos (zp hw ha.env)]
    by_cases hrcv : r = .rcv
    ·subst hrcv
     have hok := kC hop
     have hrun := hok σ w a.eval hr ha.env.aev
     simp only [hrun]
     unfold JU at h'
     split at h' <;> first | (rename_i q; cases q; done) | skip
     rw [hrc] at h'
     split at h' <;> first | (exact Bool.noConfusion h') | skip
     ·rename_i v older hm0
      cases hm0
      cases u with
      | run => exact hm.elim
      | returning => exact hm.elim
      | panicking ch =>
       cases hm with
       | @cons _ _ p _ l' hv hrr hg t =>
        obtain ⟨pv,pr,pg⟩ := p
        simp only at hv hrr hg
        subst hrr
        subst hg
        simp only [recoverD]
        exact next _ _ _ _ _ _ σ w _ (.panicking ({ v := pv,recovered := true } :: l')) rfl h' hr (Ext.refl _ _ _ _) (ha.put hdst hv) (.cons hv rfl rfl t)
     ·rename_i hm0
      cases hm0
      cases u with
      | run => exact hm.elim
      | panicking ch => exact hm.elim
      | returning =>
       simp only [recoverD]
       exact next _ _ _ _ _ _ σ w _ .returning rfl h' hr (Ext.refl _ _ _ _) (ha.put hdst .nilIface) trivial
    ·obtain ⟨hnr,hwp⟩ := JO (next := fun a' w' => wpOpsS P ops Q (List.range' (n + 1) l.length) a' ({ c₀ with mode := u } :: cs) w') (Q := fun e a' w' => Q e a' ({ c₀ with mode := u } :: cs) w')
      hc (kC hop) hdst hrcv h' hr ha
      (fun env1 H1 nx1 dfs1 σ1 w1 a1 hk R1 E1 A1 => next env1 H1 nx1 dfs1 st.rc m σ1 w1 a1 u hrc hk R1 E1 A1 (hm.mono E1.sub))
      (fun lp H1 nx1 σ1 w1 c hk R1 E1 C1 => hQ (.pan lp) env ⟨st.call,H1,nx1,st.dfs,st.rc⟩ m σ1 w1 a (.panic c) u hk rfl hrc R1 E1 (ha.mono E1.sub) C1 (hm.mono E1.sub))
     unfold Oper.wp at hwp
     split
     ·rename_i w2 e2; exact (hnr w2 e2).elim
     ·exact hwp
   ·rename_i hdst hw
    rw [if_neg (by rw [zp hw ha.env]; simp)]
    exact next _ _ _ _ st.rc m σ w _ u hrc h' hr (Ext.refl _ _ _ _) (ha.put hdst (.tuple .nil)) hm
end Go.Ev
namespace Go.Ev
variable [GTab] {P : Program} {H : Heap} {nx : Nat} {w : World} {ops : Array Oper} {o : Oper} {nt : Nat} {env : Env}
theorem Ji {call : zx} {dfs : Dfs} {rc : Option AMode} {k : Env → Heap → Nat → Bool} {K : Kont} {env0 : Env}
  (hc : jB P call) (h : actK P call ops o env H nx dfs rc k K env0 = true) {envm : Env} {σ : Sg} {w : World} {a : Act} {next : Act → World → Prop} {Q : Exit → Act → World → Prop}
  (hr : Rel σ H nx w) (M : EnvRel σ nt envm a.tmps) (e1 : qu ops o.guard envm = qu ops o.guard env) (e2 : ∀ x ∈ o.op.operands,aev envm x = aev env x)
  (hn : ∀ v H1 nx1 σ1 w1 v',k (put o.dst v env) H1 nx1 = true → Rel σ1 H1 nx1 w1 → Ext σ σ1 H H1 nx nx1 w w1 → Den σ1 v v' → next (a.put o.dst v') w1)
  (hp : ∀ l H1 nx1 σ1 w1 c,K (.pan l) env0 H1 nx1 dfs rc = true → Rel σ1 H1 nx1 w1 → Ext σ σ1 H H1 nx nx1 w w1 → Chain σ1 l c → Q (.panic c) a w1) : Took P ops o a w next Q := by
 unfold actK at h
 split at h <;> try (cases h; done)
 ·rename_i hw
  unfold Took
  rw [if_pos (zp (e1.trans hw) M)]
  split at h <;> try (cases h; done)
  ·rename_i v H1 nx1 hop
   obtain ⟨σ',w',v',R,E,D,hrun⟩ := kC ((zP e2).trans hop) σ w a.eval hr M.aev
   refine .inl ?_
   unfold Oper.wp
   rcases hrun with hrun | ⟨hrun,rfl⟩
   ·rw [hrun]; exact hn v H1 nx1 σ' w' _ h R E D
   ·rw [hrun]; exact hn v H1 nx1 σ' w' _ h R E D
  ·rename_i f args hop
   have tri := hc f args H nx _ h
   obtain ⟨args',hl,hrun⟩ := kC ((zP e2).trans hop) σ w a.eval hr M.aev
   refine .inl ?_
   unfold Oper.wp
   rw [hrun]
   show Calls P f ⟨args'⟩ w _
   refine tri σ w args' _ hr hl fun e H' nx' σ' w' en hk R E he => ?_
   cases e with
   | ret v =>
    cases en with
    | returned v' => exact hn v H' nx' σ' w' _ hk R E he
    | panicked c => exact he.elim
    | outgrown => exact he.elim
   | pan l =>
    cases en with
    | returned v' => exact he.elim
    | panicked c => exact hp l H' nx' σ' w' c hk R E he
    | outgrown => exact he.elim
  ·rename_i v hop
   obtain ⟨v',dv,hrun⟩ := kC ((zP e2).trans hop) σ w a.eval hr M.aev
   refine .inl ?_
   unfold Oper.wp
   rw [hrun]
   exact hp [(v,false)] H nx σ w [{ v := v',recovered := false }] h hr (Ext.refl _ _ _ _) (.cons dv rfl rfl .nil)
 ·rename_i hw
  unfold Took
  rw [if_neg (by rw [zp (e1.trans hw) M]; simp)]
  exact hn (.tuple []) H nx σ w undef h hr (Ext.refl _ _ _ _) (.tuple .nil)
theorem zm : ∀ (a b : List zV),named (a ++ b) = named a ++ named b
 | [],b => rfl
 | (e,L,A) :: a,b => by
  rw [List.cons_append]
  simp only [named,List.cons_append,List.append_assoc,zm a b]
theorem Inv.act {call : zx} {as : List Nat} {res : Nat} {σ0 : Sg} {H0 : Heap} {w0 : World} {dfs : Dfs} {rc : Option AMode} {past past' : List Nat} {e : Nat} {L A : List Nat} {R : List zV} {oe : Oper} {listed : Array Bool} {σ : Sg} {a : Act} {k : Env → Heap → Nat → Bool} {K : Kont}
  (hc : jB P call) (F : OpsFact nt ops as) (hn : nt ≤ 256) (hlim : res + ops.size ≤ 1048576) (I : Inv P nt ops as res σ0 H0 w0 dfs past ((e,L,A) :: R) env H nx listed σ w a) (hoe : ops[e]? = some oe) (he : e ∉ named R) (hr : ∀ j,bit (as.getD e 0) j = true → isL listed j)
  (hfresh : w9 ops past e oe = true) (hL : allL (fun i => bit (as.getD i 0) e) L = true) (hF : chkF ops L past = some past') (hA : chkA ops (as.getD e 0) A past' = true) (h' : actK P call ops oe env H nx dfs rc k K env = true) {RN : Env → Heap → Nat → Prop}
  (hnext : ∀ env1 H1 nx1,k env1 H1 nx1 = true → ∃ kf : Env → Heap → Bool,jt P ops res nx1 kf L env1 H1 = true ∧ ∀ env2 H2,kf env2 H2 = true → zR P ops env2 H2 nx1 A = true ∧ RN env2 H2 nx1)
  {Q : Exit → Act → World → Prop} {next : Act → World → Prop}
  (hK : ∀ env2 H2 nx2 σ1 w1 a1,RN env2 H2 nx2 → Inv P nt ops as res σ0 H0 w0 dfs past' R env2 H2 nx2 (listed.setIfInBounds e true) σ1 w1 a1 → (∀ t,t < 256 → (∀ (j : Nat) (q : Oper),ops[j]? = some q → q.dst ≠ some t) → get2 t env2 = get2 t env) → next a1 w1)
  (hP : ∀ l H1 nx1 σ1 w1 c,K (.pan l) env H1 nx1 dfs rc = true → Rel σ1 H1 nx1 w1 → Ext σ0 σ1 H0 H1 res nx1 w0 w1 → (∀ t,t < 256 → (∀ (j : Nat) (q : Oper),ops[j]? = some q → q.dst ≠ some t) → Den σ1 (get2 t env) (a.tmps.getD t undef)) → DfsRel σ1 dfs a.defers → a.tmps.size = nt → Chain σ1 l c → Q (.panic c) a w1) :
  wpOp P ops Q e next a w := by
 have hde := F.dst e oe hoe
 have helt : e < ops.size := (Array.getElem?_eq_some_iff.1 hoe).1
 have pastiff := ze hF
 have eun : ¬ isL listed e := I.todo e (by unfold named; exact List.mem_cons_self ..)
 have Lun : ∀ j,j ∈ L → ¬ isL listed j := fun j hj => I.todo j (by unfold named; exact List.mem_cons_of_mem _ (List.mem_append_left _ hj))
 have Lne : ∀ j,j ∈ L → j ≠ e := fun j hj q => by
  subst q
  have := F.lt j oe hoe j (qH hL j hj)
  omega
 have Llt : ∀ j,j ∈ L → j < ops.size := fun j hj => by
  obtain ⟨o,ho,_⟩ := jW hF j hj
  exact (Array.getElem?_eq_some_iff.1 ho).1
 have S : ∀ j,isL (listed.setIfInBounds e true) j ↔ (j = e ∨ isL listed j) := fun j => kS (by rw [I.size]; exact helt)
 obtain ⟨envm,M,hw,hx⟩ := I.view F hn hoe hr
 unfold wpOp
 rw [hoe]
 refine Ji hc h' I.rel M hw hx (fun v H1 nx1 σ1 w1 v' hk R' E D => ?_) (fun l H1 nx1 σ1 w1 c hk R' E C => ?_)
 ·obtain ⟨kf,hk1,hk4⟩ := hnext _ H1 nx1 hk
  obtain ⟨env2,H2,hk2,b1,b2,b3,b4,b5⟩ := jO F hn hlim L past past' _ H1 hF hk1
  obtain ⟨hag,hk3⟩ := hk4 env2 H2 hk2
  have hnx := E.le
  have hpl := I.lim
  have pend1 : ∀ j,j < ops.size → ¬ isL listed j → σ1 (res + j) = none ∧ get5 (res + j) H1 = get5 (res + j) H := fun j hj hnl => E.pend (res + j) (by omega) (I.pend j hj hnl)
  refine hK env2 H2 nx1 σ1 w1 _ hk3 ⟨?_,?_,?_,?_,?_,?_,?_,?_,?_,?_,?_,?_,?_⟩ fun t ht hno => by rw [b1 t ht fun j q _ hq => hno j q hq,qR hde hn ht (hno e oe hoe)]
  ·rw [Array.size_setIfInBounds]; exact I.size
  ·cases hdst : oe.dst with
   | none => exact I.tsize
   | some d => show (a.tmps.setIfInBounds d v').size = nt; rw [Array.size_setIfInBounds]; exact I.tsize
  ·intro j k hj hb
   rw [S] at hj ⊢
   rcases hj with rfl | hj
   ·exact .inr (hr k hb)
   ·exact .inr (I.closed j k hj hb)
  ·intro j hj hlj
   rw [S] at hlj
   have hj' : j ∈ named ((e,L,A) :: R) := by unfold named; exact List.mem_cons_of_mem _ (List.mem_append_right _ hj)
   rcases hlj with rfl | hlj
   ·exact he hj
   ·exact I.todo j hj' hlj
  ·intro j hj
   rw [S]
   rcases I.all j hj with h | h | h
   ·exact .inl ((pastiff j).2 (.inl h))
   ·unfold named at h
    rcases List.mem_cons.1 h with rfl | h
    ·exact .inr (.inr (.inl rfl))
    ·rcases List.mem_append.1 h with h | h
     ·exact .inl ((pastiff j).2 (.inr h))
     ·exact .inr (.inl h)
   ·exact .inr (.inr (.inr h))
  ·intro t ht hown
   have hnotL : ∀ (j : Nat) (q : Oper),j ∈ L → ops[j]? = some q → q.dst ≠ some t := by
    intro j q hj hq hd
    have := hown j q hq hd
    rw [S] at this
    rcases this with h | h
    ·exact Lne j hj h
    ·exact Lun j hj h
   rw [b1 t ht hnotL]
   by_cases ed : oe.dst = some t
   ·rw [ed]
    show Den σ1 (get2 t (put (some t) v env)) ((a.tmps.setIfInBounds t v').getD t undef)
    have : t < a.tmps.size := by rw [I.tsize]; rw [ed] at hde; exact Nat.le_of_ble_eq_true hde
    rw [zU _ _ _ _ this,if_pos rfl,q8]
    exact D
   ·rw [qR hde hn ht ed]
    have h1 : (a.put oe.dst v').tmps.getD t undef = a.tmps.getD t undef := by
     cases hdst : oe.dst with
     | none => rfl
     | some d =>
      show (a.tmps.setIfInBounds d v').getD t undef = _
      have : d < a.tmps.size := by rw [I.tsize]; rw [hdst] at hde; exact Nat.le_of_ble_eq_true hde
      rw [zU _ _ _ _ this,if_neg (fun q => ed (by rw [hdst,q]))]
    rw [h1]
    refine (I.den t ht fun j q hj hq => ?_).mono E.sub
    have := hown j q hj hq
    rw [S] at this
    rcases this with rfl | h
    ·rw [hoe] at hj; cases hj; exact (ed hq).elim
    ·exact h
  ·intro j q hj hq hlj hcl
   have hnl : ¬ isL listed j := fun h => hlj ((S j).2 (.inr h))
   have hjne : j ≠ e := fun h => hlj ((S j).2 (.inl h))
   cases hip : z4 q.op with
   | true =>
    have h1 := qH hA j hj
    rw [hq] at h1
    simp only [hip] at h1
    have hmem : j ∈ A := by
     split at h1
     ·exact ks ‹_›
     ·exact (hlj ((S j).2 (.inr (hr j h1)))).elim
    have h3 := qH hag j hmem
    rw [hq] at h3
    exact kO hcl h3
   | false =>
    rcases (pastiff j).1 hj with hj | hj
    ·obtain ⟨_,q0,hq0,hfr⟩ := kE hfresh j hj
     rw [hq] at hq0
     cases hq0
     refine (I.fl0 j q hj hq hnl hcl).keep hcl hip ?_ ?_
     ·intro t ht hlt
      rw [b1 t hlt fun j' q' hj' hq' ed => ?_]
      ·exact qR hde hn hlt fun ed => hfr t ed ht
      ·obtain ⟨_,q1,o1,e1,e2,e3⟩ := za hF j hj j' hj'
       rw [hq] at e1; cases e1
       rw [hq'] at e2; cases e2
       exact e3 t ed ht
     ·intro d hd
      have hdl : d < 256 := Nat.lt_of_lt_of_le (by have := F.dst j q hq; rw [hd] at this; exact Nat.le_of_ble_eq_true this) hn
      rw [b1 d hdl fun j' q' hj' hq' ed => (za hF j hj j' hj').1 (F.uniq j j' q q' d hq hq' hd ed)]
      exact qR hde hn hdl fun ed => hjne (F.uniq j e q oe d hq hoe hd ed)
    ·exact b5 j q hj hq hcl hip
  ·intro j q hj hq hlj hcl
   have hnl : ¬ isL listed j := fun h => hlj ((S j).2 (.inr h))
   have hjne : j ≠ e := fun h => hlj ((S j).2 (.inl h))
   have hjlt : j < ops.size := (Array.getElem?_eq_some_iff.1 hq).1
   rcases (pastiff j).1 hj with hj | hj
   ·obtain ⟨_,q0,hq0,hfr⟩ := kE hfresh j hj
    rw [hq] at hq0
    cases hq0
    refine (I.fl1 j q hj hq hnl hcl).keep ?_ ?_ ?_
    ·intro t ht hlt
     rw [b1 t hlt fun j' q' hj' hq' ed => ?_]
     ·exact qR hde hn hlt fun ed => hfr t ed ht
     ·obtain ⟨_,q1,o1,e1,e2,e3⟩ := za hF j hj j' hj'
      rw [hq] at e1; cases e1
      rw [hq'] at e2; cases e2
      exact e3 t ed ht
    ·intro d hd
     have hdl : d < 256 := Nat.lt_of_lt_of_le (by have := F.dst j q hq; rw [hd] at this; exact Nat.le_of_ble_eq_true this) hn
     rw [b1 d hdl fun j' q' hj' hq' ed => (za hF j hj j' hj').1 (F.uniq j j' q q' d hq hq' hd ed)]
     exact qR hde hn hdl fun ed => hjne (F.uniq j e q oe d hq hoe hd ed)
    ·rw [b2 _ (by omega) fun j' hj' ed => (za hF j hj j' hj').1 (by omega)]
     exact (pend1 j hjlt hnl).2
   ·exact b4 j q hj hq hcl
  ·intro j hj hlj
   exact (pend1 j hj fun h => hlj ((S j).2 (.inr h))).1
  ·omega
  ·exact b3 σ1 w1 R' fun j hj => (pend1 j (Llt j hj) (Lun j hj)).1
  ·have E2 := I.ext.trans E
   refine ⟨E2.sub,E2.rng,?_,E2.le,E2.os,E2.tape,E2.output,E2.size,E2.frame⟩
   intro b hb h0
   obtain ⟨p1,p2⟩ := E2.pend b hb h0
   exact ⟨p1,(b2 b (by omega) fun j _ => by omega).trans p2⟩
  ·have : (a.put oe.dst v').defers = a.defers := by cases oe.dst <;> rfl
   rw [this]; exact I.dfs.mono E.sub
 ·exact hP l H1 nx1 σ1 w1 c hk R' (I.ext.trans E) (fun t ht hno => (I.den t ht fun j q hj hq => (hno j q hj hq).elim).mono E.sub) (I.dfs.mono E.sub) I.tsize C
def RunP (P : Program) (call : zx) (ops : Array Oper) (res : Nat) (dfs : Dfs) (rc : Option AMode) (Kp : List (AVal × Bool) → Heap → Nat → Prop) (Kn : Env → Heap → Nat → Prop) : List zV → Env → Heap → Nat → Prop
 | [],env,H,nx => Kn env H nx
 | (e,L,A) :: rest,env,H,nx => ∀ oe,ops[e]? = some oe → ∃ (k : Env → Heap → Nat → Bool) (K : Kont),actK P call ops oe env H nx dfs rc k K env = true ∧
   (∀ l H1 nx1,K (.pan l) env H1 nx1 dfs rc = true → Kp l H1 nx1) ∧
   ∀ env1 H1 nx1,k env1 H1 nx1 = true → ∃ kf : Env → Heap → Bool,jt P ops res nx1 kf L env1 H1 = true ∧
    ∀ env2 H2,kf env2 H2 = true → zR P ops env2 H2 nx1 A = true ∧ RunP P call ops res dfs rc Kp Kn rest env2 H2 nx1
noncomputable def zL (ops : Array Oper) : List zV → List Nat → List Nat
 | [],past => past
 | (_,L,_) :: rest,past => zL ops rest (match chkF ops L past with | some p => p | none => past)
theorem kb {call : zx} {as : List Nat} {res : Nat} {dfs : Dfs} {rc : Option AMode} {env0 : Env} {Kp : List (AVal × Bool) → Heap → Nat → Prop} {Kn : Env → Heap → Nat → Prop} (tail : List zV)
  (hc : jB P call) (F : OpsFact nt ops as) (hn : nt ≤ 256) (hlim : res + ops.size ≤ 1048576) :
  ∀ (rest : List zV) (prev : Option Nat) (past : List Nat) (env : Env) (H : Heap) (nx : Nat),chkS ops as rest prev past = true → (∀ s,s ∈ rest → ∀ i,i ∈ named tail → bit (as.getD i 0) s.1 = true) →
   (∀ i,i ∈ past → ∃ o,ops[i]? = some o ∧ (cls o.op = 0 ∨ cls o.op = 1)) →
   (∀ t,t < 256 → get2 t env0 = .und ∨ ((∀ (j : Nat) (q : Oper),ops[j]? = some q → q.dst ≠ some t) ∧ get2 t env0 = get2 t env)) → RunP P call ops res dfs rc Kp Kn rest env H nx →
   ∀ σ0 H0 w0 Q,(∀ l H' nx' σ' w' a' c,Kp l H' nx' → Rel σ' H' nx' w' → Ext σ0 σ' H0 H' res nx' w0 w' → ARel σ' nt env0 dfs a' → Chain σ' l c → Q (.panic c) a' w') →
    (∀ env' H' nx',Kn env' H' nx' → (∀ i,i ∈ zL ops rest past → ∃ o,ops[i]? = some o ∧ (cls o.op = 0 ∨ cls o.op = 1)) →
     ∀ fuel listed σ w a,Inv P nt ops as res σ0 H0 w0 dfs (zL ops rest past) tail env' H' nx' listed σ w a → left ops listed ≤ fuel → wpAny P .any ops Q fuel listed a w) →
    ∀ fuel listed σ w a,Inv P nt ops as res σ0 H0 w0 dfs past (rest ++ tail) env H nx listed σ w a → left ops listed ≤ fuel → wpAny P .any ops Q fuel listed a w
 | [],prev,past,env,H,nx,_,_,hpast,_,h => fun σ0 H0 w0 Q hQ hT => hT env H nx h hpast
 | (e,L,A) :: rest,prev,past,env,H,nx,hchk,htl,hpast,hblank,h => by
  intro σ0 H0 w0 Q hQ hT
  unfold chkS at hchk
  split at hchk <;> try (cases hchk; done)
  rename_i oe hoe hprev
  split at hchk <;> try (cases hchk; done)
  rename_i hfresh hL
  split at hchk <;> try (cases hchk; done)
  rename_i past' hF
  split at hchk <;> try (cases hchk; done)
  rename_i hA
  obtain ⟨k,K,h',hpan,hnext⟩ := h oe hoe
  have hT : ∀ env' H' nx',Kn env' H' nx' → (∀ i,i ∈ zL ops rest past' → ∃ o,ops[i]? = some o ∧ (cls o.op = 0 ∨ cls o.op = 1)) →
     ∀ fuel listed σ w a,Inv P nt ops as res σ0 H0 w0 dfs (zL ops rest past') tail env' H' nx' listed σ w a → left ops listed ≤ fuel → wpAny P .any ops Q fuel listed a w := by
   have e0 : zL ops ((e,L,A) :: rest) past = zL ops rest past' := by
    show zL ops rest (match chkF ops L past with | some p => p | none => past) = _
    rw [hF]
   rw [e0] at hT
   exact hT
  have hde := F.dst e oe hoe
  have helt : e < ops.size := (Array.getElem?_eq_some_iff.1 hoe).1
  have pastiff := ze hF
  have who : ∀ {σ0 H0 w0 listed σ w a},Inv P nt ops as res σ0 H0 w0 dfs past ((e,L,A) :: rest ++ tail) env H nx listed σ w a → ∀ i o,ops[i]? = some o → (∀ j,bit (as.getD i 0) j = true → isL listed j) → i ∈ named ((e,L,A) :: rest ++ tail) → i = e := by
   intro σ0 H0 w0 listed σ w a I i o ho hr hi
   have ebad : ¬ isL listed e := I.todo e (by rw [List.cons_append]; unfold named; exact List.mem_cons_self ..)
   rw [List.cons_append] at hi
   unfold named at hi
   rcases List.mem_cons.1 hi with rfl | hi
   ·rfl
   ·rcases List.mem_append.1 hi with hi | hi
    ·exact (ebad (hr e (qH hL i hi))).elim
    ·rw [zm] at hi
     rcases List.mem_append.1 hi with hi | hi
     ·obtain ⟨j,hj,hb⟩ := vp hchk i hi
      rcases hj with rfl | hj
      ·exact (ebad (hr j hb)).elim
      ·exact (I.todo j (by rw [List.cons_append]; unfold named; rw [zm]; exact List.mem_cons_of_mem _ (List.mem_append_right _ (List.mem_append_left _ hj))) (hr j hb)).elim
     ·exact (ebad (hr e (htl (e,L,A) (List.mem_cons_self ..) i hi))).elim
  have loop : ∀ {Q : Exit → Act → World → Prop},(∀ fuel listed σ w a,Inv P nt ops as res σ0 H0 w0 dfs past ((e,L,A) :: rest ++ tail) env H nx listed σ w a → left ops listed ≤ fuel + 1 → (∀ j,bit (as.getD e 0) j = true → isL listed j) →
    wpOp P ops Q e (wpAny P .any ops Q fuel (listed.setIfInBounds e true)) a w) →
    ∀ fuel listed σ w a,Inv P nt ops as res σ0 H0 w0 dfs past ((e,L,A) :: rest ++ tail) env H nx listed σ w a → left ops listed ≤ fuel → wpAny P .any ops Q fuel listed a w := by
   intro Q hact fuel
   have eun : ∀ {listed σ w a},Inv P nt ops as res σ0 H0 w0 dfs past ((e,L,A) :: rest ++ tail) env H nx listed σ w a → ¬ isL listed e := fun I => I.todo e (by rw [List.cons_append]; unfold named; exact List.mem_cons_self ..)
   induction fuel with
   | zero =>
    intro listed σ w a I hl
    exact (eun I (vn (by omega : left ops listed = 0) e helt)).elim
   | succ fuel ih =>
    intro listed σ w a I hl
    refine ⟨fun hnil => (eun I (vo F I.size hnil e helt)).elim,fun i hi => ?_⟩
    obtain ⟨o,ho,hnl,hed⟩ := (jx I.size).1 hi
    have hlt : i < ops.size := (Array.getElem?_eq_some_iff.1 ho).1
    have hr : ∀ j,bit (as.getD i 0) j = true → isL listed j := fun j hj => by
     obtain ⟨g,hg,hb,hc'⟩ := F.ahead i o ho j hj
     rcases hc' with rfl | hc'
     ·exact hed g hg hb
     ·exact I.closed _ j (hed g hg hb) hc'
    by_cases hin : i ∈ named ((e,L,A) :: rest ++ tail)
    ·have := who I i o ho hr hin
     subst this
     exact hact fuel listed σ w a I hl hr
    ·have hp : i ∈ past := by
      rcases I.all i hlt with h | h | h
      ·exact h
      ·exact (hin h).elim
      ·exact (hnl h).elim
     obtain ⟨o',ho',hcl⟩ := hpast i hp
     rw [ho] at ho'
     cases ho'
     refine I.float F hn ho hp hnl hcl hr hin fun σ1 w1 a1 I1 => ih _ σ1 w1 a1 I1 ?_
     have := va I.size hlt hnl
     omega
  refine loop fun fuel listed σ w a I hl hr => ?_
  have eun : ¬ isL listed e := I.todo e (by rw [List.cons_append]; unfold named; exact List.mem_cons_self ..)
  have he : e ∉ named (rest ++ tail) := by
   intro hj
   rw [zm] at hj
   rcases List.mem_append.1 hj with hj | hj
   ·obtain ⟨g,hg,hb⟩ := vp hchk e hj
    rcases hg with rfl | hg
    ·exact eun (hr g hb)
    ·exact I.todo g (by rw [List.cons_append]; unfold named; rw [zm]; exact List.mem_cons_of_mem _ (List.mem_append_right _ (List.mem_append_left _ hg))) (hr g hb)
   ·have := F.lt e oe hoe e (htl (e,L,A) (List.mem_cons_self ..) e hj)
    omega
  refine Inv.act hc F hn hlim I hoe he hr hfresh hL hF hA h' hnext (fun env2 H2 nx2 σ1 w1 a1 hk3 I1 hfix => ?_) (fun l H1 nx1 σ1 w1 c hk R E hden hdf hsz C => ?_)
  ·have hnl := va I.size helt eun
   have hpast' : ∀ i,i ∈ past' → ∃ o,ops[i]? = some o ∧ (cls o.op = 0 ∨ cls o.op = 1) := by
    intro i hi
    rcases (pastiff i).1 hi with hi | hi
    ·exact hpast i hi
    ·obtain ⟨o,ho,hne⟩ := jW hF i hi
     refine ⟨o,ho,?_⟩
     have : cls o.op = 0 ∨ cls o.op = 1 ∨ cls o.op = 2 := by
      unfold cls
      split <;> first | exact .inl rfl | exact .inr (.inl rfl) | exact .inr (.inr rfl) | skip
      split <;> first | exact .inl rfl | exact .inr (.inr rfl)
     rcases this with h | h | h
     ·exact .inl h
     ·exact .inr h
     ·exact (hne h).elim
   have hblank' : ∀ t,t < 256 → get2 t env0 = .und ∨ ((∀ (j : Nat) (q : Oper),ops[j]? = some q → q.dst ≠ some t) ∧ get2 t env0 = get2 t env2) := by
    intro t ht
    rcases hblank t ht with h | ⟨h1,h2⟩
    ·exact .inl h
    ·exact .inr ⟨h1,by rw [hfix t ht h1,h2]⟩
   exact kb tail hc F hn hlim rest (some e) past' env2 H2 nx2 hchk (fun s hs => htl s (List.mem_cons_of_mem _ hs)) hpast' hblank' hk3 σ0 H0 w0 Q hQ hT fuel _ σ1 w1 a1 I1 (by omega)
  ·refine hQ l H1 nx1 σ1 w1 a c (hpan l H1 nx1 hk) R E ⟨⟨hsz,hn,fun t ht => ?_⟩,hdf⟩ C
   rcases hblank t ht with h | ⟨h1,h2⟩
   ·rw [h]; exact .und _
   ·rw [h2]; exact hden t ht h1
theorem QK {as : List Nat} {res : Nat} {σ0 : Sg} {H0 : Heap} {w0 : World} {dfs : Dfs} {past : List Nat} (F : OpsFact nt ops as) (hn : nt ≤ 256) {Q : Exit → Act → World → Prop}
  (hpast : ∀ i,i ∈ past → ∃ o,ops[i]? = some o ∧ (cls o.op = 0 ∨ cls o.op = 1))
  (hQ : ∀ σ' w' a',Rel σ' H nx w' → Ext σ0 σ' H0 H res nx w0 w' → ARel σ' nt env dfs a' → Q .normal a' w') :
  ∀ fuel listed σ w a,Inv P nt ops as res σ0 H0 w0 dfs past [] env H nx listed σ w a → left ops listed ≤ fuel → wpAny P .any ops Q fuel listed a w := by
 have done : ∀ listed σ w a,Inv P nt ops as res σ0 H0 w0 dfs past [] env H nx listed σ w a → (∀ i,i < ops.size → isL listed i) → Q .normal a w := fun listed σ w a I hall =>
  hQ σ w a I.rel I.ext ⟨⟨I.tsize,hn,fun t ht => I.den t ht fun j q hj _ => hall j (Array.getElem?_eq_some_iff.1 hj).1⟩,I.dfs⟩
 intro fuel
 induction fuel with
 | zero =>
  intro listed σ w a I hl
  have hall := vn (by omega : left ops listed = 0)
  refine ⟨?_,done listed σ w a I hall⟩
  refine List.eq_nil_iff_forall_not_mem.2 fun i hi => ?_
  obtain ⟨o,ho,hnl,_⟩ := (jx I.size).1 hi
  exact hnl (hall i (Array.getElem?_eq_some_iff.1 ho).1)
 | succ fuel ih =>
  intro listed σ w a I hl
  refine ⟨fun hnil => done listed σ w a I (vo F I.size hnil),fun i hi => ?_⟩
  obtain ⟨o,ho,hnl,hed⟩ := (jx I.size).1 hi
  have hlt : i < ops.size := (Array.getElem?_eq_some_iff.1 ho).1
  have hr : ∀ j,bit (as.getD i 0) j = true → isL listed j := fun j hj => by
   obtain ⟨e,he,hb,hc'⟩ := F.ahead i o ho j hj
   rcases hc' with rfl | hc'
   ·exact hed e he hb
   ·exact I.closed _ j (hed e he hb) hc'
  have hp : i ∈ past := by
   rcases I.all i hlt with h | h | h
   ·exact h
   ·cases h
   ·exact (hnl h).elim
  obtain ⟨o',ho',hcl⟩ := hpast i hp
  rw [ho] at ho'
  cases ho'
  refine I.float F hn ho hp hnl hcl hr (by intro h; cases h) fun σ1 w1 a1 I1 => ih _ σ1 w1 a1 I1 ?_
  have := va I.size hlt hnl
  omega
theorem yf {res : Nat} {env0 : Env} {K : FX} {call : zx} {dfs : Dfs} {rc : Option AMode} : ∀ (rest : List zV) (env : Env) (H : Heap) (nx : Nat),(vi P ops rest).fn res env0 env ⟨call,H,nx,dfs,rc⟩ K = true →
  RunP P call ops res dfs rc (fun l H nx => K (.pan l) env0 ⟨call,H,nx,dfs,rc⟩ = true) (fun env H nx => K .normal env ⟨call,H,nx,dfs,rc⟩ = true) rest env H nx
 | [],env,H,nx,h => h
 | (e,L,A) :: rest,env,H,nx,h => by
  intro oe hoe
  unfold vi at h
  simp only [hoe] at h
  cases ea : cAct P ops oe with | mk f => cases eg : vf P ops L with | mk g => cases eA : vT P ops A with | mk ag => cases er : vi P ops rest with | mk r =>
  simp only [ea,eg,eA,er] at h
  refine ⟨_,_,qdo (k := fun env st => g res env st fun env st => Bool.rec false (r res env0 env st K) (ag env st)) (K := fun e _ st => K e env0 st) (st := ⟨call,H,nx,dfs,rc⟩) (by rw [ea]; exact h),fun l H1 nx1 hk => hk,fun env1 H1 nx1 hk => ?_⟩
  refine ⟨_,wW (l := L) (st := ⟨call,H1,nx1,dfs,rc⟩) (k := fun env st => Bool.rec false (r res env0 env st K) (ag env st)) (by rw [eg]; exact hk),fun env2 H2 hk2 => ?_⟩
  obtain ⟨hag0,hk3⟩ := zM hk2
  exact ⟨wJ (st := St.with2 ⟨call,H1,nx1,dfs,rc⟩ H2 nx1) (by rw [eA]; exact hag0),yf rest env2 H2 nx1 (by rw [er]; exact hk3)⟩
theorem Vt {call : zx} {as : List Nat} {res : Nat} {dfs : Dfs} {rc : Option AMode} {K : FX} {env0 : Env}
  (hc : jB P call) (F : OpsFact nt ops as) (hn : nt ≤ 256) (hlim : res + ops.size ≤ 1048576)
  (rest : List zV) (past : List Nat) (env : Env) (H : Heap) (nx : Nat) (hchk : chkS ops as rest none past = true) (hpast : ∀ i,i ∈ past → ∃ o,ops[i]? = some o ∧ (cls o.op = 0 ∨ cls o.op = 1))
  (hblank : ∀ t,t < 256 → get2 t env0 = .und ∨ ((∀ (j : Nat) (q : Oper),ops[j]? = some q → q.dst ≠ some t) ∧ get2 t env0 = get2 t env)) (h : (vi P ops rest).fn res env0 env ⟨call,H,nx,dfs,rc⟩ K = true)
  (σ0 : Sg) (H0 : Heap) (w0 : World) (Q : Exit → Act → World → Prop)
  (hQ : ∀ ex env' st' σ' w' a' e,K ex env' st' = true → st'.call = call → st'.dfs = dfs → st'.rc = rc → Rel σ' st'.H st'.nx w' → Ext σ0 σ' H0 st'.H res st'.nx w0 w' → ARel σ' nt env' dfs a' → Qw σ' ex e → Q e a' w') :
  ∀ fuel listed σ w a,Inv P nt ops as res σ0 H0 w0 dfs past rest env H nx listed σ w a → left ops listed ≤ fuel → wpAny P .any ops Q fuel listed a w := by
 have := kb [] hc F hn hlim rest none past env H nx hchk (fun s _ i hi => by cases hi) hpast hblank (yf rest env H nx h) σ0 H0 w0 Q
  (fun l H' nx' σ' w' a' c hk R E A C => hQ (.pan l) env0 ⟨call,H',nx',dfs,rc⟩ σ' w' a' (.panic c) hk rfl rfl rfl R E A C)
  (fun env' H' nx' hk hp => QK F hn hp fun σ' w' a' R E A => hQ .normal env' ⟨call,H',nx',dfs,rc⟩ σ' w' a' .normal hk rfl rfl rfl R E A trivial)
 rwa [List.append_nil] at this
end Go.Ev
end
section
namespace Go.Ev
variable [GTab]
noncomputable section
def Y3 : List Nat → Option (List Nat × Nat × Nat)
 | [] => none
 | x :: l => match l with
  | [y] => some ([],x,y)
  | l => match Y3 l with
   | some (i,a,b) => some (x :: i,a,b)
   | none => none
def pl0 (ops : Array Oper) (ini : List Nat) : List Nat := vV ops.toList (ahead ops) ini 0 0
def plA (ops : Array Oper) (ini : List Nat) : List Nat := wD ops.toList (ahead ops) ini 0 0 0
def plS (ops : Array Oper) (ini : List Nat) : List (Nat × List Nat × List Nat) := Q3 ops.toList (ahead ops) ini ini 1
def plB (ops : Array Oper) (ini : List Nat) (e : Nat) : List Nat := wD ops.toList (ahead ops) ini 1000000 ((ahead ops).getD e 0) 0
def kT (o : Oper) : Option (TypeId × Operand × Operand) :=
 match o.op,o.guard,o.dst with
 | .store t a x,none,none => some (t,a,x)
 | _,_,_ => none
def qba (nt : Nat) (ops : Array Oper) (ini : List Nat) (e1 e2 : Nat) : Bool :=
 match Nat.ble nt 256,yd nt ops ops.toList (ahead ops) ops.toList 0,chkF ops (pl0 ops ini) [],Nat.beq e1 e2 with
 | true,true,some past,false => match chkA ops 0 (plA ops ini) past,chkS ops (ahead ops) (plS ops ini) none past,allL (fun i => memN i (pl0 ops ini ++ named (plS ops ini) ++ [e1,e2])) (List.range ops.size) with
  | true,true,true => match allL (fun s : zV => bit ((ahead ops).getD e1 0) s.1) (plS ops ini),allL (fun s : zV => bit ((ahead ops).getD e2 0) s.1) (plS ops ini),chkS ops (ahead ops) [(e1,[],plB ops ini e1)] none (zL ops (plS ops ini) past),chkS ops (ahead ops) [(e2,[],plB ops ini e2)] none (zL ops (plS ops ini) past) with
   | true,true,true,true => true
   | _,_,_,_ => false
  | _,_,_ => false
 | _,_,_,_ => false
def oH (o : Option Heap) : (Heap → Bool) → Bool := Option.rec (motive := fun _ => (Heap → Bool) → Bool) (fun _ => false) (fun H k => k H) o
theorem Xi {o : Option Heap} {k : Heap → Bool} (h : oH o k = true) : ∃ H,o = some H ∧ k H = true := by
 cases o with
 | none => exact Bool.noConfusion h
 | some H => exact ⟨H,rfl,h⟩
def Zu (o : Option AObj) : List Nat := match o with
 | some o => o.olds
 | none => []
def Wc (H : Heap) (a1 a2 : AVal) : Bool :=
 match a1,a2 with
 | .ptr b1 _,.ptr b2 _ => match Nat.beq b1 b2,memN b2 (Zu (get5 b1 H)),memN b1 (Zu (get5 b2 H)) with
  | false,false,false => match allL (fun b => Nat.ble (Nat.succ b) 1048576) (b1 :: b2 :: (Zu (get5 b1 H) ++ Zu (get5 b2 H))) with
   | true => true
   | false => false
  | _,_,_ => false
 | _,_ => false
def WO (P : Program) (ops : Array Oper) (s1 s2 : TypeId × Operand × Operand) (A1 A2 : List Nat) (env : Env) (st : St) (K : FX) : Bool :=
 match Wc st.H (aev env s1.2.1) (aev env s2.2.1) with
 | true => oH (zt P s1.1 st.H (aev env s1.2.1) (aev env s1.2.2)) fun H1 => oH (zt P s2.1 H1 (aev env s2.2.1) (aev env s2.2.2)) fun H12 => oH (zt P s2.1 st.H (aev env s2.2.1) (aev env s2.2.2)) fun H2 => oH (zt P s1.1 H2 (aev env s1.2.1) (aev env s1.2.2)) fun H21 =>
   Bool.rec false (Bool.rec false (Bool.rec false (Bool.rec false (K .normal env (st.with2 H12 st.nx)) (zR P ops env H21 st.nx A1)) (zR P ops env H2 st.nx A2)) (zR P ops env H12 st.nx A2)) (zR P ops env H1 st.nx A1)
 | false => false
def Yj (P : Program) (nt : Nat) (ops : Array Oper) : Co :=
 match Y3 (acts ops.toList 0) with
 | some (ini,e1,e2) => match qba nt ops ini e1 e2,(ops[e1]?).bind kT,(ops[e2]?).bind kT with
  | true,some s1,some s2 => match vf P ops (pl0 ops ini),vT P ops (plA ops ini),vi P ops (plS ops ini),QV ops.toList with
   | .mk f,.mk a,.mk r,.mk bl => qn ops.size fun n => .mk fun env st K => Bool.rec false (qn (Nat.add st.nx n) fun nx' => f st.nx env (st.with2 st.H nx') fun env' st' => Bool.rec false (r st.nx (bl env) env' st' fun e env st => match e with
     | .normal => WO P ops s1 s2 (plB ops ini e1) (plB ops ini e2) env st K
     | e => K e env st) (a env' st')) (Nat.ble (Nat.add st.nx n) 1048576)
  | _,_,_ => .mk fun _ _ _ => false
 | none => .mk fun _ _ _ => false
end
theorem Rel.congr {σ : Sg} {H H' : Heap} {nx : Nat} {w : World} (h : Rel σ H nx w) (he : ∀ c,c < 1048576 → get5 c H' = get5 c H) : Rel σ H' nx w := by
 have lt : ∀ {c p},σ c = some p → c < 1048576 := fun {c p} hc => by obtain ⟨cb,sz⟩ := p; have := (h.dom c cb sz hc).1; have := h.lim; omega
 refine ⟨h.lim,h.dom,?_,?_,?_,?_,h.glob⟩
 ·intro b o cb sz e1 e2; rw [he b (lt e2)] at e1; exact h.obj b o cb sz e1 e2
 ·intro b b' o o' cb sz sz' e1 e2 e3 e4; rw [he b (lt e3)] at e1; rw [he b' (lt e4)] at e2; exact h.sep b b' o o' cb sz sz' e1 e2 e3 e4
 ·intro b b' o o' p e1 e2 e3 e4
  rw [he b' (lt e3)] at e2
  obtain ⟨p',hp'⟩ := h.old b' o' p e2 e3 b e4
  rw [he b (lt hp')] at e1
  exact h.sup b b' o o' p e1 e2 e3 e4
 ·intro b o p e1 e2 b' e3; rw [he b (lt e2)] at e1; exact h.old b o p e1 e2 b' e3
theorem Ext.congr {σ σ' : Sg} {H H' H'' : Heap} {nx nx' : Nat} {w w' : World} (h : Ext σ σ' H H' nx nx' w w') (hl : nx ≤ 1048576) (he : ∀ c,c < 1048576 → get5 c H'' = get5 c H') : Ext σ σ' H H'' nx nx' w w' :=
 { h with pend := fun b hb hn => ⟨(h.pend b hb hn).1,by rw [he b (by omega)]; exact (h.pend b hb hn).2⟩ }
theorem Z5 {P : Program} {t : TypeId} {H H' : Heap} {a x : AVal} (h : zt P t H a x = some H') : ∃ b off n ct olds X,a = .ptr b off ∧ get5 b H = some (.cells n ct olds false) ∧ H' = set5 b (some X) (dels olds H) ∧
  ∀ G,get5 b G = get5 b H → zt P t G a x = some (set5 b (some X) (dels olds G)) := by
 unfold zt at h
 split at h <;> try (cases h; done)
 rename_i b off cs i hcs hi
 split at h <;> try (cases h; done)
 rename_i n ct olds ho
 split at h <;> try (cases h; done)
 rename_i h1 h2 h3
 cases h
 refine ⟨b,off,n,ct,olds,_,rfl,ho,rfl,fun G hG => ?_⟩
 unfold zt
 simp only [hcs,hi,hG,ho,h1,h2,h3]
theorem Z9 {i : Nat} : ∀ {l : List Nat},memN i l = false → i ∉ l
 | [],_,h => by cases h
 | j :: l,h,hm => by
  have h' : (Bool.rec (memN i l) true (Nat.beq j i) : Bool) = false := h
  cases hb : Nat.beq j i with
  | true => rw [hb] at h'; exact Bool.noConfusion h'
  | false =>
   rw [hb] at h'
   rcases List.mem_cons.1 hm with rfl | hm
   ·simp at hb
   ·exact Z9 h' hm
theorem JK {P : Program} {t1 t2 : TypeId} {H H1 H2 H12 H21 : Heap} {a1 x1 a2 x2 : AVal} (hap : Wc H a1 a2 = true) (h1 : zt P t1 H a1 x1 = some H1) (h12 : zt P t2 H1 a2 x2 = some H12) (h2 : zt P t2 H a2 x2 = some H2) (h21 : zt P t1 H2 a1 x1 = some H21) :
  ∀ c,c < 1048576 → get5 c H12 = get5 c H21 := by
 obtain ⟨b1,o1,n1,ct1,olds1,X1,rfl,g1,e1,f1⟩ := Z5 h1
 obtain ⟨b2,o2,n2,ct2,olds2,X2,rfl,g2,e2,f2⟩ := Z5 h2
 unfold Wc at hap
 simp only [g1,g2,Zu,AObj.olds] at hap
 split at hap <;> try (cases hap; done)
 rename_i hne hm1 hm2
 split at hap <;> try (cases hap; done)
 rename_i hlt
 have hlt' : ∀ b,b ∈ b1 :: b2 :: (olds1 ++ olds2) → b < 1048576 := fun b hb => Nat.le_of_ble_eq_true (qH hlt b hb)
 have lb1 := hlt' b1 (by simp)
 have lb2 := hlt' b2 (by simp)
 have l1 : ∀ b,b ∈ olds1 → b < 1048576 := fun b hb => hlt' b (by simp [hb])
 have l2 : ∀ b,b ∈ olds2 → b < 1048576 := fun b hb => hlt' b (by simp [hb])
 have n12 : b1 ≠ b2 := fun e => by subst e; simp at hne
 have nm1 : b2 ∉ olds1 := Z9 hm1
 have nm2 : b1 ∉ olds2 := Z9 hm2
 have k2 : get5 b2 H1 = get5 b2 H := by
  rw [e1,qr n12 lb1 lb2,zd olds1 H b2 l1 lb2,if_neg nm1]
 have k1 : get5 b1 H2 = get5 b1 H := by
  rw [e2,qr (Ne.symm n12) lb2 lb1,zd olds2 H b1 l2 lb1,if_neg nm2]
 have q12 := f2 H1 k2
 rw [h12] at q12
 have q21 := f1 H2 k1
 rw [h21] at q21
 cases q12
 cases q21
 intro c hc
 by_cases c1 : b1 = c
 ·subst c1
  rw [qr (Ne.symm n12) lb2 hc,zd olds2 H1 b1 l2 hc,if_neg nm2,e1,qg,qg]
 ·by_cases c2 : b2 = c
  ·subst c2
   rw [qg,qr n12 lb1 hc,zd olds1 H2 b2 l1 hc,if_neg nm1,e2,qg]
  ·rw [qr c2 lb2 hc,zd olds2 H1 c l2 hc,qr c1 lb1 hc,zd olds1 H2 c l1 hc,e1,e2,qr c1 lb1 hc,qr c2 lb2 hc,zd olds1 H c l1 hc,zd olds2 H c l2 hc]
   by_cases m1 : c ∈ olds1 <;> by_cases m2 : c ∈ olds2 <;> simp [m1,m2]
open Classical in
theorem Q2 {P : Program} {call : zx} {ops : Array Oper} {o : Oper} {t : TypeId} {a x : Operand} {env : Env} {H H' : Heap} {nx : Nat} {dfs : Dfs} {rc : Option AMode} (hs : kT o = some (t,a,x)) (h : zt P t H (aev env a) (aev env x) = some H') :
  actK P call ops o env H nx dfs rc (fun env1 H1 nx1 => decide (env1 = env ∧ H1 = H' ∧ nx1 = nx)) (fun _ _ _ _ _ _ => false) env = true := by
 unfold kT at hs
 split at hs <;> try (cases hs; done)
 rename_i hop hg hd
 cases hs
 unfold actK
 have hw : qu ops o.guard env = some true := by rw [hg]; rfl
 have ha : aop P o (aev env) H nx = some (.val .und H' nx) := by
  unfold aop
  rw [hop]
  show jr P t a x (aev env) H nx = _
  simp only [jr,h]
 simp only [hw,ha,hd]
 exact decide_eq_true (by simp [put])
theorem K9 {o : Oper} {s : TypeId × Operand × Operand} (h : kT o = some s) : o.dst = none := by
 unfold kT at h
 split at h <;> first | (cases h; done) | assumption
open Classical in
theorem qcp {P : Program} {call : zx} {ops : Array Oper} {res : Nat} {dfs : Dfs} {rc : Option AMode} {e : Nat} {A : List Nat} {o : Oper} {t : TypeId} {a x : Operand} {env : Env} {H H' : Heap} {nx : Nat} (ho : ops[e]? = some o) (hs : kT o = some (t,a,x))
  (h : zt P t H (aev env a) (aev env x) = some H') (hA : zR P ops env H' nx A = true) : RunP P call ops res dfs rc (fun _ _ _ => False) (fun env2 H2 nx2 => env2 = env ∧ H2 = H' ∧ nx2 = nx) [(e,[],A)] env H nx := by
 intro oe hoe
 rw [ho] at hoe
 cases hoe
 refine ⟨_,_,Q2 hs h,(fun _ _ _ hk => Bool.noConfusion hk),fun env1 H1 nx1 hk => ?_⟩
 obtain ⟨rfl,rfl,rfl⟩ := of_decide_eq_true hk
 refine ⟨fun env2 H2 => decide (env2 = env1 ∧ H2 = H1),decide_eq_true ⟨rfl,rfl⟩,fun env2 H2 hk2 => ?_⟩
 obtain ⟨rfl,rfl⟩ := of_decide_eq_true hk2
 exact ⟨hA,rfl,rfl,rfl⟩
theorem Inv.swap {P : Program} {nt : Nat} {ops : Array Oper} {as : List Nat} {res : Nat} {σ0 : Sg} {H0 : Heap} {w0 : World} {dfs : Dfs} {past : List Nat} {s1 s2 : zV} {env : Env} {H : Heap} {nx : Nat} {listed : Array Bool} {σ : Sg} {w : World} {a : Act}
  (I : Inv P nt ops as res σ0 H0 w0 dfs past [s1,s2] env H nx listed σ w a) : Inv P nt ops as res σ0 H0 w0 dfs past [s2,s1] env H nx listed σ w a := by
 have hiff : ∀ i,i ∈ named [s2,s1] ↔ i ∈ named [s1,s2] := by
  intro i
  obtain ⟨e1,L1,A1⟩ := s1
  obtain ⟨e2,L2,A2⟩ := s2
  simp only [named,List.append_nil,List.mem_cons,List.mem_append]
  constructor
  ·rintro (h | h | h | h)
   ·exact .inr (.inr (.inl h))
   ·exact .inr (.inr (.inr h))
   ·exact .inl h
   ·exact .inr (.inl h)
  ·rintro (h | h | h | h)
   ·exact .inr (.inr (.inl h))
   ·exact .inr (.inr (.inr h))
   ·exact .inl h
   ·exact .inr (.inl h)
 exact { I with todo := fun i hi => I.todo i ((hiff i).1 hi),all := fun i hi => by rcases I.all i hi with h | h | h; exact .inl h; exact .inr (.inl ((hiff i).2 h)); exact .inr (.inr h) }
theorem Vh {ops : Array Oper} {as : List Nat} {e : Nat} {A past : List Nat} (h : chkS ops as [(e,[],A)] none past = true) : ∃ o,ops[e]? = some o ∧ w9 ops past e o = true ∧ chkA ops (as.getD e 0) A past = true := by
 unfold chkS at h
 split at h <;> try (cases h; done)
 rename_i o ho _
 split at h <;> try (cases h; done)
 rename_i hf _
 split at h <;> try (cases h; done)
 rename_i past' hF
 cases hF
 split at h <;> try (cases h; done)
 exact ⟨o,ho,hf,‹_›⟩
theorem Y1 {P : Program} {call : zx} {nt : Nat} {ops : Array Oper} {as : List Nat} {res : Nat} {dfs : Dfs} {e1 e2 : Nat} {A1 A2 past : List Nat} {o1 o2 : Oper} {s1 s2 : TypeId × Operand × Operand} {env : Env} {H H1 H2 H12 H21 : Heap} {nx : Nat}
  (hc : jB P call) (F : OpsFact nt ops as) (hn : nt ≤ 256) (hlim : res + ops.size ≤ 1048576) (hne : e1 ≠ e2) (ho1 : ops[e1]? = some o1) (ho2 : ops[e2]? = some o2) (hs1 : kT o1 = some s1) (hs2 : kT o2 = some s2)
  (c1 : chkS ops as [(e1,[],A1)] none past = true) (c2 : chkS ops as [(e2,[],A2)] none past = true) (hpast : ∀ i,i ∈ past → ∃ o,ops[i]? = some o ∧ (cls o.op = 0 ∨ cls o.op = 1))
  (h1 : zt P s1.1 H (aev env s1.2.1) (aev env s1.2.2) = some H1) (h12 : zt P s2.1 H1 (aev env s2.2.1) (aev env s2.2.2) = some H12) (h2 : zt P s2.1 H (aev env s2.2.1) (aev env s2.2.2) = some H2) (h21 : zt P s1.1 H2 (aev env s1.2.1) (aev env s1.2.2) = some H21)
  (g1 : zR P ops env H1 nx A1 = true) (g12 : zR P ops env H12 nx A2 = true) (g2 : zR P ops env H2 nx A2 = true) (g21 : zR P ops env H21 nx A1 = true) (heq : ∀ c,c < 1048576 → get5 c H12 = get5 c H21)
  {σ0 : Sg} {H0 : Heap} {w0 : World} {Q : Exit → Act → World → Prop} (hQ : ∀ σ' w' a',Rel σ' H12 nx w' → Ext σ0 σ' H0 H12 res nx w0 w' → ARel σ' nt env dfs a' → Q .normal a' w') :
  ∀ fuel listed σ w a,Inv P nt ops as res σ0 H0 w0 dfs past [(e1,[],A1),(e2,[],A2)] env H nx listed σ w a → left ops listed ≤ fuel → wpAny P .any ops Q fuel listed a w := by
 have lt1 : e1 < ops.size := (Array.getElem?_eq_some_iff.1 ho1).1
 have lt2 : e2 < ops.size := (Array.getElem?_eq_some_iff.1 ho2).1
 obtain ⟨t1,a1,x1⟩ := s1
 obtain ⟨t2,a2,x2⟩ := s2
 have hQ2 : ∀ σ' w' a',Rel σ' H21 nx w' → Ext σ0 σ' H0 H21 res nx w0 w' → ARel σ' nt env dfs a' → Q .normal a' w' := fun σ' w' a' R E A => hQ σ' w' a' (R.congr heq) (E.congr (by omega) heq) A
 have last : ∀ {e : Nat} {A : List Nat} {o : Oper} {t : TypeId} {a x : Operand} {G G' : Heap},ops[e]? = some o → kT o = some (t,a,x) → zt P t G (aev env a) (aev env x) = some G' → zR P ops env G' nx A = true → chkS ops as [(e,[],A)] none past = true →
   (∀ σ' w' a',Rel σ' G' nx w' → Ext σ0 σ' H0 G' res nx w0 w' → ARel σ' nt env dfs a' → Q .normal a' w') → ∀ fuel listed σ w a,Inv P nt ops as res σ0 H0 w0 dfs past [(e,[],A)] env G nx listed σ w a → left ops listed ≤ fuel → wpAny P .any ops Q fuel listed a w := by
  intro e A o t a x G G' ho hs hst hag hchk hq
  have hd := K9 hs
  have := kb (rc := none) (env0 := jE ops.toList env) [] hc F hn hlim [(e,[],A)] none past env G nx hchk (fun s _ i hi => by cases hi) hpast
   (fun t ht => by
    have hdd : ∀ o,o ∈ ops.toList → z0 nt o.dst = true := fun o ho => by
     obtain ⟨i,hi⟩ := List.mem_iff_getElem?.1 ho
     exact F.dst i o (by simpa using hi)
    rcases kH hn ops.toList env t ht hdd with h | ⟨h1,h2⟩
    ·exact .inl h
    ·exact .inr ⟨fun j q hq => h1 q (by simpa using Array.mem_of_getElem? hq),h2⟩)
   (qcp ho hs hst hag) σ0 H0 w0 Q (fun _ _ _ _ _ _ _ hk => hk.elim) (fun env' H' nx' hk hp => by
    obtain ⟨rfl,rfl,rfl⟩ := hk
    exact QK F hn hp hq)
  rwa [List.append_nil] at this
 intro fuel
 induction fuel with
 | zero =>
  intro listed σ w a I hl
  exact (I.todo e1 (by simp [named]) (vn (by omega : left ops listed = 0) e1 lt1)).elim
 | succ fuel ih =>
  intro listed σ w a I hl
  refine ⟨fun hnil => (I.todo e1 (by simp [named]) (vo F I.size hnil e1 lt1)).elim,fun i hi => ?_⟩
  obtain ⟨o,ho,hnl,hed⟩ := (jx I.size).1 hi
  have hlt : i < ops.size := (Array.getElem?_eq_some_iff.1 ho).1
  have hr : ∀ j,bit (as.getD i 0) j = true → isL listed j := fun j hj => by
   obtain ⟨g,hg,hb,hc'⟩ := F.ahead i o ho j hj
   rcases hc' with rfl | hc'
   ·exact hed g hg hb
   ·exact I.closed _ j (hed g hg hb) hc'
  have hleft := va I.size hlt hnl
  by_cases i1 : i = e1
  ·subst i1
   obtain ⟨o',ho',hf,hA⟩ := Vh c1
   rw [ho1] at ho'
   cases ho'
   refine Inv.act (rc := none) (L := []) (past' := past) hc F hn hlim I ho1 (by simp [named]; exact hne) hr hf rfl rfl hA (Q2 hs1 h1) (RN := fun env2 H2' nx2 => env2 = env ∧ H2' = H1 ∧ nx2 = nx) (fun env1 H1' nx1 hk => ?_) (fun env2 H2' nx2 σ1 w1 b1 hk I1 _ => ?_) (fun l H1 nx1 σ1 w1 c hk => Bool.noConfusion hk)
   ·obtain ⟨r,⟨k,hk2,hk3⟩⟩ : ∃ r : Unit,∃ kf : Env → Heap → Bool,jt P ops res nx1 kf [] env1 H1' = true ∧ ∀ env2 H2,kf env2 H2 = true → env2 = env1 ∧ H2 = H1' := by
     classical
     exact ⟨(),fun env2 H2 => decide (env2 = env1 ∧ H2 = H1'),decide_eq_true ⟨rfl,rfl⟩,fun env2 H2 h => of_decide_eq_true h⟩
    simp only [decide_eq_true_eq] at hk
    obtain ⟨rfl,rfl,rfl⟩ := hk
    refine ⟨k,hk2,fun env2 H2 hk4 => ?_⟩
    obtain ⟨rfl,rfl⟩ := hk3 env2 H2 hk4
    exact ⟨g1,rfl,rfl,rfl⟩
   ·obtain ⟨rfl,rfl,rfl⟩ := hk
    exact last ho2 hs2 h12 g12 c2 hQ fuel _ σ1 w1 b1 I1 (by omega)
  ·by_cases i2 : i = e2
   ·subst i2
    obtain ⟨o',ho',hf,hA⟩ := Vh c2
    rw [ho2] at ho'
    cases ho'
    refine Inv.act (rc := none) (L := []) (past' := past) hc F hn hlim I.swap ho2 (by simp [named]; exact Ne.symm hne) hr hf rfl rfl hA (Q2 hs2 h2) (RN := fun env2 H2' nx2 => env2 = env ∧ H2' = H2 ∧ nx2 = nx) (fun env1 H1' nx1 hk => ?_) (fun env2 H2' nx2 σ1 w1 b1 hk I1 _ => ?_) (fun l H1 nx1 σ1 w1 c hk => Bool.noConfusion hk)
    ·obtain ⟨r,⟨k,hk2,hk3⟩⟩ : ∃ r : Unit,∃ kf : Env → Heap → Bool,jt P ops res nx1 kf [] env1 H1' = true ∧ ∀ env2 H2,kf env2 H2 = true → env2 = env1 ∧ H2 = H1' := by
      classical
      exact ⟨(),fun env2 H2 => decide (env2 = env1 ∧ H2 = H1'),decide_eq_true ⟨rfl,rfl⟩,fun env2 H2 h => of_decide_eq_true h⟩
     simp only [decide_eq_true_eq] at hk
     obtain ⟨rfl,rfl,rfl⟩ := hk
     refine ⟨k,hk2,fun env2 H2 hk4 => ?_⟩
     obtain ⟨rfl,rfl⟩ := hk3 env2 H2 hk4
     exact ⟨g2,rfl,rfl,rfl⟩
    ·obtain ⟨rfl,rfl,rfl⟩ := hk
     exact last ho1 hs1 h21 g21 c1 hQ2 fuel _ σ1 w1 b1 I1 (by omega)
   ·have hin : i ∉ named [(e1,[],A1),(e2,[],A2)] := by
     intro h
     simp only [named,List.nil_append,List.mem_cons,List.not_mem_nil,or_false] at h
     rcases h with h | h
     ·exact i1 h
     ·exact i2 h
    have hp : i ∈ past := by
     rcases I.all i hlt with h | h | h
     ·exact h
     ·exact (hin h).elim
     ·exact (hnl h).elim
    obtain ⟨o',ho',hcl⟩ := hpast i hp
    rw [ho] at ho'
    cases ho'
    exact I.float F hn ho hp hnl hcl hr hin fun σ1 w1 a1 I1 => ih _ σ1 w1 a1 I1 (by omega)
end Go.Ev
end
section
namespace Go.Ev
variable [GTab] {P : Program} {H : Heap} {nx : Nat} {w : World} {ops : Array Oper} {nt : Nat} {env : Env}
theorem X6 {st : St} {K : FX} (hm : P.follows .mixedOrders = true) (hc : jB P st.call) (h : (V7 P nt ops).fn env st K = true) (id : Nat)
  (σ : Sg) (w : World) (a : Act) (Q : Exit → Act → World → Prop) (hr : Rel σ st.H st.nx w) (ha : ARel σ nt env st.dfs a)
  (hQ : ∀ ex env' st' σ' w' a' e,K ex env' st' = true → st'.call = st.call → st'.dfs = st.dfs → st'.rc = st.rc → Rel σ' st'.H st'.nx w' → Ext σ σ' st.H st'.H st.nx st'.nx w w' → ARel σ' nt env' st.dfs a' → Qw σ' ex e → Q e a' w') :
  (Code.region id ops true).wp P Q a w := by
 unfold V7 at h
 split at h <;> first | (exact Bool.noConfusion h) | skip
 rename_i f ag r bl hplan hf hag0 hr0 hbl0
 rw [qb] at h
 have h' : (Bool.rec false (qn (Nat.add st.nx ops.size) fun nx' => f st.nx env (st.with2 st.H nx') fun env' st' => Bool.rec false (r st.nx (bl env) env' st' K) (ag env' st')) (Nat.ble (Nat.add st.nx ops.size) 1048576) : Bool) = true := h
 obtain ⟨hle,h2⟩ := zM h'
 rw [qb] at h2
 have hlim : st.nx + ops.size ≤ 1048576 := Nat.le_of_ble_eq_true hle
 unfold Zq at hplan
 split at hplan <;> try (cases hplan; done)
 rename_i past hnt hops hF
 split at hplan <;> try (cases hplan; done)
 rename_i hA hS hcov
 have hn : nt ≤ 256 := Nat.le_of_ble_eq_true hnt
 have F := wH hops
 have h3 := wW (P := P) (ops := ops) (res := st.nx) (l := yP ops) (env := env) (st := st.with2 st.H (Nat.add st.nx ops.size)) (k := fun env' st' => Bool.rec false (r st.nx (bl env) env' st' K) (ag env' st')) (by rw [hf]; exact h2)
 rw [QG,yp] at h3
 obtain ⟨env1,H1,hk,b1,b2,b3,b4,b5⟩ := jO F hn hlim (yP ops) [] past env st.H hF h3
 obtain ⟨hag1,hk⟩ := zM hk
 rw [yz] at hag1 hk
 have hag : zR P ops env1 H1 (Nat.add st.nx ops.size) (yX ops) = true := by
  have := wJ (P := P) (ops := ops) (l := yX ops) (env := env1) (st := st.with2 H1 (Nat.add st.nx ops.size)) (by rw [hag0]; exact hag1)
  rwa [QG,yp] at this
 have hpast : ∀ i,i ∈ past → ∃ o,ops[i]? = some o ∧ (cls o.op = 0 ∨ cls o.op = 1) := by
  intro i hi
  rcases (ze hF i).1 hi with hi | hi
  ·cases hi
  ·obtain ⟨o,ho,hne⟩ := jW hF i hi
   refine ⟨o,ho,?_⟩
   have : cls o.op = 0 ∨ cls o.op = 1 ∨ cls o.op = 2 := by
    unfold cls
    split <;> first | exact .inl rfl | exact .inr (.inl rfl) | exact .inr (.inr rfl) | skip
    split <;> first | exact .inl rfl | exact .inr (.inr rfl)
   rcases this with h | h | h
   ·exact .inl h
   ·exact .inr h
   ·exact (hne h).elim
 have hbl : bl env = jE ops.toList env := by
  have := QT ops.toList env
  rw [hbl0] at this
  exact this
 have hblank : ∀ t,t < 256 → get2 t (jE ops.toList env) = .und ∨ ((∀ (j : Nat) (q : Oper),ops[j]? = some q → q.dst ≠ some t) ∧ get2 t (jE ops.toList env) = get2 t env1) := by
  intro t ht
  have hd : ∀ o,o ∈ ops.toList → z0 nt o.dst = true := fun o ho => by
   obtain ⟨i,hi⟩ := List.mem_iff_getElem?.1 ho
   exact F.dst i o (by simpa using hi)
  rcases kH hn ops.toList env t ht hd with h | ⟨h1,h2⟩
  ·exact .inl h
  ·have h3 : ∀ (j : Nat) (q : Oper),ops[j]? = some q → q.dst ≠ some t := fun j q hq => h1 q (by simpa using Array.mem_of_getElem? hq)
   exact .inr ⟨h3,by rw [h2,b1 t ht fun j q _ hq => h3 j q hq]⟩
 have hk' : (vi P ops (yw ops)).fn st.nx (jE ops.toList env) env1 (⟨st.call,H1,Nat.add st.nx ops.size,st.dfs,st.rc⟩ : St) K = true := by
  rw [hr0,← hbl]
  rw [St.with2_eq] at hk
  exact hk
 refine wp_region_any hm ?_
 have none' : ∀ b,st.nx ≤ b → σ b = none := fun b hb => by
  cases e : σ b with
  | none => rfl
  | some p => obtain ⟨cb,sz⟩ := p; have := (hr.dom b cb sz e).1; omega
 refine Vt hc F hn hlim (yw ops) past env1 H1 (Nat.add st.nx ops.size) hS hpast hblank hk' σ st.H w Q hQ ops.size _ σ _ a ⟨by simp,ha.env.size,?_,?_,?_,?_,?_,?_,?_,Nat.le_refl _,?_,?_,ha.dfs⟩ ?_
 ·exact fun i j h => (j6 h).elim
 ·exact fun i _ h => j6 h
 ·intro i hi
  have := ks (qH hcov i (List.mem_range.2 hi))
  rcases List.mem_append.1 this with h | h
  ·exact .inl ((ze hF i).2 (.inr h))
  ·exact .inr (.inl h)
 ·intro t ht hown
  rw [b1 t ht fun j q _ hq hd => j6 (hown j q hq hd)]
  exact ha.env.den t ht
 ·intro j q hj hq _ hcl
  cases hip : z4 q.op with
  | true =>
   have h1 := qH hA j hj
   rw [hq] at h1
   simp only [hip] at h1
   have hmem : j ∈ yX ops := by
    split at h1
    ·exact ks ‹_›
    ·rw [j9] at h1; simp at h1
   have h3 := qH hag j hmem
   rw [hq] at h3
   exact kO hcl h3
  | false =>
   rcases (ze hF j).1 hj with hj | hj
   ·cases hj
   ·exact b5 j q hj hq hcl hip
 ·intro j q hj hq _ hcl
  rcases (ze hF j).1 hj with hj | hj
  ·cases hj
  ·exact b4 j q hj hq hcl
 ·exact fun i _ _ => none' _ (by omega)
 ·exact (b3 σ w (hr.more (Nat.le_add_right _ _) hlim) fun j _ => none' _ (by omega)).drew
 ·have E := Ext.drew σ st.H st.nx w
  refine ⟨E.sub,E.rng,?_,Nat.le_add_right _ _,rfl,rfl,rfl,Nat.le_refl _,fun _ _ _ => rfl⟩
  intro b hb h0
  exact ⟨h0,b2 b (by omega) fun j _ => by omega⟩
 ·unfold left
  have := List.countP_le_length (p := fun i => !(Array.replicate ops.size false).getD i false) (l := List.range ops.size)
  simpa using this
theorem qbs {st : St} {K : FX} (hm : P.follows .mixedOrders = true) (hc : jB P st.call) (h : (Yj P nt ops).fn env st K = true) (id : Nat)
  (σ : Sg) (w : World) (a : Act) (Q : Exit → Act → World → Prop) (hr : Rel σ st.H st.nx w) (ha : ARel σ nt env st.dfs a)
  (hQ : ∀ ex env' st' σ' w' a' e,K ex env' st' = true → st'.call = st.call → st'.dfs = st.dfs → st'.rc = st.rc → Rel σ' st'.H st'.nx w' → Ext σ σ' st.H st'.H st.nx st'.nx w w' → ARel σ' nt env' st.dfs a' → Qw σ' ex e → Q e a' w') :
  (Code.region id ops true).wp P Q a w := by
 unfold Yj at h
 split at h <;> first | (exact Bool.noConfusion h) | skip
 rename_i ini e1 e2 hsplit
 split at h <;> first | (exact Bool.noConfusion h) | skip
 rename_i s1 s2 hplan hs1 hs2
 split at h
 rename_i f ag r bl hf hag0 hr0 hbl0
 rw [qb] at h
 let K' : FX := fun e env st => match e with
  | .normal => WO P ops s1 s2 (plB ops ini e1) (plB ops ini e2) env st K
  | e => K e env st
 have h' : (Bool.rec false (qn (Nat.add st.nx ops.size) fun nx' => f st.nx env (st.with2 st.H nx') fun env' st' => Bool.rec false (r st.nx (bl env) env' st' K') (ag env' st')) (Nat.ble (Nat.add st.nx ops.size) 1048576) : Bool) = true := h
 obtain ⟨hle,h2⟩ := zM h'
 rw [qb] at h2
 have hlim : st.nx + ops.size ≤ 1048576 := Nat.le_of_ble_eq_true hle
 unfold qba at hplan
 split at hplan <;> try (cases hplan; done)
 rename_i past hnt hops hF hne
 split at hplan <;> try (cases hplan; done)
 rename_i hA hS hcov
 split at hplan <;> try (cases hplan; done)
 rename_i ht1 ht2 hc1 hc2
 have hn : nt ≤ 256 := Nat.le_of_ble_eq_true hnt
 have F := wH hops
 have h3 := wW (P := P) (ops := ops) (res := st.nx) (l := pl0 ops ini) (env := env) (st := st.with2 st.H (Nat.add st.nx ops.size)) (k := fun env' st' => Bool.rec false (r st.nx (bl env) env' st' K') (ag env' st')) (by rw [hf]; exact h2)
 rw [QG,yp] at h3
 obtain ⟨env1,H1,hk,b1,b2,b3,b4,b5⟩ := jO F hn hlim (pl0 ops ini) [] past env st.H hF h3
 obtain ⟨hag1,hk⟩ := zM hk
 rw [yz] at hag1 hk
 have hag : zR P ops env1 H1 (Nat.add st.nx ops.size) (plA ops ini) = true := by
  have := wJ (P := P) (ops := ops) (l := plA ops ini) (env := env1) (st := st.with2 H1 (Nat.add st.nx ops.size)) (by rw [hag0]; exact hag1)
  rwa [QG,yp] at this
 have hpast : ∀ i,i ∈ past → ∃ o,ops[i]? = some o ∧ (cls o.op = 0 ∨ cls o.op = 1) := by
  intro i hi
  rcases (ze hF i).1 hi with hi | hi
  ·cases hi
  ·obtain ⟨o,ho,hne⟩ := jW hF i hi
   refine ⟨o,ho,?_⟩
   have : cls o.op = 0 ∨ cls o.op = 1 ∨ cls o.op = 2 := by
    unfold cls
    split <;> first | exact .inl rfl | exact .inr (.inl rfl) | exact .inr (.inr rfl) | skip
    split <;> first | exact .inl rfl | exact .inr (.inr rfl)
   rcases this with h | h | h
   ·exact .inl h
   ·exact .inr h
   ·exact (hne h).elim
 have hbl : bl env = jE ops.toList env := by
  have := QT ops.toList env
  rw [hbl0] at this
  exact this
 have hblank : ∀ t,t < 256 → get2 t (jE ops.toList env) = .und ∨ ((∀ (j : Nat) (q : Oper),ops[j]? = some q → q.dst ≠ some t) ∧ get2 t (jE ops.toList env) = get2 t env1) := by
  intro t ht
  have hd : ∀ o,o ∈ ops.toList → z0 nt o.dst = true := fun o ho => by
   obtain ⟨i,hi⟩ := List.mem_iff_getElem?.1 ho
   exact F.dst i o (by simpa using hi)
  rcases kH hn ops.toList env t ht hd with h | ⟨h1,h2⟩
  ·exact .inl h
  ·have h3 : ∀ (j : Nat) (q : Oper),ops[j]? = some q → q.dst ≠ some t := fun j q hq => h1 q (by simpa using Array.mem_of_getElem? hq)
   exact .inr ⟨h3,by rw [h2,b1 t ht fun j q _ hq => h3 j q hq]⟩
 have hk' : (vi P ops (plS ops ini)).fn st.nx (jE ops.toList env) env1 (⟨st.call,H1,Nat.add st.nx ops.size,st.dfs,st.rc⟩ : St) K' = true := by
  rw [hr0,← hbl]
  rw [St.with2_eq] at hk
  exact hk
 obtain ⟨o1,ho1,hs1⟩ := Option.bind_eq_some_iff.1 hs1
 obtain ⟨o2,ho2,hs2⟩ := Option.bind_eq_some_iff.1 hs2
 have hne' : e1 ≠ e2 := fun e => by subst e; simp at hne
 refine wp_region_any hm ?_
 have none' : ∀ b,st.nx ≤ b → σ b = none := fun b hb => by
  cases e : σ b with
  | none => rfl
  | some p => obtain ⟨cb,sz⟩ := p; have := (hr.dom b cb sz e).1; omega
 refine kb [(e1,[],plB ops ini e1),(e2,[],plB ops ini e2)] hc F hn hlim (plS ops ini) none past env1 H1 (Nat.add st.nx ops.size) hS ?_ hpast hblank (yf (K := K') _ _ _ _ hk') σ st.H w Q
  (fun l H' nx' σ' w' a' c hk R E A C => hQ (.pan l) _ ⟨st.call,H',nx',st.dfs,st.rc⟩ σ' w' a' (.panic c) hk rfl rfl rfl R E A C) ?_ ops.size _ σ _ a ⟨by simp,ha.env.size,?_,?_,?_,?_,?_,?_,?_,Nat.le_refl _,?_,?_,ha.dfs⟩ ?_
 ·intro s hs i hi
  simp only [named,List.nil_append,List.mem_cons,List.not_mem_nil,or_false] at hi
  rcases hi with rfl | rfl
  ·exact qH ht1 s hs
  ·exact qH ht2 s hs
 ·intro env' H' nx' hk hp
  have hk2 : WO P ops s1 s2 (plB ops ini e1) (plB ops ini e2) env' ⟨st.call,H',nx',st.dfs,st.rc⟩ K = true := hk
  unfold WO at hk2
  split at hk2 <;> first | (exact Bool.noConfusion hk2) | skip
  rename_i hap
  obtain ⟨G1,q1,hk2⟩ := Xi hk2
  obtain ⟨G12,q12,hk2⟩ := Xi hk2
  obtain ⟨G2,q2,hk2⟩ := Xi hk2
  obtain ⟨G21,q21,hk2⟩ := Xi hk2
  obtain ⟨r1,hk2⟩ := zM hk2
  obtain ⟨r2,hk2⟩ := zM hk2
  obtain ⟨r3,hk2⟩ := zM hk2
  obtain ⟨r4,hk2⟩ := zM hk2
  exact Y1 hc F hn hlim hne' ho1 ho2 hs1 hs2 hc1 hc2 hp q1 q12 q2 q21 r1 r2 r3 r4 (JK hap q1 q12 q2 q21)
   fun σ' w' a' R E A => hQ .normal env' ⟨st.call,G12,nx',st.dfs,st.rc⟩ σ' w' a' .normal hk2 rfl rfl rfl R E A trivial
 ·exact fun i j h => (j6 h).elim
 ·exact fun i _ h => j6 h
 ·intro i hi
  have := ks (qH hcov i (List.mem_range.2 hi))
  rcases List.mem_append.1 this with h | h
  ·rcases List.mem_append.1 h with h | h
   ·exact .inl ((ze hF i).2 (.inr h))
   ·exact .inr (.inl (by rw [zm]; exact List.mem_append_left _ h))
  ·exact .inr (.inl (by rw [zm]; exact List.mem_append_right _ h))
 ·intro t ht hown
  rw [b1 t ht fun j q _ hq hd => j6 (hown j q hq hd)]
  exact ha.env.den t ht
 ·intro j q hj hq _ hcl
  cases hip : z4 q.op with
  | true =>
   have h1 := qH hA j hj
   rw [hq] at h1
   simp only [hip] at h1
   have hmem : j ∈ plA ops ini := by
    split at h1
    ·exact ks ‹_›
    ·rw [j9] at h1; simp at h1
   have h3 := qH hag j hmem
   rw [hq] at h3
   exact kO hcl h3
  | false =>
   rcases (ze hF j).1 hj with hj | hj
   ·cases hj
   ·exact b5 j q hj hq hcl hip
 ·intro j q hj hq _ hcl
  rcases (ze hF j).1 hj with hj | hj
  ·cases hj
  ·exact b4 j q hj hq hcl
 ·exact fun i _ _ => none' _ (by omega)
 ·exact (b3 σ w (hr.more (Nat.le_add_right _ _) hlim) fun j _ => none' _ (by omega)).drew
 ·have E := Ext.drew σ st.H st.nx w
  refine ⟨E.sub,E.rng,?_,Nat.le_add_right _ _,rfl,rfl,rfl,Nat.le_refl _,fun _ _ _ => rfl⟩
  intro b hb h0
  exact ⟨h0,b2 b (by omega) fun j _ => by omega⟩
 ·unfold left
  have := List.countP_le_length (p := fun i => !(Array.replicate ops.size false).getD i false) (l := List.range ops.size)
  simpa using this
noncomputable section
def seqX (g : Env → St → FX → Bool) (K : FX) (e : AExit) : Env → St → Bool :=
 AExit.rec (motive := fun _ => (Env → St → FX → Bool) → FX → Env → St → Bool) (fun g K env st => g env st K) (fun i _ K env st => K (.exit i) env st) (fun _ K env st => K .ret env st) (fun l _ K env st => K (.pan l) env st) e g K
def Q0 (id : Nat) (K : FX) (e : AExit) : Env → St → Bool :=
 AExit.rec (motive := fun _ => Nat → FX → Env → St → Bool) (fun _ K env st => K .normal env st) (fun j id K env st => Bool.rec (K (.exit j) env st) (K .normal env st) (Nat.beq j id)) (fun _ K env st => K .ret env st) (fun l _ K env st => K (.pan l) env st) e id K
def Zx (f : Env → St → FX → Bool) (fuel : Nat) : Env → St → FX → Bool :=
 Nat.rec (motive := fun _ => Env → St → FX → Bool) (fun _ _ _ => false) (fun _ ih env st K => f env st (seqX ih K)) fuel
def Kb (r : Option AMode) (b : Bool) : Bool := Option.rec b (fun _ => false) r
def qaf (P : Program) (nt : Nat) (ops : Array Oper) : Co := match Zq nt ops with
 | true => V7 P nt ops
 | false => Yj P nt ops
theorem Vf {st : St} {K : FX} (hm : P.follows .mixedOrders = true) (hc : jB P st.call) (h : (qaf P nt ops).fn env st K = true) (id : Nat)
  (σ : Sg) (w : World) (a : Act) (Q : Exit → Act → World → Prop) (hr : Rel σ st.H st.nx w) (ha : ARel σ nt env st.dfs a)
  (hQ : ∀ ex env' st' σ' w' a' e,K ex env' st' = true → st'.call = st.call → st'.dfs = st.dfs → st'.rc = st.rc → Rel σ' st'.H st'.nx w' → Ext σ σ' st.H st'.H st.nx st'.nx w w' → ARel σ' nt env' st.dfs a' → Qw σ' ex e → Q e a' w') :
  (Code.region id ops true).wp P Q a w := by
 unfold qaf at h
 split at h
 ·exact X6 hm hc h id σ w a Q hr ha hQ
 ·exact qbs hm hc h id σ w a Q hr ha hQ
def z7 (P : Program) (nt : Nat) (c : Code) : Co :=
 Code.rec (motive := fun _ => Co)
  (.mk fun env st K => K .normal env st)
  (fun _ ops draw => match draw with | false => cOps P nt ops ops.toList | true => qaf P nt ops)
  (fun _ _ a b => match a,b with | .mk f,.mk g => .mk fun env st K => f env st (seqX g K))
  (fun c _ _ a b => match bx c,a,b with | .mk c,.mk f,.mk g => .mk fun env st K => J3 (c env) (f env st K) (g env st K))
  (fun id _ a => match a with | .mk f => .mk fun env st K => f env st (Q0 id K))
  (fun _ a => match a with | .mk f => .mk fun env st K => Kb st.rc (Zx f vH env st K))
  (fun _ _ _ _ _ _ => .mk fun _ _ _ => false)
  (fun id => .mk fun env st K => K (.exit id) env st)
  (fun _ _ => .mk fun _ _ _ => false)
  (fun _ => .mk fun _ _ _ => false)
  (fun _ => .mk fun _ _ _ => false)
  (.mk fun env st K => K .ret env st)
  (fun _ => .mk fun _ _ _ => false)
  c
theorem VS {r : Option AMode} {b : Bool} (h : Kb r b = true) : r = none ∧ b = true := by
 cases r with
 | none => exact ⟨rfl,h⟩
 | some m => exact Bool.noConfusion h
theorem VD {σ : Sg} {dfs : Dfs} {a : Act} {c : Operand} (ha : ARel σ nt env dfs a) (h : aev env c = .anyBool) : ∃ b,a.eval c = .bool b := by
 have := ha.env.aev c
 rw [h] at this
 cases hq : a.eval c <;> rw [hq] at this <;> cases this
 exact ⟨_,rfl⟩
theorem Ys {c : Code} {g : Env → St → FX → Bool} {call : zx} {K : FX} {σ : Sg} {Q : Exit → Act → World → Prop} (hc : jB P call) (hg : Y8 P nt c g)
  (hQ : yU nt call K σ H nx w Q) : yU nt call (seqX g K) σ H nx w (Exit.then (c.wp P Q) Q) := by
 intro ex env' st' σ' w' a' e hk hcl hrc R E A X
 cases ex with
 | normal =>
  cases e <;> try exact X.elim
  have hk' : g env' st' K = true := hk
  refine hg env' st' K (by rw [hcl]; exact hc) hrc hk' σ' w' a' Q R A ?_
  rw [hcl]; exact hQ.from E
 | exit i => cases e <;> first | exact X.elim | exact hQ _ env' st' σ' w' a' _ hk hcl hrc R E A X
 | ret => cases e <;> first | exact X.elim | exact hQ _ env' st' σ' w' a' _ hk hcl hrc R E A X
 | pan l => cases e <;> first | exact X.elim | exact hQ _ env' st' σ' w' a' _ hk hcl hrc R E A X
theorem WA {id : Nat} {call : zx} {K : FX} {σ : Sg} {Q : Exit → Act → World → Prop} (hQ : yU nt call K σ H nx w Q) :
  yU nt call (Q0 id K) σ H nx w (Exit.inBlock id Q) := by
 intro ex env' st' σ' w' a' e hk hcl hrc R E A X
 cases ex with
 | normal => cases e <;> first | exact X.elim | exact hQ _ env' st' σ' w' a' _ hk hcl hrc R E A X
 | exit i =>
  cases e <;> try exact X.elim
  have X' : i = _ := X
  subst X'
  have hk' : (Bool.rec (K (.exit i) env' st') (K .normal env' st') (Nat.beq i id) : Bool) = true := hk
  cases hb : Nat.beq i id with
  | true =>
   rw [hb] at hk'
   have hid := Nat.eq_of_beq_eq_true hb
   simp only [Exit.inBlock,hid,if_true]
   exact hQ .normal env' st' σ' w' a' .normal hk' hcl hrc R E A trivial
  | false =>
   rw [hb] at hk'
   have hid : i ≠ id := fun e => by subst e; simp at hb
   simp only [Exit.inBlock,hid,if_false]
   exact hQ (.exit i) env' st' σ' w' a' _ hk' hcl hrc R E A rfl
 | ret => cases e <;> first | exact X.elim | exact hQ _ env' st' σ' w' a' _ hk hcl hrc R E A X
 | pan l => cases e <;> first | exact X.elim | exact hQ _ env' st' σ' w' a' _ hk hcl hrc R E A X
theorem VH {c : Code} {f : Env → St → FX → Bool} (hf : Y8 P nt c f) : ∀ (n : Nat) (env : Env) (st : St) (K : FX),jB P st.call → st.rc = none → Zx f n env st K = true →
  ∀ σ w a Q,Rel σ st.H st.nx w → ARel σ nt env st.dfs a → yU nt st.call K σ st.H st.nx w Q → Code.rounds P c Q n a w
 | 0,env,st,K,_,_,h => Bool.noConfusion h
 | n + 1,env,st,K,hc,hrc,h => by
  intro σ w a Q hr ha hQ
  rw [rounds_succ]
  have h' : f env st (seqX (Zx f n) K) = true := h
  refine hf env st _ hc hrc h' σ w a _ hr ha ?_
  intro ex env' st' σ' w' a' e hk hcl hrc' R E A X
  cases ex with
  | normal =>
   cases e <;> try exact X.elim
   have hk' : Zx f n env' st' K = true := hk
   refine VH hf n env' st' K (by rw [hcl]; exact hc) hrc' hk' σ' w' a' Q R A ?_
   rw [hcl]; exact hQ.from E
  | exit i => cases e <;> first | exact X.elim | exact hQ _ env' st' σ' w' a' _ hk hcl hrc' R E A X
  | ret => cases e <;> first | exact X.elim | exact hQ _ env' st' σ' w' a' _ hk hcl hrc' R E A X
  | pan l => cases e <;> first | exact X.elim | exact hQ _ env' st' σ' w' a' _ hk hcl hrc' R E A X
theorem Wk (hm : P.follows .mixedOrders = true) (c : Code) : Y8 P nt c (z7 P nt c).fn := by
 induction c with
 | skip => exact fun env st K hc hrc h σ w a Q hr ha hQ => wp_skip (hQ .normal env st σ w a .normal h rfl hrc hr (Ext.refl _ _ _ _) ha trivial)
 | region id ops draw =>
  cases draw with
  | false => exact fun env st K hc hrc h σ w a Q hr ha hQ => wp_region_list (JW ops.toList env st K hc hrc h σ w a Q hr ha hQ)
  | true =>
   exact fun env st K hc hrc h σ w a Q hr ha hQ => Vf hm hc h id σ w a Q hr ha fun ex env' st' σ' w' a' e hk h1 h2 h3 R E A X => hQ ex env' st' σ' w' a' e hk h1 (h3.trans hrc) R E (by rw [h2]; exact A) X
 | seq x y ihx ihy =>
  intro env st K hc hrc h σ w a Q hr ha hQ
  have h' : (match z7 P nt x,z7 P nt y with | .mk f,.mk g => Co.mk fun env st K => f env st (seqX g K)).fn env st K = true := h
  cases ex : z7 P nt x with | mk f => cases ey : z7 P nt y with | mk g =>
   rw [ex,ey] at h'
   rw [ex] at ihx; rw [ey] at ihy
   have h2 : f env st (seqX g K) = true := h'
   exact wp_seq (ihx env st _ hc hrc h2 σ w a _ hr ha (Ys hc ihy hQ))
 | cond c x y ihx ihy =>
  intro env st K hc hrc h σ w a Q hr ha hQ
  have h' : (match bx c,z7 P nt x,z7 P nt y with | .mk c,.mk f,.mk g => Co.mk fun env st K => J3 (c env) (f env st K) (g env st K)).fn env st K = true := h
  have hx := jc c env
  cases eb : bx c with | mk fc => cases ex : z7 P nt x with | mk f => cases ey : z7 P nt y with | mk g =>
   rw [eb,ex,ey] at h'
   rw [eb] at hx
   have hx' : fc env = aev env c := hx
   rw [ex] at ihx; rw [ey] at ihy
   have h2 : J3 (fc env) (f env st K) (g env st K) = true := h'
   rw [hx'] at h2
   rcases VW h2 with ⟨hv,h3⟩ | ⟨hv,h3⟩ | ⟨hv,h3,h4⟩
   ·exact wp_cond (t := true) (jR ha hv) (ihx env st K hc hrc h3 σ w a Q hr ha hQ)
   ·exact wp_cond (t := false) (jR ha hv) (ihy env st K hc hrc h3 σ w a Q hr ha hQ)
   ·obtain ⟨b,hb⟩ := VD ha hv
    cases b with
    | true => exact wp_cond (t := true) hb (ihx env st K hc hrc h3 σ w a Q hr ha hQ)
    | false => exact wp_cond (t := false) hb (ihy env st K hc hrc h4 σ w a Q hr ha hQ)
 | block id x ih =>
  intro env st K hc hrc h σ w a Q hr ha hQ
  have h' : (match z7 P nt x with | .mk f => Co.mk fun env st K => f env st (Q0 id K)).fn env st K = true := h
  cases ex : z7 P nt x with | mk f =>
   rw [ex] at h' ih
   have h2 : f env st (Q0 id K) = true := h'
   exact wp_block (ih env st _ hc hrc h2 σ w a _ hr ha (WA hQ))
 | loop x ih =>
  intro env st K hc hrc h σ w a Q hr ha hQ
  have h' : (match z7 P nt x with | .mk f => Co.mk fun env st K => Kb st.rc (Zx f vH env st K)).fn env st K = true := h
  cases ex : z7 P nt x with | mk f =>
   rw [ex] at h' ih
   have h2 : Kb st.rc (Zx f vH env st K) = true := h'
   exact wp_loop_rounds vH (VH ih vH env st K hc hrc (VS h2).2 σ w a Q hr ha hQ)
 | exit id => exact fun env st K hc hrc h σ w a Q hr ha hQ => wp_exit (hQ (.exit id) env st σ w a (.exit id) h rfl hrc hr (Ext.refl _ _ _ _) ha rfl)
 | ret => exact fun env st K hc hrc h σ w a Q hr ha hQ => wp_ret (hQ .ret env st σ w a .ret h rfl hrc hr (Ext.refl _ _ _ _) ha trivial)
 | rangeFunc f p x y _ _ => exact fun env st K hc hrc h => Bool.noConfusion h
 | scope x _ => exact fun env st K hc hrc h => Bool.noConfusion h
 | label l => exact fun env st K hc hrc h => Bool.noConfusion h
 | goto l => exact fun env st K hc hrc h => Bool.noConfusion h
 | refuse s => exact fun env st K hc hrc h => Bool.noConfusion h
theorem WC (hm : P.follows .mixedOrders = true) (c : Code) : qjh P nt c (z7 P nt c).fn := by
 induction c with
 | skip => exact fun env st K m hc hrc h σ w a u c₀ cs Q hr ha hmr hQ => wpS_of_wp (wp_skip (hQ .normal env st m σ w a .normal u h rfl hrc hr (Ext.refl _ _ _ _) ha trivial hmr))
 | region id ops draw =>
  cases draw with
  | false =>
   intro env st K m hc hrc h σ w a u c₀ cs Q hr ha hmr hQ
   refine wpS_region ?_
   have := JV ops.toList 0 env st K m (by simp) hc hrc h σ w a u c₀ cs Q hr ha hmr hQ
   rw [List.range_eq_range',← Array.length_toList]
   exact this
  | true =>
   exact fun env st K m hc hrc h σ w a u c₀ cs Q hr ha hmr hQ => wpS_of_wp (Vf hm hc h id σ w a _ hr ha fun ex env' st' σ' w' a' e hk h1 h2 h3 R E A X =>
    hQ ex env' st' m σ' w' a' e u hk h1 (h3.trans hrc) R E (by rw [h2]; exact A) X (hmr.mono E.sub))
 | seq x y ihx ihy =>
  intro env st K m hc hrc h σ w a u c₀ cs Q hr ha hmr hQ
  have h' : (match z7 P nt x,z7 P nt y with | .mk f,.mk g => Co.mk fun env st K => f env st (seqX g K)).fn env st K = true := h
  cases ex : z7 P nt x with | mk f => cases ey : z7 P nt y with | mk g =>
   rw [ex,ey] at h'
   rw [ex] at ihx; rw [ey] at ihy
   have h2 : f env st (seqX g K) = true := h'
   refine wpS_seq (ihx env st _ m hc hrc h2 σ w a u c₀ cs _ hr ha hmr ?_)
   intro ex env' st' m' σ' w' a' e u' hk hcl hrc' R E A X M
   cases ex with
   | normal =>
    cases e <;> try exact X.elim
    have hk' : g env' st' K = true := hk
    refine ihy env' st' K m' (by rw [hcl]; exact hc) hrc' hk' σ' w' a' u' c₀ cs Q R A M ?_
    rw [hcl]; exact hQ.from E
   | exit i => cases e <;> first | exact X.elim | exact hQ _ env' st' m' σ' w' a' _ u' hk hcl hrc' R E A X M
   | ret => cases e <;> first | exact X.elim | exact hQ _ env' st' m' σ' w' a' _ u' hk hcl hrc' R E A X M
   | pan l => cases e <;> first | exact X.elim | exact hQ _ env' st' m' σ' w' a' _ u' hk hcl hrc' R E A X M
 | cond c x y ihx ihy =>
  intro env st K m hc hrc h σ w a u c₀ cs Q hr ha hmr hQ
  have h' : (match bx c,z7 P nt x,z7 P nt y with | .mk c,.mk f,.mk g => Co.mk fun env st K => J3 (c env) (f env st K) (g env st K)).fn env st K = true := h
  have hx := jc c env
  cases eb : bx c with | mk fc => cases ex : z7 P nt x with | mk f => cases ey : z7 P nt y with | mk g =>
   rw [eb,ex,ey] at h'
   rw [eb] at hx
   have hx' : fc env = aev env c := hx
   rw [ex] at ihx; rw [ey] at ihy
   have h2 : J3 (fc env) (f env st K) (g env st K) = true := h'
   rw [hx'] at h2
   rcases VW h2 with ⟨hv,h3⟩ | ⟨hv,h3⟩ | ⟨hv,h3,h4⟩
   ·exact wpS_cond (t := true) (jR ha hv) (ihx env st K m hc hrc h3 σ w a u c₀ cs Q hr ha hmr hQ)
   ·exact wpS_cond (t := false) (jR ha hv) (ihy env st K m hc hrc h3 σ w a u c₀ cs Q hr ha hmr hQ)
   ·obtain ⟨b,hb⟩ := VD ha hv
    cases b with
    | true => exact wpS_cond (t := true) hb (ihx env st K m hc hrc h3 σ w a u c₀ cs Q hr ha hmr hQ)
    | false => exact wpS_cond (t := false) hb (ihy env st K m hc hrc h4 σ w a u c₀ cs Q hr ha hmr hQ)
 | block id x ih =>
  intro env st K m hc hrc h σ w a u c₀ cs Q hr ha hmr hQ
  have h' : (match z7 P nt x with | .mk f => Co.mk fun env st K => f env st (Q0 id K)).fn env st K = true := h
  cases ex : z7 P nt x with | mk f =>
   rw [ex] at h' ih
   have h2 : f env st (Q0 id K) = true := h'
   refine X7 (ih env st _ m hc hrc h2 σ w a u c₀ cs _ hr ha hmr ?_)
   intro ex env' st' m' σ' w' a' e u' hk hcl hrc' R E A X M
   cases ex with
   | normal => cases e <;> first | exact X.elim | exact hQ _ env' st' m' σ' w' a' _ u' hk hcl hrc' R E A X M
   | exit i =>
    cases e <;> try exact X.elim
    have X' : i = _ := X
    subst X'
    have hk' : (Bool.rec (K (.exit i) env' st') (K .normal env' st') (Nat.beq i id) : Bool) = true := hk
    cases hb : Nat.beq i id with
    | true =>
     rw [hb] at hk'
     have hid := Nat.eq_of_beq_eq_true hb
     simp only [hid,if_true]
     exact hQ .normal env' st' m' σ' w' a' .normal u' hk' hcl hrc' R E A trivial M
    | false =>
     rw [hb] at hk'
     have hid : i ≠ id := fun e => by subst e; simp at hb
     simp only [hid,if_false]
     exact hQ (.exit i) env' st' m' σ' w' a' _ u' hk' hcl hrc' R E A rfl M
   | ret => cases e <;> first | exact X.elim | exact hQ _ env' st' m' σ' w' a' _ u' hk hcl hrc' R E A X M
   | pan l => cases e <;> first | exact X.elim | exact hQ _ env' st' m' σ' w' a' _ u' hk hcl hrc' R E A X M
 | loop x ih =>
  intro env st K m hc hrc h
  have h' : (match z7 P nt x with | .mk f => Co.mk fun env st K => Kb st.rc (Zx f vH env st K)).fn env st K = true := h
  cases ex : z7 P nt x with | mk f =>
   rw [ex] at h'
   have h2 : Kb st.rc (Zx f vH env st K) = true := h'
   have := (VS h2).1
   rw [hrc] at this
   cases this
 | exit id => exact fun env st K m hc hrc h σ w a u c₀ cs Q hr ha hmr hQ => wpS_of_wp (wp_exit (hQ (.exit id) env st m σ w a (.exit id) u h rfl hrc hr (Ext.refl _ _ _ _) ha rfl hmr))
 | ret => exact fun env st K m hc hrc h σ w a u c₀ cs Q hr ha hmr hQ => wpS_of_wp (wp_ret (hQ .ret env st m σ w a .ret u h rfl hrc hr (Ext.refl _ _ _ _) ha trivial hmr))
 | rangeFunc f p x y _ _ => exact fun env st K m hc hrc h => Bool.noConfusion h
 | scope x _ => exact fun env st K m hc hrc h => Bool.noConfusion h
 | label l => exact fun env st K m hc hrc h => Bool.noConfusion h
 | goto l => exact fun env st K m hc hrc h => Bool.noConfusion h
 | refuse s => exact fun env st K m hc hrc h => Bool.noConfusion h
end
end Go.Ev
end
section
namespace Go.Ev
variable [GTab]
open Go.ChangeShapes Go.WideShapes
def Kept (W w' : World) : Prop := w'.os = W.os ∧ w'.output = W.output ∧ W.heap.size ≤ w'.heap.size ∧ ∀ i,i < W.heap.size → w'.heap[i]? = W.heap[i]?
theorem Kept.refl (W : World) : Kept W W := ⟨rfl,rfl,Nat.le_refl _,fun _ _ => rfl⟩
theorem Kept.keptBut {W w' : World} (h : Kept W w') (may : MemPlace → Prop) : W.keptBut w' may := by
 refine ⟨h.1,h.2.1,fun i hi => ?_⟩
 rw [h.2.2.2 i hi]
 cases e : W.heap[i]? with
 | none => rfl
 | some o => cases o <;> simp
theorem Kept.frozen {W w' : World} (h : Kept W w') (a : Addr) (ha : a.block < W.heap.size) : w'.frozen? a = W.frozen? a := by
 simp only [World.frozen?,h.2.2.2 a.block ha]
section
variable {H : Type} {enc : TypeId × Value → H} {P : Program}
theorem KD {f : Func} {s : ChangeSpec} {apart fresh handsOn wD : Bool} {W W' : World} {args : Array Value} {v : Value} {ds gs : List (DataW H)} {before pa pv : List MemPlace}
  (hW : DataW.Whole enc P f.params.toList s.vars apart W args.toList ds gs before)
  (hres : ∀ (b : Nat) (sp : Nat → Bool) (hd : Bool),DataW.TrodAll enc P W' b sp hd f.resultTypes.toList (v.resultList f.resultTypes.size) (s.fn H (ds ++ gs)).results [])
  (hargs : ∀ sp : Nat → Bool,(∀ p ∈ before,sp p.block = true) → DataW.TrodAll enc P W' 0 sp true f.params.toList args.toList (s.fn H (ds ++ gs)).args pa)
  (hvars : ∀ sp : Nat → Bool,(∀ p ∈ before,sp p.block = true) → DataW.TrodVars enc P W' sp s.vars (s.fn H (ds ++ gs)).vars pv)
  (hps : before = pa ++ pv) (hk : Kept W W')
  (hok : ∀ (j : Nat) (t : TypeId) (r : Value),f.resultTypes[j]? = some t → (v.resultList f.resultTypes.size)[j]? = some r → Value.okWide P W' .any 0 t r) :
  s.post enc P f apart fresh handsOn wD W args v W' := by
 have hlt : ∀ p ∈ before,p.block < W.heap.size := fun p hp => hW.lt p hp
 have hold : ∀ p ∈ before,(fun b => decide (b < W.heap.size)) p.block = true := fun p hp => by simpa using hlt p hp
 refine ⟨ds,gs,before,[],pa,pv,hW,hres _ _ _,hargs _ hold,hvars _ hold,hk.keptBut _,fun _ => ?_⟩
 obtain ⟨_,_,_,_,_,hz,hn⟩ := hW
 refine ⟨hok,_,_,([] ++ pa) ++ pv,⟨[] ++ pa,pv,trodAll_append (hargs _ (fun _ _ => rfl)) (hres _ _ _),hvars _ (fun _ _ => rfl),rfl,?_,?_⟩,?_⟩
 ·intro b off hp
  have hb : MemPlace.cell b off ∈ before := by rw [hps]; simpa using hp
  rw [hk.frozen _ (hlt _ hb)]
  exact hz b off hb
 ·intro ha
  have := hn ha
  rw [hps] at this
  simpa using this
 ·intro p hp _
  rw [hps]
  simpa using hp
end
end Go.Ev
end
section
namespace Go.Ev
variable [GTab] {P : Program} {H : Heap} {nt : Nat} {env : Env}
noncomputable section
def lenF (l : List AVal) : Nat := List.rec (motive := fun _ => Nat) 0 (fun _ _ n => Nat.succ n) l
theorem ZU : ∀ l : List AVal,lenF l = l.length
 | [] => rfl
 | _ :: l => by show Nat.succ (lenF l) = _; rw [ZU l]; rfl
def nthT (l : List AVal) (i : Nat) : AVal := List.rec (motive := fun _ => Nat → AVal) (fun _ => .tuple []) (fun v _ ih i => Nat.rec (motive := fun _ => AVal) v (fun j _ => ih j) i) l i
def rowT : N16 AVal := .all (.tuple [])
def qau (l : List AVal) : Env :=
 .mk (.mk (nthT l 0) (nthT l 1) (nthT l 2) (nthT l 3) (nthT l 4) (nthT l 5) (nthT l 6) (nthT l 7) (.tuple []) (.tuple []) (.tuple []) (.tuple []) (.tuple []) (.tuple []) (.tuple []) (.tuple [])) rowT rowT rowT rowT rowT rowT rowT rowT rowT rowT rowT rowT rowT rowT rowT
def yi (l : List AVal) : Env := Bool.rec (jY l 0 (all2 (.tuple []))) (qau l) (Nat.ble (lenF l) 8)
theorem J2 (l : List AVal) : yi l = jY l 0 (all2 (.tuple [])) := by
 unfold yi
 cases h : Nat.ble (lenF l) 8 with
 | false => rfl
 | true =>
  have hl : l.length ≤ 8 := by have := Nat.le_of_ble_eq_true h; rwa [ZU] at this
  show qau l = _
  match l,hl with
  | [],_ => rfl
  | [_],_ => rfl
  | [_,_],_ => rfl
  | [_,_,_],_ => rfl
  | [_,_,_,_],_ => rfl
  | [_,_,_,_,_],_ => rfl
  | [_,_,_,_,_,_],_ => rfl
  | [_,_,_,_,_,_,_],_ => rfl
  | [_,_,_,_,_,_,_,_],_ => rfl
  | _ :: _ :: _ :: _ :: _ :: _ :: _ :: _ :: _ :: _,h => simp at h
inductive Rs | mk (f : Env → Heap → (List AVal → Bool) → Bool)
def Rs.fn : Rs → Env → Heap → (List AVal → Bool) → Bool | .mk f => f
def optV (o : Option AVal) : (AVal → Bool) → Bool := Option.rec (motive := fun _ => (AVal → Bool) → Bool) (fun _ => false) (fun v k => k v) o
theorem qc8 {o : Option AVal} {k : AVal → Bool} (h : optV o k = true) : ∃ v,o = some v ∧ k v = true := by
 cases o with
 | none => exact Bool.noConfusion h
 | some v => exact ⟨v,rfl,h⟩
def cRes (P : Program) : List ResultVar → Rs
 | [] => .mk fun _ _ k => k []
 | .tmp t :: l => match Nat.ble t 255,yy t,cRes P l with
  | true,.mk a,.mk g => .mk fun env H k => g env H fun vs => k (a env :: vs)
  | false,_,_ => .mk fun _ _ _ => false
 | .cell b t :: l => match Nat.ble b 255,yy b,cRes P l with
  | true,.mk a,.mk g => .mk fun env H k => g env H fun vs => optV (jN P t H (a env)) fun v => k (v :: vs)
  | false,_,_ => .mk fun _ _ _ => false
theorem Qp {P : Program} : ∀ {l : List ResultVar} {env : Env} {H : Heap} {k : List AVal → Bool},(cRes P l).fn env H k = true → ∃ vs,qX P env H l = some vs ∧ k vs = true
 | [],env,H,k,h => ⟨[],rfl,h⟩
 | .tmp t :: l,env,H,k,h => by
  unfold cRes at h
  have ha := QN t
  cases hb : Nat.ble t 255 with
  | false => simp only [hb] at h; exact Bool.noConfusion h
  | true =>
   cases ea : yy t with | mk a => cases eg : cRes P l with | mk g =>
    rw [ea] at ha
    have ha' : a = get2 t := ha
    subst ha'
    simp only [hb,ea,eg] at h
    obtain ⟨vs,hv,hk⟩ := Qp (l := l) (env := env) (H := H) (k := fun vs => k (get2 t env :: vs)) (by rw [eg]; exact h)
    exact ⟨_,by unfold qX; simp only [hb,hv],hk⟩
 | .cell b t :: l,env,H,k,h => by
  unfold cRes at h
  have ha := QN b
  cases hb : Nat.ble b 255 with
  | false => simp only [hb] at h; exact Bool.noConfusion h
  | true =>
   cases ea : yy b with | mk a => cases eg : cRes P l with | mk g =>
    rw [ea] at ha
    have ha' : a = get2 b := ha
    subst ha'
    simp only [hb,ea,eg] at h
    obtain ⟨vs,hv,hk⟩ := Qp (l := l) (env := env) (H := H) (k := fun vs => optV (jN P t H (get2 b env)) fun v => k (v :: vs)) (by rw [eg]; exact h)
    obtain ⟨v,e,hk⟩ := qc8 hk
    exact ⟨_,by unfold qX; simp only [hb,hv,e],hk⟩
inductive CFn
 | no
 | yes (nt : Nat) (code : Env → St → FX → Bool) (rs : List ResultVar) (res : Env → Heap → (List AVal → Bool) → Bool)
def cFun (P : Program) (f : FuncId) : CFn :=
 match P.funcs[f]? with
 | some fn => match fn.body,Nat.ble fn.ntmps 256 with
  | some c,true => match z7 P fn.ntmps c,cRes P fn.results.toList with
   | .mk g,.mk r => qn fn.ntmps fun n => .yes n g fn.results.toList r
  | _,_ => .no
 | none => .no
theorem Xf {f : FuncId} {code : Env → St → FX → Bool} {rs : List ResultVar} {res : Env → Heap → (List AVal → Bool) → Bool} (h : cFun P f = .yes nt code rs res) :
  ∃ fn c,P.funcs[f]? = some fn ∧ fn.body = some c ∧ fn.ntmps = nt ∧ nt ≤ 256 ∧ (z7 P nt c).fn = code ∧ rs = fn.results.toList ∧ (cRes P rs).fn = res := by
 unfold cFun at h
 split at h <;> try (cases h; done)
 rename_i fn hf
 split at h <;> try (cases h; done)
 rename_i c hb hn
 cases ec : z7 P fn.ntmps c with | mk g => cases er : cRes P fn.results.toList with | mk r =>
  rw [ec,er] at h
  simp only [qb] at h
  cases h
  exact ⟨fn,c,hf,hb,rfl,Nat.le_of_ble_eq_true hn,by rw [ec]; rfl,rfl,by rw [er]; rfl⟩
abbrev QH := FuncId → List AVal → AMode → Heap → Nat → (AEnd → AMode → Heap → Nat → Bool) → Bool
def endX (P : Program) (calld : QH) (rs : List ResultVar) (res : Env → Heap → (List AVal → Bool) → Bool) (K : KEnd) (env : Env) (st : St) : Bool :=
 List.rec (motive := fun _ => Bool) (res env st.H fun vs => K (.ret (kY vs)) st.H st.nx) (fun _ _ _ => Q8 P calld rs env st.dfs .returning st.H st.nx K) st.dfs
def qem (P : Program) (calld : QH) (rs : List ResultVar) (res : Env → Heap → (List AVal → Bool) → Bool) (K : KEnd) (e : AExit) (env : Env) (st : St) : Bool :=
 AExit.rec (motive := fun _ => Bool) (endX P calld rs res K env st) (fun _ => false) (endX P calld rs res K env st) (fun l => Q8 P calld rs env st.dfs (.panicking l) st.H st.nx K) e
def qav (res : Env → Heap → (List AVal → Bool) → Bool) (K : AEnd → AMode → Heap → Nat → Bool) (e : AExit) (env : Env) (st : St) : Bool :=
 match e,st.dfs,st.rc with
 | .normal,[],some m' => res env st.H fun vs => K (.ret (kY vs)) m' st.H st.nx
 | .ret,[],some m' => res env st.H fun vs => K (.ret (kY vs)) m' st.H st.nx
 | .pan l,[],some m' => K (.pan l) m' st.H st.nx
 | _,_,_ => false
abbrev Orc := FuncId → List AVal → Option (List AVal)
def allV (l : List AVal) (k : AVal → Bool) : Bool := List.rec (motive := fun _ => Bool) true (fun v _ ih => Bool.rec false ih (k v)) l
theorem Xa {k : AVal → Bool} : ∀ {l : List AVal},allV l k = true → ∀ v,v ∈ l → k v = true
 | [],_,v,hv => by cases hv
 | x :: l,h,v,hv => by
  obtain ⟨h1,h2⟩ := zM (show (Bool.rec false (allV l k) (k x) : Bool) = true from h)
  rcases List.mem_cons.1 hv with rfl | hv
  ·exact h1
  ·exact Xa h2 v hv
theorem Glob.none {σ : Sg} {w : World} (h : Glob σ w) : Glob (fun _ => Option.none) w :=
 ⟨fun g l hg => ⟨(h.var g l hg).1,(fun _ _ e => by cases e),(h.var g l hg).2.2⟩,fun g l hg => ⟨(h.blk g l hg).1,(fun _ _ e => by cases e),(h.blk g l hg).2.2⟩⟩
def yR (P : Program) (orc : Orc) : Prop :=
 ∀ f args l,orc f args = some l → ∀ (σ : Sg) (w : World) (args' : List Value),Glob (fun _ => none) w → DenL σ args args' →
  Calls P f ⟨args'⟩ w fun e w' => (∃ v v',v ∈ l ∧ Den σ v v' ∧ e = .returned v') ∧ w'.tape = w.tape ∧ Kept w w'
def runF (call : zx) (calld : QH) (P : Program) (c : CFn) (args : List AVal) (H : Heap) (nx : Nat) (K : KEnd) : Bool :=
 CFn.rec (motive := fun _ => zx → QH → List AVal → Heap → Nat → KEnd → Bool) (fun _ _ _ _ _ _ => false)
  (fun nt code rs res call calld args H nx K => Bool.rec false (code (yi args) ⟨call,H,nx,[],none⟩ (qem P calld rs res K)) (Nat.ble (lenF args) nt)) c call calld args H nx K
def orcF (o : Option (List AVal)) (H : Heap) (nx : Nat) (K : KEnd) (rest : Bool) : Bool :=
 Option.rec (motive := fun _ => Heap → Nat → KEnd → Bool → Bool) (fun _ _ _ rest => rest) (fun l H nx K _ => allV l fun v => K (.ret v) H nx) o H nx K rest
abbrev Wr := zx → zx
def jn (P : Program) (W : Wr) (n : Nat) : zx × QH :=
 Nat.rec (motive := fun _ => zx × QH) (fun _ _ _ _ _ => false,fun _ _ _ _ _ _ => false)
  (fun _ ih => (
   W fun f args H nx K => runF ih.1 ih.2 P (cFun P f) args H nx K,
   fun f args m H nx K => match cFun P f,zF P f with
    | .yes nt code _ res,true => match Nat.ble (lenF args) nt with
     | true => code (yi args) ⟨ih.1,H,nx,[],some m⟩ (qav res K)
     | false => false
    | _,_ => false)) n
def orcW (orc : Orc) : Wr := fun c f args H nx K => orcF (orc f args) H nx K (c f args H nx K)
def Wy (P : Program) (orc : Orc) (n : Nat) : zx × QH := jn P (orcW orc) n
end
def qjo (P : Program) (f : FuncId) (args : List AVal) (m : AMode) (H : Heap) (nx : Nat) (K : AEnd → AMode → Heap → Nat → Bool) : Prop :=
 ∀ (σ : Sg) (w : World) (args' : List Value) (u : FrameMode) (R : Ending → FrameMode → World → Prop),Rel σ H nx w → DenL σ args args' → MRel σ m u →
  (∀ e m' H' nx' σ' w' en u',K e m' H' nx' = true → Rel σ' H' nx' w' → Ext σ σ' H H' nx nx' w w' → yu σ' e en → MRel σ' m' u' → R en u' w') → CallsD P f ⟨args'⟩ u w R
def Wx (P : Program) (calld : QH) : Prop := ∀ f args m H nx K,calld f args m H nx K = true → zF P f = true ∧ qjo P f args m H nx K
theorem Qm {calld : QH} (hcd : Wx P calld) {fn : Func} :
  ∀ (dfs : Dfs) (m : AMode) (H : Heap) (nx : Nat) (K : KEnd),Q8 P calld fn.results.toList env dfs m H nx K = true →
   ∀ σ w u ds tmps R,Rel σ H nx w → EnvRel σ nt env tmps → DfsRel σ dfs ds → MRel σ m u →
    (∀ e H' nx' σ' w' en,K e H' nx' = true → Rel σ' H' nx' w' → Ext σ σ' H H' nx nx' w w' → yu σ' e en → R en w') → Leaves P fn tmps R ds u w
 | [],m,H,nx,K,h => by
  intro σ w u ds tmps R hr he hdf hm hR
  cases m with
  | returning =>
   have h' : (match qX P env H fn.results.toList with | some vs => K (.ret (kY vs)) H nx | none => false) = true := h
   split at h' <;> first | (cases h'; done) | skip
   rename_i vs hvs
   cases hdf
   cases u <;> try exact hm.elim
   obtain ⟨v',dv,hrun⟩ := kI hr he hvs
   exact ⟨v',hrun,hR _ _ _ σ w _ h' hr (Ext.refl _ _ _ _) dv⟩
  | panicking l =>
   cases hdf
   cases u <;> try exact hm.elim
   exact hR (.pan l) H nx σ w _ h hr (Ext.refl _ _ _ _) hm
 | (f,args) :: dfs,m,H,nx,K,h => by
  obtain ⟨hbody,tri⟩ := hcd f args m H nx _ h
  intro σ w u ds tmps R hr he hdf hm hR
  cases hdf with
  | @cons _ _ d _ l' hd ht =>
   obtain ⟨cap,htar,hargs⟩ := hd
   refine ⟨KM hm,.func f,cap,f,d.args ++ cap,htar,?_,?_⟩
   ·rw [htar]
    simp only [invoke]
    exact zw hbody _ w
   ·have hl : (⟨(d.args ++ cap).toList⟩ : Array Value) = d.args ++ cap := rfl
    rw [← hl]
    refine tri σ w _ u _ hr hargs hm fun e m' H1 nx1 σ1 w1 en u1 hk R1 E1 X1 M1 => ?_
    cases e with
    | ret v =>
     cases en with
     | returned v' => exact Qm hcd dfs _ H1 nx1 K hk σ1 w1 (settle u1) l' tmps R R1 (he.mono E1.sub) (ht.mono E1.sub) (Q6 M1) fun e2 H2 nx2 σ2 w2 en2 hk2 R2 E2 X2 => hR e2 H2 nx2 σ2 w2 en2 hk2 R2 (E1.trans E2) X2
     | panicked c => exact X1.elim
     | outgrown => exact X1.elim
    | pan l =>
     cases en with
     | returned v' => exact X1.elim
     | panicked c => exact Qm hcd dfs _ H1 nx1 K hk σ1 w1 (raised u1 c) l' tmps R R1 (he.mono E1.sub) (ht.mono E1.sub) (Zj M1 X1) fun e2 H2 nx2 σ2 w2 en2 hk2 R2 E2 X2 => hR e2 H2 nx2 σ2 w2 en2 hk2 R2 (E1.trans E2) X2
     | outgrown => exact X1.elim
theorem Rel.kept {σ : Sg} {nx : Nat} {w w' : World} (h : Rel σ H nx w) (k : Kept w w') : Rel σ H nx w' := by
 have hb : ∀ b cb sz,σ b = some (cb,sz) → w'.heap[cb]? = w.heap[cb]? := fun b cb sz e => k.2.2.2 cb (h.dom b cb sz e).2
 exact ⟨h.lim,fun b cb sz e => ⟨(h.dom b cb sz e).1,Nat.lt_of_lt_of_le (h.dom b cb sz e).2 k.2.2.1⟩,fun b o cb sz e1 e2 => (h.obj b o cb sz e1 e2).of_block (hb b cb sz e2),h.sep,h.sup,h.old,h.glob.of k.2.2.1 (fun i hi _ => k.2.2.2 i hi) fun b _ sz e _ => ⟨b,sz,e⟩⟩
theorem Ext.kept (σ : Sg) (H : Heap) (nx : Nat) {w w' : World} (k : Kept w w') (ht : w'.tape = w.tape) : Ext σ σ H H nx nx w w' :=
 ⟨fun _ _ h => h,fun b _ sz h _ => ⟨b,sz,h⟩,fun _ _ h => ⟨h,rfl⟩,Nat.le_refl _,k.1,ht,k.2.1,k.2.2.1,fun i hi _ => k.2.2.2 i hi⟩
def WrOK (P : Program) (W : Wr) : Prop := ∀ c,jB P c → jB P (W c)
theorem WN {orc : Orc} (ho : yR P orc) : WrOK P (orcW orc) := by
 intro c hc f args H nx K h
 have h' : orcF (orc f args) H nx K (c f args H nx K) = true := h
 cases eo : orc f args with
 | some l =>
  rw [eo] at h'
  have h2 : allV l (fun v => K (.ret v) H nx) = true := h'
  intro σ w args' R hr hda hR
  refine (ho f args l eo σ w args' hr.glob.none hda).mono fun e w' ⟨⟨v,v',hv,dv,he⟩,ht,hk⟩ => ?_
  subst he
  exact hR (.ret v) H nx σ w' _ (Xa h2 v hv) (hr.kept hk) (Ext.kept σ H nx hk ht) dv
 | none =>
  rw [eo] at h'
  exact hc f args H nx K h'
theorem Qj {W : Wr} (hm : P.follows .mixedOrders = true) (ho : WrOK P W) : ∀ n,jB P (jn P W n).1 ∧ Wx P (jn P W n).2 := by
 intro n
 induction n with
 | zero => exact ⟨(fun f args H nx K h => Bool.noConfusion h),(fun f args m H nx K h => Bool.noConfusion h)⟩
 | succ n ih =>
  obtain ⟨ih1,ih2⟩ := ih
  refine ⟨ho _ ?_,?_⟩
  ·intro f args H nx K h
   have h2 : runF (jn P W n).1 (jn P W n).2 P (cFun P f) args H nx K = true := h
   cases ec : cFun P f with
   | no => rw [ec] at h2; exact Bool.noConfusion h2
   | yes nt code rs res =>
    rw [ec] at h2
    obtain ⟨fn,c,hf,hb,hnt,hn',hcode,hrs,hres⟩ := Xf ec
    obtain ⟨hl,h3⟩ := zM (show (Bool.rec false (code (yi args) ⟨(jn P W n).1,H,nx,[],none⟩ (qem P (jn P W n).2 rs res K)) (Nat.ble (lenF args) nt) : Bool) = true from h2)
    have hl' : args.length ≤ nt := by have := Nat.le_of_ble_eq_true hl; rwa [ZU] at this
    intro σ w args' R hr hda hR
    refine calls_of_wp_defers hf hb ?_
    rw [← hcode] at h3
    have hEnv := yM hn' hl' hda
    rw [← J2] at hEnv
    subst hnt
    refine Wk hm c (yi args) ⟨(jn P W n).1,H,nx,[],none⟩ _ ih1 rfl h3 σ w _ _ hr ⟨hEnv,.nil⟩ ?_
    intro ex env' st' σ' w' a' e hk hcl hrc R1 E1 A1 X1
    have fin : ∀ m u,MRel σ' m u → Q8 P (jn P W n).2 fn.results.toList env' st'.dfs m st'.H st'.nx K = true → Leaves P fn a'.tmps R a'.defers u w' := by
     intro m u hmu hlv
     exact Qm (fn := fn) (nt := fn.ntmps) ih2 st'.dfs m st'.H st'.nx K hlv σ' w' u a'.defers a'.tmps R R1 A1.env A1.dfs hmu
      fun e2 H2 nx2 σ2 w2 en2 hk2 R2 E2 X2 => hR e2 H2 nx2 σ2 w2 en2 hk2 R2 (E1.trans E2) X2
    have fin2 : endX P (jn P W n).2 rs res K env' st' = true → Leaves P fn a'.tmps R a'.defers .returning w' := by
     intro he
     unfold endX at he
     cases hdf : st'.dfs with
     | nil =>
      rw [hdf] at he
      have he' : res env' st'.H (fun vs => K (.ret (kY vs)) st'.H st'.nx) = true := he
      rw [← hres] at he'
      obtain ⟨vs,hvs,hk2⟩ := Qp he'
      have hA := A1.dfs
      rw [hdf] at hA
      have hdn : a'.defers = [] := by cases hq : a'.defers with | nil => rfl | cons x y => rw [hq] at hA; cases hA
      rw [hdn]
      rw [hrs] at hvs
      obtain ⟨v',dv,hrun⟩ := kI (fn := fn) R1 A1.env hvs
      exact ⟨v',hrun,hR _ _ _ σ' w' _ hk2 R1 E1 dv⟩
     | cons d ds =>
      rw [hdf] at he
      have he' : Q8 P (jn P W n).2 rs env' (d :: ds) .returning st'.H st'.nx K = true := he
      rw [← hdf,hrs] at he'
      exact fin .returning .returning trivial he'
    cases ex with
    | normal => cases e <;> first | exact X1.elim | exact fin2 hk
    | ret => cases e <;> first | exact X1.elim | exact fin2 hk
    | pan l =>
     cases e <;> try exact X1.elim
     have hk' : Q8 P (jn P W n).2 rs env' st'.dfs (.panicking l) st'.H st'.nx K = true := hk
     rw [hrs] at hk'
     exact fin (.panicking l) (.panicking _) X1 hk'
    | exit i => exact Bool.noConfusion hk
  ·intro f args m H nx K h
   have h' : (match cFun P f,zF P f with
    | .yes nt code _ res,true => match Nat.ble (lenF args) nt with
     | true => code (yi args) ⟨(jn P W n).1,H,nx,[],some m⟩ (qav res K)
     | false => false
    | _,_ => false) = true := h
   split at h' <;> first | (exact Bool.noConfusion h') | skip
   rename_i nt code rs res ec hbody
   split at h' <;> first | (exact Bool.noConfusion h') | skip
   rename_i hl
   obtain ⟨fn,c,hf,hb,hnt,hn',hcode,hrs,hres⟩ := Xf ec
   have hl' : args.length ≤ nt := by have := Nat.le_of_ble_eq_true hl; rwa [ZU] at this
   refine ⟨hbody,fun σ w args' u R hr hda hmr hR => ?_⟩
   refine callsD_of_wpS hf hb fun c₀ cs hu => ?_
   have hc0 : ({ c₀ with mode := u } : Frame) = c₀ := by subst hu; rfl
   rw [← hcode] at h'
   have hEnv := yM hn' hl' hda
   rw [← J2] at hEnv
   subst hnt
   have := WC hm c (yi args) ⟨(jn P W n).1,H,nx,[],some m⟩ _ m ih1 rfl h' σ w { tmps := (⟨args'⟩ : Array Value) ++ Array.replicate (fn.ntmps - (⟨args'⟩ : Array Value).size) undef,defers := [] } u c₀ cs (bodyPostS P fn c₀ cs R) hr ⟨hEnv,.nil⟩ hmr ?_
   ·rw [hc0] at this; exact this
   ·intro ex env' st' m' σ' w' a' e u' hk hcl hrc R1 E1 A1 X1 M1
    unfold qav at hk
    have hdn : st'.dfs = [] → a'.defers = [] := fun hdf => by
     have hA := A1.dfs
     rw [hdf] at hA
     cases hq : a'.defers with
     | nil => rfl
     | cons x y => rw [hq] at hA; cases hA
    split at hk <;> first | (exact Bool.noConfusion hk) | skip
    ·rename_i m2 hdf hrc2
     rw [hrc] at hrc2
     cases hrc2
     cases e <;> try exact X1.elim
     rw [← hres] at hk
     obtain ⟨vs,hvs,hk2⟩ := Qp hk
     rw [hrs] at hvs
     obtain ⟨v',dv,hrun⟩ := kI (fn := fn) R1 A1.env hvs
     exact ⟨hdn hdf,u',rfl,v',hrun,hR _ _ _ _ σ' w' _ u' hk2 R1 E1 dv M1⟩
    ·rename_i m2 hdf hrc2
     rw [hrc] at hrc2
     cases hrc2
     cases e <;> try exact X1.elim
     rw [← hres] at hk
     obtain ⟨vs,hvs,hk2⟩ := Qp hk
     rw [hrs] at hvs
     obtain ⟨v',dv,hrun⟩ := kI (fn := fn) R1 A1.env hvs
     exact ⟨hdn hdf,u',rfl,v',hrun,hR _ _ _ _ σ' w' _ u' hk2 R1 E1 dv M1⟩
    ·rename_i l m2 hdf hrc2
     rw [hrc] at hrc2
     cases hrc2
     cases e <;> try exact X1.elim
     exact ⟨hdn hdf,u',rfl,hR _ _ _ _ σ' w' _ u' hk R1 E1 X1 M1⟩
theorem Xt {orc : Orc} (hm : P.follows .mixedOrders = true) (ho : yR P orc) (n : Nat) : jB P (Wy P orc n).1 ∧ Wx P (Wy P orc n).2 := Qj hm (WN ho) n
def wq : Orc := fun _ _ => none
theorem K5 (P : Program) : yR P wq := fun _ _ _ h => by cases h
omit [GTab] in
theorem QX (h : GTab) (hn : ∀ g,h.tab g = none) (hb : ∀ g,h.blk g = none) (σ : Sg) (w : World) : @Glob h σ w := ⟨fun g l hg => (by rw [hn g] at hg; cases hg),fun g l hg => (by rw [hb g] at hg; cases hg)⟩
end Go.Ev
end
section
namespace Go.Vs
noncomputable instance evNone : Go.Ev.GTab := { tab := fun _ => none }
inductive AVal where
 | und
 | bool (b : Bool)
 | int (k : IntKind) (n : Int)
 | str (s : List UInt8)
 | ptr (b off : Nat)
 | nilPtr
 | slice (b off len esz : Nat) (full : Bool)
 | nilSlice
 | map (b : Nat)
 | nilMap
 | func (fn : Fn) (first captured : List AVal)
 | nilFunc
 | iface (t : TypeId) (v : AVal)
 | nilIface
 | agg (cs : List AVal)
 | tuple (vs : List AVal)
 | gptr (g off : Nat)
 | gslice (g off len esz : Nat)
class GTab where
 tab : Nat → Option (List AVal)
 blk : Nat → Option Obj := fun _ => none
variable [GTab]
abbrev Sg := Nat → Option (Nat × Nat)
def txt (s : List UInt8) : ByteArray := ⟨s.toArray⟩
theorem wa (s : List UInt8) : (txt s).size = s.length := by show s.toArray.size = _; simp
theorem VT (s : List UInt8) : (txt s).data.toList = s := rfl
theorem YQ (b : ByteArray) : txt b.data.toList = b := by cases b; simp [txt]
mutual
inductive Den (σ : Sg) : AVal → Value → Prop
 | und (v : Value) : Den σ .und v
 | bool (b : Bool) : Den σ (.bool b) (.bool b)
 | int (k : IntKind) (n : Int) : Den σ (.int k n) (.int k n)
 | str (s : List UInt8) : Den σ (.str s) (.string (txt s))
 | ptr {b off cb sz : Nat} (h : σ b = some (cb,sz)) : Den σ (.ptr b off) (.pointer (some ⟨cb,off,none⟩))
 | nilPtr : Den σ .nilPtr (.pointer none)
 | slice {b off len esz cb sz cap : Nat} {full : Bool} (h : σ b = some (cb,sz)) (h1 : len ≤ cap) (h2 : off + cap * esz ≤ sz) (h3 : full = true → cap = len) :
   Den σ (.slice b off len esz full) (.slice (some ⟨cb,off,none⟩) len cap)
 | slice0 {b off off' esz cb sz : Nat} {full : Bool} (h : σ b = some (cb,sz)) : Den σ (.slice b off 0 esz full) (.slice (some ⟨cb,off',none⟩) 0 0)
 | nilSlice : Den σ .nilSlice (.slice none 0 0)
 | map {b cb sz : Nat} (h : σ b = some (cb,sz)) : Den σ (.map b) (.map (some cb))
 | nilMap : Den σ .nilMap (.map none)
 | func {fn : Fn} {a b : List AVal} {a' b' : List Value} (h1 : DenL σ a a') (h2 : DenL σ b b') : Den σ (.func fn a b) (.func fn ⟨a'⟩ ⟨b'⟩)
 | nilFunc : Den σ .nilFunc .nilFunc
 | iface {t : TypeId} {v : AVal} {v' : Value} (h : Den σ v v') : Den σ (.iface t v) (.iface t v')
 | nilIface : Den σ .nilIface .nilIface
 | agg {a : List AVal} {a' : List Value} (h : DenL σ a a') : Den σ (.agg a) (.agg ⟨a'⟩)
 | tuple {a : List AVal} {a' : List Value} (h : DenL σ a a') : Den σ (.tuple a) (.tuple ⟨a'⟩)
 | gptr (g off : Nat) : Den σ (.gptr g off) (.pointer (some ⟨g,off,none⟩))
 | gslice {g off len esz cap : Nat} (h : len ≤ cap) : Den σ (.gslice g off len esz) (.slice (some ⟨g,off,none⟩) len cap)
 | gslice0 {g off esz cap : Nat} {a : Addr} : Den σ (.gslice g off 0 esz) (.slice (some a) 0 cap)
inductive DenL (σ : Sg) : List AVal → List Value → Prop
 | nil : DenL σ [] []
 | cons {v : AVal} {v' : Value} {l : List AVal} {l' : List Value} (h : Den σ v v') (t : DenL σ l l') : DenL σ (v :: l) (v' :: l')
end
mutual
theorem Den.mono {σ σ' : Sg} (hs : ∀ b p,σ b = some p → σ' b = some p) : ∀ {v : AVal} {v' : Value},Den σ v v' → Den σ' v v'
 | _,_,.und v => .und v
 | _,_,.bool b => .bool b
 | _,_,.int k n => .int k n
 | _,_,.str s => .str s
 | _,_,.ptr h => .ptr (hs _ _ h)
 | _,_,.nilPtr => .nilPtr
 | _,_,.slice h h1 h2 h3 => .slice (hs _ _ h) h1 h2 h3
 | _,_,.slice0 h => .slice0 (hs _ _ h)
 | _,_,.nilSlice => .nilSlice
 | _,_,.map h => .map (hs _ _ h)
 | _,_,.nilMap => .nilMap
 | _,_,.func h1 h2 => .func (DenL.mono hs h1) (DenL.mono hs h2)
 | _,_,.nilFunc => .nilFunc
 | _,_,.iface h => .iface (Den.mono hs h)
 | _,_,.nilIface => .nilIface
 | _,_,.agg h => .agg (DenL.mono hs h)
 | _,_,.tuple h => .tuple (DenL.mono hs h)
 | _,_,.gptr g off => .gptr g off
 | _,_,.gslice h => .gslice h
 | _,_,.gslice0 => .gslice0
theorem DenL.mono {σ σ' : Sg} (hs : ∀ b p,σ b = some p → σ' b = some p) : ∀ {v : List AVal} {v' : List Value},DenL σ v v' → DenL σ' v v'
 | _,_,.nil => .nil
 | _,_,.cons h t => .cons (Den.mono hs h) (DenL.mono hs t)
end
theorem DenL.length {σ : Sg} : ∀ {l : List AVal} {l' : List Value},DenL σ l l' → l.length = l'.length
 | _,_,.nil => rfl
 | _,_,.cons _ t => by simp [DenL.length t]
theorem DenL.append {σ : Sg} : ∀ {l : List AVal} {l' : List Value} {m : List AVal} {m' : List Value},DenL σ l l' → DenL σ m m' → DenL σ (l ++ m) (l' ++ m')
 | _,_,_,_,.nil,h => h
 | _,_,_,_,.cons h t,h' => .cons h (DenL.append t h')
theorem DenL.get {σ : Sg} : ∀ {l : List AVal} {l' : List Value},DenL σ l l' → ∀ (i : Nat) (v : AVal),l[i]? = some v → ∃ v',l'[i]? = some v' ∧ Den σ v v'
 | _,_,.nil,i,v,h => by simp at h
 | _,_,.cons h t,0,v,e => by simp at e; subst e; exact ⟨_,by simp,h⟩
 | _,_,.cons h t,i + 1,v,e => by simp at e; simpa using DenL.get t i v e
theorem DenL.drop {σ : Sg} : ∀ {l : List AVal} {l' : List Value},DenL σ l l' → ∀ n,DenL σ (l.drop n) (l'.drop n)
 | _,_,.nil,n => by simp; exact .nil
 | _,_,.cons h t,0 => .cons h t
 | _,_,.cons h t,n + 1 => by simpa using DenL.drop t n
theorem DenL.take {σ : Sg} : ∀ {l : List AVal} {l' : List Value},DenL σ l l' → ∀ n,DenL σ (l.take n) (l'.take n)
 | _,_,.nil,n => by simp; exact .nil
 | _,_,.cons h t,0 => by simp; exact .nil
 | _,_,.cons h t,n + 1 => by simpa using DenL.cons h (DenL.take t n)
theorem DenL.of_get {σ : Sg} : ∀ {l : List AVal} {l' : List Value},l.length = l'.length → (∀ (i : Nat) (v : AVal) (v' : Value),l[i]? = some v → l'[i]? = some v' → Den σ v v') → DenL σ l l'
 | [],[],_,_ => .nil
 | [],_ :: _,h,_ => by simp at h
 | _ :: _,[],h,_ => by simp at h
 | _ :: l,_ :: l',h,hh => .cons (hh 0 _ _ (by simp) (by simp)) (DenL.of_get (by simpa using h) fun i v v' e e' => hh (i + 1) v v' (by simpa using e) (by simpa using e'))
abbrev CT := List AVal
namespace CT
def cap (c : CT) : Nat := c.length
def get (i : Nat) (c : CT) : AVal := c.getD i .und
def set (i : Nat) (v : AVal) (c : CT) : CT := List.set c i v
theorem wV (i : Nat) (v : AVal) (c : CT) : (set i v c).cap = c.cap := by simp [set,cap]
theorem get_set_same (i : Nat) (v : AVal) (c : CT) (h : i < c.cap) : get i (set i v c) = v := by
 simp only [cap] at h
 simp [get,set,List.getD,h]
theorem get_set_ne (i j : Nat) (v : AVal) (c : CT) (h : i ≠ j) : get j (set i v c) = get j c := by
 simp [get,set,List.getD,List.getElem?_set_ne h]
def ofL (n : Nat) (l : List AVal) : CT := l ++ List.replicate (n - l.length) .und
theorem ofL_cap (n : Nat) (l : List AVal) {lim : Nat} (_h : n ≤ lim) : n ≤ (ofL n l).cap := by simp [ofL,cap]; omega
theorem get_ofL (n : Nat) (l : List AVal) (i : Nat) {lim : Nat} (_h : n ≤ lim) (_hi : i < n) : get i (ofL n l) = l.getD i .und := by
 simp only [ofL,get,List.getD]
 by_cases h : i < l.length
 ·rw [List.getElem?_append_left h]
 ·rw [List.getElem?_append_right (by omega),List.getElem?_eq_none (by omega : l.length ≤ i),List.getElem?_replicate]
  split <;> rfl
theorem ofL_eq {n : Nat} {l : List AVal} (h : l.length = n) : ofL n l = l := by subst h; simp [ofL]
def slab (c : CT) (n i : Nat) : List AVal := (List.range n).map fun j => get (i + j) c
theorem slab_length (c : CT) (n i : Nat) : (slab c n i).length = n := by simp [slab]
theorem slab_get (c : CT) (n i j : Nat) (hj : j < n) : (slab c n i)[j]? = some (get (i + j) c) := by simp [slab,hj]
theorem slab_eq {c : CT} {n i : Nat} (h : i + n ≤ c.length) : slab c n i = (c.drop i).take n := by
 refine List.ext_getElem? fun j => ?_
 by_cases hj : j < n
 ·rw [slab_get c n i j hj,List.getElem?_take_of_lt hj,List.getElem?_drop]
  simp [get,List.getElem?_eq_getElem (show i + j < c.length by omega)]
 ·rw [List.getElem?_eq_none (by rw [slab_length]; omega),List.getElem?_eq_none (by simp; omega)]
def lay (l : List AVal) (i : Nat) (c : CT) : CT := match l with
 | [] => c
 | v :: l => lay l (i + 1) (set i v c)
theorem wE (v : AVal) (l : List AVal) (i : Nat) (c : CT) : lay (v :: l) i c = lay l (i + 1) (set i v c) := rfl
theorem lay_cap : ∀ (l : List AVal) (i : Nat) (c : CT),(lay l i c).cap = c.cap
 | [],_,_ => rfl
 | v :: l,i,c => by rw [wE,lay_cap l,wV]
theorem lay_get : ∀ (l : List AVal) (i : Nat) (c : CT) (j : Nat),i + l.length ≤ c.cap → j < c.cap →
  get j (lay l i c) = if i ≤ j ∧ j < i + l.length then l.getD (j - i) .und else get j c
 | [],i,c,j,_,_ => by
  have : ¬ (i ≤ j ∧ j < i + ([] : List AVal).length) := by simp
  rw [if_neg this]; rfl
 | v :: l,i,c,j,h,hj => by
  simp only [List.length_cons] at h
  rw [wE,lay_get l (i + 1) (set i v c) j (by rw [wV]; omega) (by rw [wV]; exact hj)]
  by_cases h1 : i = j
  ·subst h1
   rw [if_neg (by omega),get_set_same _ _ _ (by omega),if_pos (by simp)]
   simp
  ·by_cases h2 : i + 1 ≤ j ∧ j < i + 1 + l.length
   ·rw [if_pos h2,if_pos (by simp; omega)]
    have e : j - i = (j - (i + 1)) + 1 := by omega
    rw [e]; simp
   ·rw [if_neg h2,get_set_ne _ _ _ _ h1,if_neg (by simp; omega)]
theorem lay_eq : ∀ {l : List AVal} {i : Nat} {c : CT},i + l.length ≤ c.length → lay l i c = c.take i ++ l ++ c.drop (i + l.length)
 | [],i,c,_ => by simp [lay]
 | v :: l,i,c,h => by
  simp only [List.length_cons] at h
  rw [wE,lay_eq (by simp [set]; omega)]
  have e1 : (set i v c).take (i + 1) = c.take i ++ [v] := by
   simp only [set]
   rw [List.take_add_one,List.take_set_of_le (by omega)]
   simp [show i < c.length by omega]
  have e2 : (set i v c).drop (i + 1 + l.length) = c.drop (i + 1 + l.length) := by
   simp only [set]; rw [List.drop_set_of_lt (by omega)]
  rw [e1,e2]
  simp [Nat.add_assoc,Nat.add_comm 1]
def widen (n : Nat) (c : CT) : CT := c ++ List.replicate (n - c.length) .und
theorem widen_cap (n : Nat) (c : CT) {lim : Nat} (_h : n ≤ lim) : n ≤ (widen n c).cap := by simp [widen,cap]; omega
theorem widen_get (n : Nat) (c : CT) (i : Nat) (_hi : i < c.cap) : get i (widen n c) = get i c := by
 simp only [widen,get,List.getD]
 by_cases h : i < c.length
 ·rw [List.getElem?_append_left h]
 ·rw [List.getElem?_append_right (by omega),List.getElem?_eq_none (by omega : c.length ≤ i),List.getElem?_replicate]
  split <;> rfl
end CT
end Go.Vs
end
