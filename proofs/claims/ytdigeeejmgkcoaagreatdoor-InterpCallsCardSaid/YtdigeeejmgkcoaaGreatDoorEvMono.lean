/-
  Own work. The tables once more, at the types that are used: every branch is a closed term. Written by program (genMono.py).
-/
import Derived.Test.YtdigeeejmgkcoaaGreatDoorEvEval
namespace Go.Ev
variable [GTab]
set_option linter.unusedSectionVars false
noncomputable section

abbrev OObj := Option AObj

def sA1_0 (v : AVal) (e : N16 AVal) : N16 AVal := N16.rec (α := AVal) (motive := fun _ => AVal → N16 AVal) (fun _ a1 a2 a3 a4 a5 a6 a7 a8 a9 a10 a11 a12 a13 a14 a15 v => N16.mk v a1 a2 a3 a4 a5 a6 a7 a8 a9 a10 a11 a12 a13 a14 a15) e v
def sA1_1 (v : AVal) (e : N16 AVal) : N16 AVal := N16.rec (α := AVal) (motive := fun _ => AVal → N16 AVal) (fun a0 _ a2 a3 a4 a5 a6 a7 a8 a9 a10 a11 a12 a13 a14 a15 v => N16.mk a0 v a2 a3 a4 a5 a6 a7 a8 a9 a10 a11 a12 a13 a14 a15) e v
def sA1_2 (v : AVal) (e : N16 AVal) : N16 AVal := N16.rec (α := AVal) (motive := fun _ => AVal → N16 AVal) (fun a0 a1 _ a3 a4 a5 a6 a7 a8 a9 a10 a11 a12 a13 a14 a15 v => N16.mk a0 a1 v a3 a4 a5 a6 a7 a8 a9 a10 a11 a12 a13 a14 a15) e v
def sA1_3 (v : AVal) (e : N16 AVal) : N16 AVal := N16.rec (α := AVal) (motive := fun _ => AVal → N16 AVal) (fun a0 a1 a2 _ a4 a5 a6 a7 a8 a9 a10 a11 a12 a13 a14 a15 v => N16.mk a0 a1 a2 v a4 a5 a6 a7 a8 a9 a10 a11 a12 a13 a14 a15) e v
def sA1_4 (v : AVal) (e : N16 AVal) : N16 AVal := N16.rec (α := AVal) (motive := fun _ => AVal → N16 AVal) (fun a0 a1 a2 a3 _ a5 a6 a7 a8 a9 a10 a11 a12 a13 a14 a15 v => N16.mk a0 a1 a2 a3 v a5 a6 a7 a8 a9 a10 a11 a12 a13 a14 a15) e v
def sA1_5 (v : AVal) (e : N16 AVal) : N16 AVal := N16.rec (α := AVal) (motive := fun _ => AVal → N16 AVal) (fun a0 a1 a2 a3 a4 _ a6 a7 a8 a9 a10 a11 a12 a13 a14 a15 v => N16.mk a0 a1 a2 a3 a4 v a6 a7 a8 a9 a10 a11 a12 a13 a14 a15) e v
def sA1_6 (v : AVal) (e : N16 AVal) : N16 AVal := N16.rec (α := AVal) (motive := fun _ => AVal → N16 AVal) (fun a0 a1 a2 a3 a4 a5 _ a7 a8 a9 a10 a11 a12 a13 a14 a15 v => N16.mk a0 a1 a2 a3 a4 a5 v a7 a8 a9 a10 a11 a12 a13 a14 a15) e v
def sA1_7 (v : AVal) (e : N16 AVal) : N16 AVal := N16.rec (α := AVal) (motive := fun _ => AVal → N16 AVal) (fun a0 a1 a2 a3 a4 a5 a6 _ a8 a9 a10 a11 a12 a13 a14 a15 v => N16.mk a0 a1 a2 a3 a4 a5 a6 v a8 a9 a10 a11 a12 a13 a14 a15) e v
def sA1_8 (v : AVal) (e : N16 AVal) : N16 AVal := N16.rec (α := AVal) (motive := fun _ => AVal → N16 AVal) (fun a0 a1 a2 a3 a4 a5 a6 a7 _ a9 a10 a11 a12 a13 a14 a15 v => N16.mk a0 a1 a2 a3 a4 a5 a6 a7 v a9 a10 a11 a12 a13 a14 a15) e v
def sA1_9 (v : AVal) (e : N16 AVal) : N16 AVal := N16.rec (α := AVal) (motive := fun _ => AVal → N16 AVal) (fun a0 a1 a2 a3 a4 a5 a6 a7 a8 _ a10 a11 a12 a13 a14 a15 v => N16.mk a0 a1 a2 a3 a4 a5 a6 a7 a8 v a10 a11 a12 a13 a14 a15) e v
def sA1_10 (v : AVal) (e : N16 AVal) : N16 AVal := N16.rec (α := AVal) (motive := fun _ => AVal → N16 AVal) (fun a0 a1 a2 a3 a4 a5 a6 a7 a8 a9 _ a11 a12 a13 a14 a15 v => N16.mk a0 a1 a2 a3 a4 a5 a6 a7 a8 a9 v a11 a12 a13 a14 a15) e v
def sA1_11 (v : AVal) (e : N16 AVal) : N16 AVal := N16.rec (α := AVal) (motive := fun _ => AVal → N16 AVal) (fun a0 a1 a2 a3 a4 a5 a6 a7 a8 a9 a10 _ a12 a13 a14 a15 v => N16.mk a0 a1 a2 a3 a4 a5 a6 a7 a8 a9 a10 v a12 a13 a14 a15) e v
def sA1_12 (v : AVal) (e : N16 AVal) : N16 AVal := N16.rec (α := AVal) (motive := fun _ => AVal → N16 AVal) (fun a0 a1 a2 a3 a4 a5 a6 a7 a8 a9 a10 a11 _ a13 a14 a15 v => N16.mk a0 a1 a2 a3 a4 a5 a6 a7 a8 a9 a10 a11 v a13 a14 a15) e v
def sA1_13 (v : AVal) (e : N16 AVal) : N16 AVal := N16.rec (α := AVal) (motive := fun _ => AVal → N16 AVal) (fun a0 a1 a2 a3 a4 a5 a6 a7 a8 a9 a10 a11 a12 _ a14 a15 v => N16.mk a0 a1 a2 a3 a4 a5 a6 a7 a8 a9 a10 a11 a12 v a14 a15) e v
def sA1_14 (v : AVal) (e : N16 AVal) : N16 AVal := N16.rec (α := AVal) (motive := fun _ => AVal → N16 AVal) (fun a0 a1 a2 a3 a4 a5 a6 a7 a8 a9 a10 a11 a12 a13 _ a15 v => N16.mk a0 a1 a2 a3 a4 a5 a6 a7 a8 a9 a10 a11 a12 a13 v a15) e v
def sA1_15 (v : AVal) (e : N16 AVal) : N16 AVal := N16.rec (α := AVal) (motive := fun _ => AVal → N16 AVal) (fun a0 a1 a2 a3 a4 a5 a6 a7 a8 a9 a10 a11 a12 a13 a14 _ v => N16.mk a0 a1 a2 a3 a4 a5 a6 a7 a8 a9 a10 a11 a12 a13 a14 v) e v
def gA1 (i : Ix) : N16 AVal → AVal := Ix.rec (motive := fun _ => N16 AVal → AVal) N16.f0 N16.f1 N16.f2 N16.f3 N16.f4 N16.f5 N16.f6 N16.f7 N16.f8 N16.f9 N16.f10 N16.f11 N16.f12 N16.f13 N16.f14 N16.f15 i
def sA1 (i : Ix) : AVal → N16 AVal → N16 AVal := Ix.rec (motive := fun _ => AVal → N16 AVal → N16 AVal) sA1_0 sA1_1 sA1_2 sA1_3 sA1_4 sA1_5 sA1_6 sA1_7 sA1_8 sA1_9 sA1_10 sA1_11 sA1_12 sA1_13 sA1_14 sA1_15 i
theorem gA1_eq (i : Ix) (e : N16 AVal) : gA1 i e = N16.get i e := by cases i <;> rfl
theorem sA1_eq (i : Ix) (v : AVal) (e : N16 AVal) : sA1 i v e = N16.set i v e := by cases i <;> rfl
def sA2_0 (v : N16 AVal) (e : T2 AVal) : T2 AVal := N16.rec (α := N16 AVal) (motive := fun _ => N16 AVal → T2 AVal) (fun _ a1 a2 a3 a4 a5 a6 a7 a8 a9 a10 a11 a12 a13 a14 a15 v => N16.mk v a1 a2 a3 a4 a5 a6 a7 a8 a9 a10 a11 a12 a13 a14 a15) e v
def sA2_1 (v : N16 AVal) (e : T2 AVal) : T2 AVal := N16.rec (α := N16 AVal) (motive := fun _ => N16 AVal → T2 AVal) (fun a0 _ a2 a3 a4 a5 a6 a7 a8 a9 a10 a11 a12 a13 a14 a15 v => N16.mk a0 v a2 a3 a4 a5 a6 a7 a8 a9 a10 a11 a12 a13 a14 a15) e v
def sA2_2 (v : N16 AVal) (e : T2 AVal) : T2 AVal := N16.rec (α := N16 AVal) (motive := fun _ => N16 AVal → T2 AVal) (fun a0 a1 _ a3 a4 a5 a6 a7 a8 a9 a10 a11 a12 a13 a14 a15 v => N16.mk a0 a1 v a3 a4 a5 a6 a7 a8 a9 a10 a11 a12 a13 a14 a15) e v
def sA2_3 (v : N16 AVal) (e : T2 AVal) : T2 AVal := N16.rec (α := N16 AVal) (motive := fun _ => N16 AVal → T2 AVal) (fun a0 a1 a2 _ a4 a5 a6 a7 a8 a9 a10 a11 a12 a13 a14 a15 v => N16.mk a0 a1 a2 v a4 a5 a6 a7 a8 a9 a10 a11 a12 a13 a14 a15) e v
def sA2_4 (v : N16 AVal) (e : T2 AVal) : T2 AVal := N16.rec (α := N16 AVal) (motive := fun _ => N16 AVal → T2 AVal) (fun a0 a1 a2 a3 _ a5 a6 a7 a8 a9 a10 a11 a12 a13 a14 a15 v => N16.mk a0 a1 a2 a3 v a5 a6 a7 a8 a9 a10 a11 a12 a13 a14 a15) e v
def sA2_5 (v : N16 AVal) (e : T2 AVal) : T2 AVal := N16.rec (α := N16 AVal) (motive := fun _ => N16 AVal → T2 AVal) (fun a0 a1 a2 a3 a4 _ a6 a7 a8 a9 a10 a11 a12 a13 a14 a15 v => N16.mk a0 a1 a2 a3 a4 v a6 a7 a8 a9 a10 a11 a12 a13 a14 a15) e v
def sA2_6 (v : N16 AVal) (e : T2 AVal) : T2 AVal := N16.rec (α := N16 AVal) (motive := fun _ => N16 AVal → T2 AVal) (fun a0 a1 a2 a3 a4 a5 _ a7 a8 a9 a10 a11 a12 a13 a14 a15 v => N16.mk a0 a1 a2 a3 a4 a5 v a7 a8 a9 a10 a11 a12 a13 a14 a15) e v
def sA2_7 (v : N16 AVal) (e : T2 AVal) : T2 AVal := N16.rec (α := N16 AVal) (motive := fun _ => N16 AVal → T2 AVal) (fun a0 a1 a2 a3 a4 a5 a6 _ a8 a9 a10 a11 a12 a13 a14 a15 v => N16.mk a0 a1 a2 a3 a4 a5 a6 v a8 a9 a10 a11 a12 a13 a14 a15) e v
def sA2_8 (v : N16 AVal) (e : T2 AVal) : T2 AVal := N16.rec (α := N16 AVal) (motive := fun _ => N16 AVal → T2 AVal) (fun a0 a1 a2 a3 a4 a5 a6 a7 _ a9 a10 a11 a12 a13 a14 a15 v => N16.mk a0 a1 a2 a3 a4 a5 a6 a7 v a9 a10 a11 a12 a13 a14 a15) e v
def sA2_9 (v : N16 AVal) (e : T2 AVal) : T2 AVal := N16.rec (α := N16 AVal) (motive := fun _ => N16 AVal → T2 AVal) (fun a0 a1 a2 a3 a4 a5 a6 a7 a8 _ a10 a11 a12 a13 a14 a15 v => N16.mk a0 a1 a2 a3 a4 a5 a6 a7 a8 v a10 a11 a12 a13 a14 a15) e v
def sA2_10 (v : N16 AVal) (e : T2 AVal) : T2 AVal := N16.rec (α := N16 AVal) (motive := fun _ => N16 AVal → T2 AVal) (fun a0 a1 a2 a3 a4 a5 a6 a7 a8 a9 _ a11 a12 a13 a14 a15 v => N16.mk a0 a1 a2 a3 a4 a5 a6 a7 a8 a9 v a11 a12 a13 a14 a15) e v
def sA2_11 (v : N16 AVal) (e : T2 AVal) : T2 AVal := N16.rec (α := N16 AVal) (motive := fun _ => N16 AVal → T2 AVal) (fun a0 a1 a2 a3 a4 a5 a6 a7 a8 a9 a10 _ a12 a13 a14 a15 v => N16.mk a0 a1 a2 a3 a4 a5 a6 a7 a8 a9 a10 v a12 a13 a14 a15) e v
def sA2_12 (v : N16 AVal) (e : T2 AVal) : T2 AVal := N16.rec (α := N16 AVal) (motive := fun _ => N16 AVal → T2 AVal) (fun a0 a1 a2 a3 a4 a5 a6 a7 a8 a9 a10 a11 _ a13 a14 a15 v => N16.mk a0 a1 a2 a3 a4 a5 a6 a7 a8 a9 a10 a11 v a13 a14 a15) e v
def sA2_13 (v : N16 AVal) (e : T2 AVal) : T2 AVal := N16.rec (α := N16 AVal) (motive := fun _ => N16 AVal → T2 AVal) (fun a0 a1 a2 a3 a4 a5 a6 a7 a8 a9 a10 a11 a12 _ a14 a15 v => N16.mk a0 a1 a2 a3 a4 a5 a6 a7 a8 a9 a10 a11 a12 v a14 a15) e v
def sA2_14 (v : N16 AVal) (e : T2 AVal) : T2 AVal := N16.rec (α := N16 AVal) (motive := fun _ => N16 AVal → T2 AVal) (fun a0 a1 a2 a3 a4 a5 a6 a7 a8 a9 a10 a11 a12 a13 _ a15 v => N16.mk a0 a1 a2 a3 a4 a5 a6 a7 a8 a9 a10 a11 a12 a13 v a15) e v
def sA2_15 (v : N16 AVal) (e : T2 AVal) : T2 AVal := N16.rec (α := N16 AVal) (motive := fun _ => N16 AVal → T2 AVal) (fun a0 a1 a2 a3 a4 a5 a6 a7 a8 a9 a10 a11 a12 a13 a14 _ v => N16.mk a0 a1 a2 a3 a4 a5 a6 a7 a8 a9 a10 a11 a12 a13 a14 v) e v
def gA2 (i : Ix) : T2 AVal → N16 AVal := Ix.rec (motive := fun _ => T2 AVal → N16 AVal) N16.f0 N16.f1 N16.f2 N16.f3 N16.f4 N16.f5 N16.f6 N16.f7 N16.f8 N16.f9 N16.f10 N16.f11 N16.f12 N16.f13 N16.f14 N16.f15 i
def sA2 (i : Ix) : N16 AVal → T2 AVal → T2 AVal := Ix.rec (motive := fun _ => N16 AVal → T2 AVal → T2 AVal) sA2_0 sA2_1 sA2_2 sA2_3 sA2_4 sA2_5 sA2_6 sA2_7 sA2_8 sA2_9 sA2_10 sA2_11 sA2_12 sA2_13 sA2_14 sA2_15 i
theorem gA2_eq (i : Ix) (e : T2 AVal) : gA2 i e = N16.get i e := by cases i <;> rfl
theorem sA2_eq (i : Ix) (v : N16 AVal) (e : T2 AVal) : sA2 i v e = N16.set i v e := by cases i <;> rfl
def sA3_0 (v : T2 AVal) (e : T3 AVal) : T3 AVal := N16.rec (α := T2 AVal) (motive := fun _ => T2 AVal → T3 AVal) (fun _ a1 a2 a3 a4 a5 a6 a7 a8 a9 a10 a11 a12 a13 a14 a15 v => N16.mk v a1 a2 a3 a4 a5 a6 a7 a8 a9 a10 a11 a12 a13 a14 a15) e v
def sA3_1 (v : T2 AVal) (e : T3 AVal) : T3 AVal := N16.rec (α := T2 AVal) (motive := fun _ => T2 AVal → T3 AVal) (fun a0 _ a2 a3 a4 a5 a6 a7 a8 a9 a10 a11 a12 a13 a14 a15 v => N16.mk a0 v a2 a3 a4 a5 a6 a7 a8 a9 a10 a11 a12 a13 a14 a15) e v
def sA3_2 (v : T2 AVal) (e : T3 AVal) : T3 AVal := N16.rec (α := T2 AVal) (motive := fun _ => T2 AVal → T3 AVal) (fun a0 a1 _ a3 a4 a5 a6 a7 a8 a9 a10 a11 a12 a13 a14 a15 v => N16.mk a0 a1 v a3 a4 a5 a6 a7 a8 a9 a10 a11 a12 a13 a14 a15) e v
def sA3_3 (v : T2 AVal) (e : T3 AVal) : T3 AVal := N16.rec (α := T2 AVal) (motive := fun _ => T2 AVal → T3 AVal) (fun a0 a1 a2 _ a4 a5 a6 a7 a8 a9 a10 a11 a12 a13 a14 a15 v => N16.mk a0 a1 a2 v a4 a5 a6 a7 a8 a9 a10 a11 a12 a13 a14 a15) e v
def sA3_4 (v : T2 AVal) (e : T3 AVal) : T3 AVal := N16.rec (α := T2 AVal) (motive := fun _ => T2 AVal → T3 AVal) (fun a0 a1 a2 a3 _ a5 a6 a7 a8 a9 a10 a11 a12 a13 a14 a15 v => N16.mk a0 a1 a2 a3 v a5 a6 a7 a8 a9 a10 a11 a12 a13 a14 a15) e v
def sA3_5 (v : T2 AVal) (e : T3 AVal) : T3 AVal := N16.rec (α := T2 AVal) (motive := fun _ => T2 AVal → T3 AVal) (fun a0 a1 a2 a3 a4 _ a6 a7 a8 a9 a10 a11 a12 a13 a14 a15 v => N16.mk a0 a1 a2 a3 a4 v a6 a7 a8 a9 a10 a11 a12 a13 a14 a15) e v
def sA3_6 (v : T2 AVal) (e : T3 AVal) : T3 AVal := N16.rec (α := T2 AVal) (motive := fun _ => T2 AVal → T3 AVal) (fun a0 a1 a2 a3 a4 a5 _ a7 a8 a9 a10 a11 a12 a13 a14 a15 v => N16.mk a0 a1 a2 a3 a4 a5 v a7 a8 a9 a10 a11 a12 a13 a14 a15) e v
def sA3_7 (v : T2 AVal) (e : T3 AVal) : T3 AVal := N16.rec (α := T2 AVal) (motive := fun _ => T2 AVal → T3 AVal) (fun a0 a1 a2 a3 a4 a5 a6 _ a8 a9 a10 a11 a12 a13 a14 a15 v => N16.mk a0 a1 a2 a3 a4 a5 a6 v a8 a9 a10 a11 a12 a13 a14 a15) e v
def sA3_8 (v : T2 AVal) (e : T3 AVal) : T3 AVal := N16.rec (α := T2 AVal) (motive := fun _ => T2 AVal → T3 AVal) (fun a0 a1 a2 a3 a4 a5 a6 a7 _ a9 a10 a11 a12 a13 a14 a15 v => N16.mk a0 a1 a2 a3 a4 a5 a6 a7 v a9 a10 a11 a12 a13 a14 a15) e v
def sA3_9 (v : T2 AVal) (e : T3 AVal) : T3 AVal := N16.rec (α := T2 AVal) (motive := fun _ => T2 AVal → T3 AVal) (fun a0 a1 a2 a3 a4 a5 a6 a7 a8 _ a10 a11 a12 a13 a14 a15 v => N16.mk a0 a1 a2 a3 a4 a5 a6 a7 a8 v a10 a11 a12 a13 a14 a15) e v
def sA3_10 (v : T2 AVal) (e : T3 AVal) : T3 AVal := N16.rec (α := T2 AVal) (motive := fun _ => T2 AVal → T3 AVal) (fun a0 a1 a2 a3 a4 a5 a6 a7 a8 a9 _ a11 a12 a13 a14 a15 v => N16.mk a0 a1 a2 a3 a4 a5 a6 a7 a8 a9 v a11 a12 a13 a14 a15) e v
def sA3_11 (v : T2 AVal) (e : T3 AVal) : T3 AVal := N16.rec (α := T2 AVal) (motive := fun _ => T2 AVal → T3 AVal) (fun a0 a1 a2 a3 a4 a5 a6 a7 a8 a9 a10 _ a12 a13 a14 a15 v => N16.mk a0 a1 a2 a3 a4 a5 a6 a7 a8 a9 a10 v a12 a13 a14 a15) e v
def sA3_12 (v : T2 AVal) (e : T3 AVal) : T3 AVal := N16.rec (α := T2 AVal) (motive := fun _ => T2 AVal → T3 AVal) (fun a0 a1 a2 a3 a4 a5 a6 a7 a8 a9 a10 a11 _ a13 a14 a15 v => N16.mk a0 a1 a2 a3 a4 a5 a6 a7 a8 a9 a10 a11 v a13 a14 a15) e v
def sA3_13 (v : T2 AVal) (e : T3 AVal) : T3 AVal := N16.rec (α := T2 AVal) (motive := fun _ => T2 AVal → T3 AVal) (fun a0 a1 a2 a3 a4 a5 a6 a7 a8 a9 a10 a11 a12 _ a14 a15 v => N16.mk a0 a1 a2 a3 a4 a5 a6 a7 a8 a9 a10 a11 a12 v a14 a15) e v
def sA3_14 (v : T2 AVal) (e : T3 AVal) : T3 AVal := N16.rec (α := T2 AVal) (motive := fun _ => T2 AVal → T3 AVal) (fun a0 a1 a2 a3 a4 a5 a6 a7 a8 a9 a10 a11 a12 a13 _ a15 v => N16.mk a0 a1 a2 a3 a4 a5 a6 a7 a8 a9 a10 a11 a12 a13 v a15) e v
def sA3_15 (v : T2 AVal) (e : T3 AVal) : T3 AVal := N16.rec (α := T2 AVal) (motive := fun _ => T2 AVal → T3 AVal) (fun a0 a1 a2 a3 a4 a5 a6 a7 a8 a9 a10 a11 a12 a13 a14 _ v => N16.mk a0 a1 a2 a3 a4 a5 a6 a7 a8 a9 a10 a11 a12 a13 a14 v) e v
def gA3 (i : Ix) : T3 AVal → T2 AVal := Ix.rec (motive := fun _ => T3 AVal → T2 AVal) N16.f0 N16.f1 N16.f2 N16.f3 N16.f4 N16.f5 N16.f6 N16.f7 N16.f8 N16.f9 N16.f10 N16.f11 N16.f12 N16.f13 N16.f14 N16.f15 i
def sA3 (i : Ix) : T2 AVal → T3 AVal → T3 AVal := Ix.rec (motive := fun _ => T2 AVal → T3 AVal → T3 AVal) sA3_0 sA3_1 sA3_2 sA3_3 sA3_4 sA3_5 sA3_6 sA3_7 sA3_8 sA3_9 sA3_10 sA3_11 sA3_12 sA3_13 sA3_14 sA3_15 i
theorem gA3_eq (i : Ix) (e : T3 AVal) : gA3 i e = N16.get i e := by cases i <;> rfl
theorem sA3_eq (i : Ix) (v : T2 AVal) (e : T3 AVal) : sA3 i v e = N16.set i v e := by cases i <;> rfl
def sH1_0 (v : OObj) (e : N16 OObj) : N16 OObj := N16.rec (α := OObj) (motive := fun _ => OObj → N16 OObj) (fun _ a1 a2 a3 a4 a5 a6 a7 a8 a9 a10 a11 a12 a13 a14 a15 v => N16.mk v a1 a2 a3 a4 a5 a6 a7 a8 a9 a10 a11 a12 a13 a14 a15) e v
def sH1_1 (v : OObj) (e : N16 OObj) : N16 OObj := N16.rec (α := OObj) (motive := fun _ => OObj → N16 OObj) (fun a0 _ a2 a3 a4 a5 a6 a7 a8 a9 a10 a11 a12 a13 a14 a15 v => N16.mk a0 v a2 a3 a4 a5 a6 a7 a8 a9 a10 a11 a12 a13 a14 a15) e v
def sH1_2 (v : OObj) (e : N16 OObj) : N16 OObj := N16.rec (α := OObj) (motive := fun _ => OObj → N16 OObj) (fun a0 a1 _ a3 a4 a5 a6 a7 a8 a9 a10 a11 a12 a13 a14 a15 v => N16.mk a0 a1 v a3 a4 a5 a6 a7 a8 a9 a10 a11 a12 a13 a14 a15) e v
def sH1_3 (v : OObj) (e : N16 OObj) : N16 OObj := N16.rec (α := OObj) (motive := fun _ => OObj → N16 OObj) (fun a0 a1 a2 _ a4 a5 a6 a7 a8 a9 a10 a11 a12 a13 a14 a15 v => N16.mk a0 a1 a2 v a4 a5 a6 a7 a8 a9 a10 a11 a12 a13 a14 a15) e v
def sH1_4 (v : OObj) (e : N16 OObj) : N16 OObj := N16.rec (α := OObj) (motive := fun _ => OObj → N16 OObj) (fun a0 a1 a2 a3 _ a5 a6 a7 a8 a9 a10 a11 a12 a13 a14 a15 v => N16.mk a0 a1 a2 a3 v a5 a6 a7 a8 a9 a10 a11 a12 a13 a14 a15) e v
def sH1_5 (v : OObj) (e : N16 OObj) : N16 OObj := N16.rec (α := OObj) (motive := fun _ => OObj → N16 OObj) (fun a0 a1 a2 a3 a4 _ a6 a7 a8 a9 a10 a11 a12 a13 a14 a15 v => N16.mk a0 a1 a2 a3 a4 v a6 a7 a8 a9 a10 a11 a12 a13 a14 a15) e v
def sH1_6 (v : OObj) (e : N16 OObj) : N16 OObj := N16.rec (α := OObj) (motive := fun _ => OObj → N16 OObj) (fun a0 a1 a2 a3 a4 a5 _ a7 a8 a9 a10 a11 a12 a13 a14 a15 v => N16.mk a0 a1 a2 a3 a4 a5 v a7 a8 a9 a10 a11 a12 a13 a14 a15) e v
def sH1_7 (v : OObj) (e : N16 OObj) : N16 OObj := N16.rec (α := OObj) (motive := fun _ => OObj → N16 OObj) (fun a0 a1 a2 a3 a4 a5 a6 _ a8 a9 a10 a11 a12 a13 a14 a15 v => N16.mk a0 a1 a2 a3 a4 a5 a6 v a8 a9 a10 a11 a12 a13 a14 a15) e v
def sH1_8 (v : OObj) (e : N16 OObj) : N16 OObj := N16.rec (α := OObj) (motive := fun _ => OObj → N16 OObj) (fun a0 a1 a2 a3 a4 a5 a6 a7 _ a9 a10 a11 a12 a13 a14 a15 v => N16.mk a0 a1 a2 a3 a4 a5 a6 a7 v a9 a10 a11 a12 a13 a14 a15) e v
def sH1_9 (v : OObj) (e : N16 OObj) : N16 OObj := N16.rec (α := OObj) (motive := fun _ => OObj → N16 OObj) (fun a0 a1 a2 a3 a4 a5 a6 a7 a8 _ a10 a11 a12 a13 a14 a15 v => N16.mk a0 a1 a2 a3 a4 a5 a6 a7 a8 v a10 a11 a12 a13 a14 a15) e v
def sH1_10 (v : OObj) (e : N16 OObj) : N16 OObj := N16.rec (α := OObj) (motive := fun _ => OObj → N16 OObj) (fun a0 a1 a2 a3 a4 a5 a6 a7 a8 a9 _ a11 a12 a13 a14 a15 v => N16.mk a0 a1 a2 a3 a4 a5 a6 a7 a8 a9 v a11 a12 a13 a14 a15) e v
def sH1_11 (v : OObj) (e : N16 OObj) : N16 OObj := N16.rec (α := OObj) (motive := fun _ => OObj → N16 OObj) (fun a0 a1 a2 a3 a4 a5 a6 a7 a8 a9 a10 _ a12 a13 a14 a15 v => N16.mk a0 a1 a2 a3 a4 a5 a6 a7 a8 a9 a10 v a12 a13 a14 a15) e v
def sH1_12 (v : OObj) (e : N16 OObj) : N16 OObj := N16.rec (α := OObj) (motive := fun _ => OObj → N16 OObj) (fun a0 a1 a2 a3 a4 a5 a6 a7 a8 a9 a10 a11 _ a13 a14 a15 v => N16.mk a0 a1 a2 a3 a4 a5 a6 a7 a8 a9 a10 a11 v a13 a14 a15) e v
def sH1_13 (v : OObj) (e : N16 OObj) : N16 OObj := N16.rec (α := OObj) (motive := fun _ => OObj → N16 OObj) (fun a0 a1 a2 a3 a4 a5 a6 a7 a8 a9 a10 a11 a12 _ a14 a15 v => N16.mk a0 a1 a2 a3 a4 a5 a6 a7 a8 a9 a10 a11 a12 v a14 a15) e v
def sH1_14 (v : OObj) (e : N16 OObj) : N16 OObj := N16.rec (α := OObj) (motive := fun _ => OObj → N16 OObj) (fun a0 a1 a2 a3 a4 a5 a6 a7 a8 a9 a10 a11 a12 a13 _ a15 v => N16.mk a0 a1 a2 a3 a4 a5 a6 a7 a8 a9 a10 a11 a12 a13 v a15) e v
def sH1_15 (v : OObj) (e : N16 OObj) : N16 OObj := N16.rec (α := OObj) (motive := fun _ => OObj → N16 OObj) (fun a0 a1 a2 a3 a4 a5 a6 a7 a8 a9 a10 a11 a12 a13 a14 _ v => N16.mk a0 a1 a2 a3 a4 a5 a6 a7 a8 a9 a10 a11 a12 a13 a14 v) e v
def gH1 (i : Ix) : N16 OObj → OObj := Ix.rec (motive := fun _ => N16 OObj → OObj) N16.f0 N16.f1 N16.f2 N16.f3 N16.f4 N16.f5 N16.f6 N16.f7 N16.f8 N16.f9 N16.f10 N16.f11 N16.f12 N16.f13 N16.f14 N16.f15 i
def sH1 (i : Ix) : OObj → N16 OObj → N16 OObj := Ix.rec (motive := fun _ => OObj → N16 OObj → N16 OObj) sH1_0 sH1_1 sH1_2 sH1_3 sH1_4 sH1_5 sH1_6 sH1_7 sH1_8 sH1_9 sH1_10 sH1_11 sH1_12 sH1_13 sH1_14 sH1_15 i
theorem gH1_eq (i : Ix) (e : N16 OObj) : gH1 i e = N16.get i e := by cases i <;> rfl
theorem sH1_eq (i : Ix) (v : OObj) (e : N16 OObj) : sH1 i v e = N16.set i v e := by cases i <;> rfl
def sH2_0 (v : N16 OObj) (e : T2 OObj) : T2 OObj := N16.rec (α := N16 OObj) (motive := fun _ => N16 OObj → T2 OObj) (fun _ a1 a2 a3 a4 a5 a6 a7 a8 a9 a10 a11 a12 a13 a14 a15 v => N16.mk v a1 a2 a3 a4 a5 a6 a7 a8 a9 a10 a11 a12 a13 a14 a15) e v
def sH2_1 (v : N16 OObj) (e : T2 OObj) : T2 OObj := N16.rec (α := N16 OObj) (motive := fun _ => N16 OObj → T2 OObj) (fun a0 _ a2 a3 a4 a5 a6 a7 a8 a9 a10 a11 a12 a13 a14 a15 v => N16.mk a0 v a2 a3 a4 a5 a6 a7 a8 a9 a10 a11 a12 a13 a14 a15) e v
def sH2_2 (v : N16 OObj) (e : T2 OObj) : T2 OObj := N16.rec (α := N16 OObj) (motive := fun _ => N16 OObj → T2 OObj) (fun a0 a1 _ a3 a4 a5 a6 a7 a8 a9 a10 a11 a12 a13 a14 a15 v => N16.mk a0 a1 v a3 a4 a5 a6 a7 a8 a9 a10 a11 a12 a13 a14 a15) e v
def sH2_3 (v : N16 OObj) (e : T2 OObj) : T2 OObj := N16.rec (α := N16 OObj) (motive := fun _ => N16 OObj → T2 OObj) (fun a0 a1 a2 _ a4 a5 a6 a7 a8 a9 a10 a11 a12 a13 a14 a15 v => N16.mk a0 a1 a2 v a4 a5 a6 a7 a8 a9 a10 a11 a12 a13 a14 a15) e v
def sH2_4 (v : N16 OObj) (e : T2 OObj) : T2 OObj := N16.rec (α := N16 OObj) (motive := fun _ => N16 OObj → T2 OObj) (fun a0 a1 a2 a3 _ a5 a6 a7 a8 a9 a10 a11 a12 a13 a14 a15 v => N16.mk a0 a1 a2 a3 v a5 a6 a7 a8 a9 a10 a11 a12 a13 a14 a15) e v
def sH2_5 (v : N16 OObj) (e : T2 OObj) : T2 OObj := N16.rec (α := N16 OObj) (motive := fun _ => N16 OObj → T2 OObj) (fun a0 a1 a2 a3 a4 _ a6 a7 a8 a9 a10 a11 a12 a13 a14 a15 v => N16.mk a0 a1 a2 a3 a4 v a6 a7 a8 a9 a10 a11 a12 a13 a14 a15) e v
def sH2_6 (v : N16 OObj) (e : T2 OObj) : T2 OObj := N16.rec (α := N16 OObj) (motive := fun _ => N16 OObj → T2 OObj) (fun a0 a1 a2 a3 a4 a5 _ a7 a8 a9 a10 a11 a12 a13 a14 a15 v => N16.mk a0 a1 a2 a3 a4 a5 v a7 a8 a9 a10 a11 a12 a13 a14 a15) e v
def sH2_7 (v : N16 OObj) (e : T2 OObj) : T2 OObj := N16.rec (α := N16 OObj) (motive := fun _ => N16 OObj → T2 OObj) (fun a0 a1 a2 a3 a4 a5 a6 _ a8 a9 a10 a11 a12 a13 a14 a15 v => N16.mk a0 a1 a2 a3 a4 a5 a6 v a8 a9 a10 a11 a12 a13 a14 a15) e v
def sH2_8 (v : N16 OObj) (e : T2 OObj) : T2 OObj := N16.rec (α := N16 OObj) (motive := fun _ => N16 OObj → T2 OObj) (fun a0 a1 a2 a3 a4 a5 a6 a7 _ a9 a10 a11 a12 a13 a14 a15 v => N16.mk a0 a1 a2 a3 a4 a5 a6 a7 v a9 a10 a11 a12 a13 a14 a15) e v
def sH2_9 (v : N16 OObj) (e : T2 OObj) : T2 OObj := N16.rec (α := N16 OObj) (motive := fun _ => N16 OObj → T2 OObj) (fun a0 a1 a2 a3 a4 a5 a6 a7 a8 _ a10 a11 a12 a13 a14 a15 v => N16.mk a0 a1 a2 a3 a4 a5 a6 a7 a8 v a10 a11 a12 a13 a14 a15) e v
def sH2_10 (v : N16 OObj) (e : T2 OObj) : T2 OObj := N16.rec (α := N16 OObj) (motive := fun _ => N16 OObj → T2 OObj) (fun a0 a1 a2 a3 a4 a5 a6 a7 a8 a9 _ a11 a12 a13 a14 a15 v => N16.mk a0 a1 a2 a3 a4 a5 a6 a7 a8 a9 v a11 a12 a13 a14 a15) e v
def sH2_11 (v : N16 OObj) (e : T2 OObj) : T2 OObj := N16.rec (α := N16 OObj) (motive := fun _ => N16 OObj → T2 OObj) (fun a0 a1 a2 a3 a4 a5 a6 a7 a8 a9 a10 _ a12 a13 a14 a15 v => N16.mk a0 a1 a2 a3 a4 a5 a6 a7 a8 a9 a10 v a12 a13 a14 a15) e v
def sH2_12 (v : N16 OObj) (e : T2 OObj) : T2 OObj := N16.rec (α := N16 OObj) (motive := fun _ => N16 OObj → T2 OObj) (fun a0 a1 a2 a3 a4 a5 a6 a7 a8 a9 a10 a11 _ a13 a14 a15 v => N16.mk a0 a1 a2 a3 a4 a5 a6 a7 a8 a9 a10 a11 v a13 a14 a15) e v
def sH2_13 (v : N16 OObj) (e : T2 OObj) : T2 OObj := N16.rec (α := N16 OObj) (motive := fun _ => N16 OObj → T2 OObj) (fun a0 a1 a2 a3 a4 a5 a6 a7 a8 a9 a10 a11 a12 _ a14 a15 v => N16.mk a0 a1 a2 a3 a4 a5 a6 a7 a8 a9 a10 a11 a12 v a14 a15) e v
def sH2_14 (v : N16 OObj) (e : T2 OObj) : T2 OObj := N16.rec (α := N16 OObj) (motive := fun _ => N16 OObj → T2 OObj) (fun a0 a1 a2 a3 a4 a5 a6 a7 a8 a9 a10 a11 a12 a13 _ a15 v => N16.mk a0 a1 a2 a3 a4 a5 a6 a7 a8 a9 a10 a11 a12 a13 v a15) e v
def sH2_15 (v : N16 OObj) (e : T2 OObj) : T2 OObj := N16.rec (α := N16 OObj) (motive := fun _ => N16 OObj → T2 OObj) (fun a0 a1 a2 a3 a4 a5 a6 a7 a8 a9 a10 a11 a12 a13 a14 _ v => N16.mk a0 a1 a2 a3 a4 a5 a6 a7 a8 a9 a10 a11 a12 a13 a14 v) e v
def gH2 (i : Ix) : T2 OObj → N16 OObj := Ix.rec (motive := fun _ => T2 OObj → N16 OObj) N16.f0 N16.f1 N16.f2 N16.f3 N16.f4 N16.f5 N16.f6 N16.f7 N16.f8 N16.f9 N16.f10 N16.f11 N16.f12 N16.f13 N16.f14 N16.f15 i
def sH2 (i : Ix) : N16 OObj → T2 OObj → T2 OObj := Ix.rec (motive := fun _ => N16 OObj → T2 OObj → T2 OObj) sH2_0 sH2_1 sH2_2 sH2_3 sH2_4 sH2_5 sH2_6 sH2_7 sH2_8 sH2_9 sH2_10 sH2_11 sH2_12 sH2_13 sH2_14 sH2_15 i
theorem gH2_eq (i : Ix) (e : T2 OObj) : gH2 i e = N16.get i e := by cases i <;> rfl
theorem sH2_eq (i : Ix) (v : N16 OObj) (e : T2 OObj) : sH2 i v e = N16.set i v e := by cases i <;> rfl
def sH3_0 (v : T2 OObj) (e : T3 OObj) : T3 OObj := N16.rec (α := T2 OObj) (motive := fun _ => T2 OObj → T3 OObj) (fun _ a1 a2 a3 a4 a5 a6 a7 a8 a9 a10 a11 a12 a13 a14 a15 v => N16.mk v a1 a2 a3 a4 a5 a6 a7 a8 a9 a10 a11 a12 a13 a14 a15) e v
def sH3_1 (v : T2 OObj) (e : T3 OObj) : T3 OObj := N16.rec (α := T2 OObj) (motive := fun _ => T2 OObj → T3 OObj) (fun a0 _ a2 a3 a4 a5 a6 a7 a8 a9 a10 a11 a12 a13 a14 a15 v => N16.mk a0 v a2 a3 a4 a5 a6 a7 a8 a9 a10 a11 a12 a13 a14 a15) e v
def sH3_2 (v : T2 OObj) (e : T3 OObj) : T3 OObj := N16.rec (α := T2 OObj) (motive := fun _ => T2 OObj → T3 OObj) (fun a0 a1 _ a3 a4 a5 a6 a7 a8 a9 a10 a11 a12 a13 a14 a15 v => N16.mk a0 a1 v a3 a4 a5 a6 a7 a8 a9 a10 a11 a12 a13 a14 a15) e v
def sH3_3 (v : T2 OObj) (e : T3 OObj) : T3 OObj := N16.rec (α := T2 OObj) (motive := fun _ => T2 OObj → T3 OObj) (fun a0 a1 a2 _ a4 a5 a6 a7 a8 a9 a10 a11 a12 a13 a14 a15 v => N16.mk a0 a1 a2 v a4 a5 a6 a7 a8 a9 a10 a11 a12 a13 a14 a15) e v
def sH3_4 (v : T2 OObj) (e : T3 OObj) : T3 OObj := N16.rec (α := T2 OObj) (motive := fun _ => T2 OObj → T3 OObj) (fun a0 a1 a2 a3 _ a5 a6 a7 a8 a9 a10 a11 a12 a13 a14 a15 v => N16.mk a0 a1 a2 a3 v a5 a6 a7 a8 a9 a10 a11 a12 a13 a14 a15) e v
def sH3_5 (v : T2 OObj) (e : T3 OObj) : T3 OObj := N16.rec (α := T2 OObj) (motive := fun _ => T2 OObj → T3 OObj) (fun a0 a1 a2 a3 a4 _ a6 a7 a8 a9 a10 a11 a12 a13 a14 a15 v => N16.mk a0 a1 a2 a3 a4 v a6 a7 a8 a9 a10 a11 a12 a13 a14 a15) e v
def sH3_6 (v : T2 OObj) (e : T3 OObj) : T3 OObj := N16.rec (α := T2 OObj) (motive := fun _ => T2 OObj → T3 OObj) (fun a0 a1 a2 a3 a4 a5 _ a7 a8 a9 a10 a11 a12 a13 a14 a15 v => N16.mk a0 a1 a2 a3 a4 a5 v a7 a8 a9 a10 a11 a12 a13 a14 a15) e v
def sH3_7 (v : T2 OObj) (e : T3 OObj) : T3 OObj := N16.rec (α := T2 OObj) (motive := fun _ => T2 OObj → T3 OObj) (fun a0 a1 a2 a3 a4 a5 a6 _ a8 a9 a10 a11 a12 a13 a14 a15 v => N16.mk a0 a1 a2 a3 a4 a5 a6 v a8 a9 a10 a11 a12 a13 a14 a15) e v
def sH3_8 (v : T2 OObj) (e : T3 OObj) : T3 OObj := N16.rec (α := T2 OObj) (motive := fun _ => T2 OObj → T3 OObj) (fun a0 a1 a2 a3 a4 a5 a6 a7 _ a9 a10 a11 a12 a13 a14 a15 v => N16.mk a0 a1 a2 a3 a4 a5 a6 a7 v a9 a10 a11 a12 a13 a14 a15) e v
def sH3_9 (v : T2 OObj) (e : T3 OObj) : T3 OObj := N16.rec (α := T2 OObj) (motive := fun _ => T2 OObj → T3 OObj) (fun a0 a1 a2 a3 a4 a5 a6 a7 a8 _ a10 a11 a12 a13 a14 a15 v => N16.mk a0 a1 a2 a3 a4 a5 a6 a7 a8 v a10 a11 a12 a13 a14 a15) e v
def sH3_10 (v : T2 OObj) (e : T3 OObj) : T3 OObj := N16.rec (α := T2 OObj) (motive := fun _ => T2 OObj → T3 OObj) (fun a0 a1 a2 a3 a4 a5 a6 a7 a8 a9 _ a11 a12 a13 a14 a15 v => N16.mk a0 a1 a2 a3 a4 a5 a6 a7 a8 a9 v a11 a12 a13 a14 a15) e v
def sH3_11 (v : T2 OObj) (e : T3 OObj) : T3 OObj := N16.rec (α := T2 OObj) (motive := fun _ => T2 OObj → T3 OObj) (fun a0 a1 a2 a3 a4 a5 a6 a7 a8 a9 a10 _ a12 a13 a14 a15 v => N16.mk a0 a1 a2 a3 a4 a5 a6 a7 a8 a9 a10 v a12 a13 a14 a15) e v
def sH3_12 (v : T2 OObj) (e : T3 OObj) : T3 OObj := N16.rec (α := T2 OObj) (motive := fun _ => T2 OObj → T3 OObj) (fun a0 a1 a2 a3 a4 a5 a6 a7 a8 a9 a10 a11 _ a13 a14 a15 v => N16.mk a0 a1 a2 a3 a4 a5 a6 a7 a8 a9 a10 a11 v a13 a14 a15) e v
def sH3_13 (v : T2 OObj) (e : T3 OObj) : T3 OObj := N16.rec (α := T2 OObj) (motive := fun _ => T2 OObj → T3 OObj) (fun a0 a1 a2 a3 a4 a5 a6 a7 a8 a9 a10 a11 a12 _ a14 a15 v => N16.mk a0 a1 a2 a3 a4 a5 a6 a7 a8 a9 a10 a11 a12 v a14 a15) e v
def sH3_14 (v : T2 OObj) (e : T3 OObj) : T3 OObj := N16.rec (α := T2 OObj) (motive := fun _ => T2 OObj → T3 OObj) (fun a0 a1 a2 a3 a4 a5 a6 a7 a8 a9 a10 a11 a12 a13 _ a15 v => N16.mk a0 a1 a2 a3 a4 a5 a6 a7 a8 a9 a10 a11 a12 a13 v a15) e v
def sH3_15 (v : T2 OObj) (e : T3 OObj) : T3 OObj := N16.rec (α := T2 OObj) (motive := fun _ => T2 OObj → T3 OObj) (fun a0 a1 a2 a3 a4 a5 a6 a7 a8 a9 a10 a11 a12 a13 a14 _ v => N16.mk a0 a1 a2 a3 a4 a5 a6 a7 a8 a9 a10 a11 a12 a13 a14 v) e v
def gH3 (i : Ix) : T3 OObj → T2 OObj := Ix.rec (motive := fun _ => T3 OObj → T2 OObj) N16.f0 N16.f1 N16.f2 N16.f3 N16.f4 N16.f5 N16.f6 N16.f7 N16.f8 N16.f9 N16.f10 N16.f11 N16.f12 N16.f13 N16.f14 N16.f15 i
def sH3 (i : Ix) : T2 OObj → T3 OObj → T3 OObj := Ix.rec (motive := fun _ => T2 OObj → T3 OObj → T3 OObj) sH3_0 sH3_1 sH3_2 sH3_3 sH3_4 sH3_5 sH3_6 sH3_7 sH3_8 sH3_9 sH3_10 sH3_11 sH3_12 sH3_13 sH3_14 sH3_15 i
theorem gH3_eq (i : Ix) (e : T3 OObj) : gH3 i e = N16.get i e := by cases i <;> rfl
theorem sH3_eq (i : Ix) (v : T2 OObj) (e : T3 OObj) : sH3 i v e = N16.set i v e := by cases i <;> rfl
def sH4_0 (v : T3 OObj) (e : N16 (T3 OObj)) : N16 (T3 OObj) := N16.rec (α := T3 OObj) (motive := fun _ => T3 OObj → N16 (T3 OObj)) (fun _ a1 a2 a3 a4 a5 a6 a7 a8 a9 a10 a11 a12 a13 a14 a15 v => N16.mk v a1 a2 a3 a4 a5 a6 a7 a8 a9 a10 a11 a12 a13 a14 a15) e v
def sH4_1 (v : T3 OObj) (e : N16 (T3 OObj)) : N16 (T3 OObj) := N16.rec (α := T3 OObj) (motive := fun _ => T3 OObj → N16 (T3 OObj)) (fun a0 _ a2 a3 a4 a5 a6 a7 a8 a9 a10 a11 a12 a13 a14 a15 v => N16.mk a0 v a2 a3 a4 a5 a6 a7 a8 a9 a10 a11 a12 a13 a14 a15) e v
def sH4_2 (v : T3 OObj) (e : N16 (T3 OObj)) : N16 (T3 OObj) := N16.rec (α := T3 OObj) (motive := fun _ => T3 OObj → N16 (T3 OObj)) (fun a0 a1 _ a3 a4 a5 a6 a7 a8 a9 a10 a11 a12 a13 a14 a15 v => N16.mk a0 a1 v a3 a4 a5 a6 a7 a8 a9 a10 a11 a12 a13 a14 a15) e v
def sH4_3 (v : T3 OObj) (e : N16 (T3 OObj)) : N16 (T3 OObj) := N16.rec (α := T3 OObj) (motive := fun _ => T3 OObj → N16 (T3 OObj)) (fun a0 a1 a2 _ a4 a5 a6 a7 a8 a9 a10 a11 a12 a13 a14 a15 v => N16.mk a0 a1 a2 v a4 a5 a6 a7 a8 a9 a10 a11 a12 a13 a14 a15) e v
def sH4_4 (v : T3 OObj) (e : N16 (T3 OObj)) : N16 (T3 OObj) := N16.rec (α := T3 OObj) (motive := fun _ => T3 OObj → N16 (T3 OObj)) (fun a0 a1 a2 a3 _ a5 a6 a7 a8 a9 a10 a11 a12 a13 a14 a15 v => N16.mk a0 a1 a2 a3 v a5 a6 a7 a8 a9 a10 a11 a12 a13 a14 a15) e v
def sH4_5 (v : T3 OObj) (e : N16 (T3 OObj)) : N16 (T3 OObj) := N16.rec (α := T3 OObj) (motive := fun _ => T3 OObj → N16 (T3 OObj)) (fun a0 a1 a2 a3 a4 _ a6 a7 a8 a9 a10 a11 a12 a13 a14 a15 v => N16.mk a0 a1 a2 a3 a4 v a6 a7 a8 a9 a10 a11 a12 a13 a14 a15) e v
def sH4_6 (v : T3 OObj) (e : N16 (T3 OObj)) : N16 (T3 OObj) := N16.rec (α := T3 OObj) (motive := fun _ => T3 OObj → N16 (T3 OObj)) (fun a0 a1 a2 a3 a4 a5 _ a7 a8 a9 a10 a11 a12 a13 a14 a15 v => N16.mk a0 a1 a2 a3 a4 a5 v a7 a8 a9 a10 a11 a12 a13 a14 a15) e v
def sH4_7 (v : T3 OObj) (e : N16 (T3 OObj)) : N16 (T3 OObj) := N16.rec (α := T3 OObj) (motive := fun _ => T3 OObj → N16 (T3 OObj)) (fun a0 a1 a2 a3 a4 a5 a6 _ a8 a9 a10 a11 a12 a13 a14 a15 v => N16.mk a0 a1 a2 a3 a4 a5 a6 v a8 a9 a10 a11 a12 a13 a14 a15) e v
def sH4_8 (v : T3 OObj) (e : N16 (T3 OObj)) : N16 (T3 OObj) := N16.rec (α := T3 OObj) (motive := fun _ => T3 OObj → N16 (T3 OObj)) (fun a0 a1 a2 a3 a4 a5 a6 a7 _ a9 a10 a11 a12 a13 a14 a15 v => N16.mk a0 a1 a2 a3 a4 a5 a6 a7 v a9 a10 a11 a12 a13 a14 a15) e v
def sH4_9 (v : T3 OObj) (e : N16 (T3 OObj)) : N16 (T3 OObj) := N16.rec (α := T3 OObj) (motive := fun _ => T3 OObj → N16 (T3 OObj)) (fun a0 a1 a2 a3 a4 a5 a6 a7 a8 _ a10 a11 a12 a13 a14 a15 v => N16.mk a0 a1 a2 a3 a4 a5 a6 a7 a8 v a10 a11 a12 a13 a14 a15) e v
def sH4_10 (v : T3 OObj) (e : N16 (T3 OObj)) : N16 (T3 OObj) := N16.rec (α := T3 OObj) (motive := fun _ => T3 OObj → N16 (T3 OObj)) (fun a0 a1 a2 a3 a4 a5 a6 a7 a8 a9 _ a11 a12 a13 a14 a15 v => N16.mk a0 a1 a2 a3 a4 a5 a6 a7 a8 a9 v a11 a12 a13 a14 a15) e v
def sH4_11 (v : T3 OObj) (e : N16 (T3 OObj)) : N16 (T3 OObj) := N16.rec (α := T3 OObj) (motive := fun _ => T3 OObj → N16 (T3 OObj)) (fun a0 a1 a2 a3 a4 a5 a6 a7 a8 a9 a10 _ a12 a13 a14 a15 v => N16.mk a0 a1 a2 a3 a4 a5 a6 a7 a8 a9 a10 v a12 a13 a14 a15) e v
def sH4_12 (v : T3 OObj) (e : N16 (T3 OObj)) : N16 (T3 OObj) := N16.rec (α := T3 OObj) (motive := fun _ => T3 OObj → N16 (T3 OObj)) (fun a0 a1 a2 a3 a4 a5 a6 a7 a8 a9 a10 a11 _ a13 a14 a15 v => N16.mk a0 a1 a2 a3 a4 a5 a6 a7 a8 a9 a10 a11 v a13 a14 a15) e v
def sH4_13 (v : T3 OObj) (e : N16 (T3 OObj)) : N16 (T3 OObj) := N16.rec (α := T3 OObj) (motive := fun _ => T3 OObj → N16 (T3 OObj)) (fun a0 a1 a2 a3 a4 a5 a6 a7 a8 a9 a10 a11 a12 _ a14 a15 v => N16.mk a0 a1 a2 a3 a4 a5 a6 a7 a8 a9 a10 a11 a12 v a14 a15) e v
def sH4_14 (v : T3 OObj) (e : N16 (T3 OObj)) : N16 (T3 OObj) := N16.rec (α := T3 OObj) (motive := fun _ => T3 OObj → N16 (T3 OObj)) (fun a0 a1 a2 a3 a4 a5 a6 a7 a8 a9 a10 a11 a12 a13 _ a15 v => N16.mk a0 a1 a2 a3 a4 a5 a6 a7 a8 a9 a10 a11 a12 a13 v a15) e v
def sH4_15 (v : T3 OObj) (e : N16 (T3 OObj)) : N16 (T3 OObj) := N16.rec (α := T3 OObj) (motive := fun _ => T3 OObj → N16 (T3 OObj)) (fun a0 a1 a2 a3 a4 a5 a6 a7 a8 a9 a10 a11 a12 a13 a14 _ v => N16.mk a0 a1 a2 a3 a4 a5 a6 a7 a8 a9 a10 a11 a12 a13 a14 v) e v
def gH4 (i : Ix) : N16 (T3 OObj) → T3 OObj := Ix.rec (motive := fun _ => N16 (T3 OObj) → T3 OObj) N16.f0 N16.f1 N16.f2 N16.f3 N16.f4 N16.f5 N16.f6 N16.f7 N16.f8 N16.f9 N16.f10 N16.f11 N16.f12 N16.f13 N16.f14 N16.f15 i
def sH4 (i : Ix) : T3 OObj → N16 (T3 OObj) → N16 (T3 OObj) := Ix.rec (motive := fun _ => T3 OObj → N16 (T3 OObj) → N16 (T3 OObj)) sH4_0 sH4_1 sH4_2 sH4_3 sH4_4 sH4_5 sH4_6 sH4_7 sH4_8 sH4_9 sH4_10 sH4_11 sH4_12 sH4_13 sH4_14 sH4_15 i
theorem gH4_eq (i : Ix) (e : N16 (T3 OObj)) : gH4 i e = N16.get i e := by cases i <;> rfl
theorem sH4_eq (i : Ix) (v : T3 OObj) (e : N16 (T3 OObj)) : sH4 i v e = N16.set i v e := by cases i <;> rfl
def sH5_0 (v : N16 (T3 OObj)) (e : T5 OObj) : T5 OObj := N16.rec (α := N16 (T3 OObj)) (motive := fun _ => N16 (T3 OObj) → T5 OObj) (fun _ a1 a2 a3 a4 a5 a6 a7 a8 a9 a10 a11 a12 a13 a14 a15 v => N16.mk v a1 a2 a3 a4 a5 a6 a7 a8 a9 a10 a11 a12 a13 a14 a15) e v
def sH5_1 (v : N16 (T3 OObj)) (e : T5 OObj) : T5 OObj := N16.rec (α := N16 (T3 OObj)) (motive := fun _ => N16 (T3 OObj) → T5 OObj) (fun a0 _ a2 a3 a4 a5 a6 a7 a8 a9 a10 a11 a12 a13 a14 a15 v => N16.mk a0 v a2 a3 a4 a5 a6 a7 a8 a9 a10 a11 a12 a13 a14 a15) e v
def sH5_2 (v : N16 (T3 OObj)) (e : T5 OObj) : T5 OObj := N16.rec (α := N16 (T3 OObj)) (motive := fun _ => N16 (T3 OObj) → T5 OObj) (fun a0 a1 _ a3 a4 a5 a6 a7 a8 a9 a10 a11 a12 a13 a14 a15 v => N16.mk a0 a1 v a3 a4 a5 a6 a7 a8 a9 a10 a11 a12 a13 a14 a15) e v
def sH5_3 (v : N16 (T3 OObj)) (e : T5 OObj) : T5 OObj := N16.rec (α := N16 (T3 OObj)) (motive := fun _ => N16 (T3 OObj) → T5 OObj) (fun a0 a1 a2 _ a4 a5 a6 a7 a8 a9 a10 a11 a12 a13 a14 a15 v => N16.mk a0 a1 a2 v a4 a5 a6 a7 a8 a9 a10 a11 a12 a13 a14 a15) e v
def sH5_4 (v : N16 (T3 OObj)) (e : T5 OObj) : T5 OObj := N16.rec (α := N16 (T3 OObj)) (motive := fun _ => N16 (T3 OObj) → T5 OObj) (fun a0 a1 a2 a3 _ a5 a6 a7 a8 a9 a10 a11 a12 a13 a14 a15 v => N16.mk a0 a1 a2 a3 v a5 a6 a7 a8 a9 a10 a11 a12 a13 a14 a15) e v
def sH5_5 (v : N16 (T3 OObj)) (e : T5 OObj) : T5 OObj := N16.rec (α := N16 (T3 OObj)) (motive := fun _ => N16 (T3 OObj) → T5 OObj) (fun a0 a1 a2 a3 a4 _ a6 a7 a8 a9 a10 a11 a12 a13 a14 a15 v => N16.mk a0 a1 a2 a3 a4 v a6 a7 a8 a9 a10 a11 a12 a13 a14 a15) e v
def sH5_6 (v : N16 (T3 OObj)) (e : T5 OObj) : T5 OObj := N16.rec (α := N16 (T3 OObj)) (motive := fun _ => N16 (T3 OObj) → T5 OObj) (fun a0 a1 a2 a3 a4 a5 _ a7 a8 a9 a10 a11 a12 a13 a14 a15 v => N16.mk a0 a1 a2 a3 a4 a5 v a7 a8 a9 a10 a11 a12 a13 a14 a15) e v
def sH5_7 (v : N16 (T3 OObj)) (e : T5 OObj) : T5 OObj := N16.rec (α := N16 (T3 OObj)) (motive := fun _ => N16 (T3 OObj) → T5 OObj) (fun a0 a1 a2 a3 a4 a5 a6 _ a8 a9 a10 a11 a12 a13 a14 a15 v => N16.mk a0 a1 a2 a3 a4 a5 a6 v a8 a9 a10 a11 a12 a13 a14 a15) e v
def sH5_8 (v : N16 (T3 OObj)) (e : T5 OObj) : T5 OObj := N16.rec (α := N16 (T3 OObj)) (motive := fun _ => N16 (T3 OObj) → T5 OObj) (fun a0 a1 a2 a3 a4 a5 a6 a7 _ a9 a10 a11 a12 a13 a14 a15 v => N16.mk a0 a1 a2 a3 a4 a5 a6 a7 v a9 a10 a11 a12 a13 a14 a15) e v
def sH5_9 (v : N16 (T3 OObj)) (e : T5 OObj) : T5 OObj := N16.rec (α := N16 (T3 OObj)) (motive := fun _ => N16 (T3 OObj) → T5 OObj) (fun a0 a1 a2 a3 a4 a5 a6 a7 a8 _ a10 a11 a12 a13 a14 a15 v => N16.mk a0 a1 a2 a3 a4 a5 a6 a7 a8 v a10 a11 a12 a13 a14 a15) e v
def sH5_10 (v : N16 (T3 OObj)) (e : T5 OObj) : T5 OObj := N16.rec (α := N16 (T3 OObj)) (motive := fun _ => N16 (T3 OObj) → T5 OObj) (fun a0 a1 a2 a3 a4 a5 a6 a7 a8 a9 _ a11 a12 a13 a14 a15 v => N16.mk a0 a1 a2 a3 a4 a5 a6 a7 a8 a9 v a11 a12 a13 a14 a15) e v
def sH5_11 (v : N16 (T3 OObj)) (e : T5 OObj) : T5 OObj := N16.rec (α := N16 (T3 OObj)) (motive := fun _ => N16 (T3 OObj) → T5 OObj) (fun a0 a1 a2 a3 a4 a5 a6 a7 a8 a9 a10 _ a12 a13 a14 a15 v => N16.mk a0 a1 a2 a3 a4 a5 a6 a7 a8 a9 a10 v a12 a13 a14 a15) e v
def sH5_12 (v : N16 (T3 OObj)) (e : T5 OObj) : T5 OObj := N16.rec (α := N16 (T3 OObj)) (motive := fun _ => N16 (T3 OObj) → T5 OObj) (fun a0 a1 a2 a3 a4 a5 a6 a7 a8 a9 a10 a11 _ a13 a14 a15 v => N16.mk a0 a1 a2 a3 a4 a5 a6 a7 a8 a9 a10 a11 v a13 a14 a15) e v
def sH5_13 (v : N16 (T3 OObj)) (e : T5 OObj) : T5 OObj := N16.rec (α := N16 (T3 OObj)) (motive := fun _ => N16 (T3 OObj) → T5 OObj) (fun a0 a1 a2 a3 a4 a5 a6 a7 a8 a9 a10 a11 a12 _ a14 a15 v => N16.mk a0 a1 a2 a3 a4 a5 a6 a7 a8 a9 a10 a11 a12 v a14 a15) e v
def sH5_14 (v : N16 (T3 OObj)) (e : T5 OObj) : T5 OObj := N16.rec (α := N16 (T3 OObj)) (motive := fun _ => N16 (T3 OObj) → T5 OObj) (fun a0 a1 a2 a3 a4 a5 a6 a7 a8 a9 a10 a11 a12 a13 _ a15 v => N16.mk a0 a1 a2 a3 a4 a5 a6 a7 a8 a9 a10 a11 a12 a13 v a15) e v
def sH5_15 (v : N16 (T3 OObj)) (e : T5 OObj) : T5 OObj := N16.rec (α := N16 (T3 OObj)) (motive := fun _ => N16 (T3 OObj) → T5 OObj) (fun a0 a1 a2 a3 a4 a5 a6 a7 a8 a9 a10 a11 a12 a13 a14 _ v => N16.mk a0 a1 a2 a3 a4 a5 a6 a7 a8 a9 a10 a11 a12 a13 a14 v) e v
def gH5 (i : Ix) : T5 OObj → N16 (T3 OObj) := Ix.rec (motive := fun _ => T5 OObj → N16 (T3 OObj)) N16.f0 N16.f1 N16.f2 N16.f3 N16.f4 N16.f5 N16.f6 N16.f7 N16.f8 N16.f9 N16.f10 N16.f11 N16.f12 N16.f13 N16.f14 N16.f15 i
def sH5 (i : Ix) : N16 (T3 OObj) → T5 OObj → T5 OObj := Ix.rec (motive := fun _ => N16 (T3 OObj) → T5 OObj → T5 OObj) sH5_0 sH5_1 sH5_2 sH5_3 sH5_4 sH5_5 sH5_6 sH5_7 sH5_8 sH5_9 sH5_10 sH5_11 sH5_12 sH5_13 sH5_14 sH5_15 i
theorem gH5_eq (i : Ix) (e : T5 OObj) : gH5 i e = N16.get i e := by cases i <;> rfl
theorem sH5_eq (i : Ix) (v : N16 (T3 OObj)) (e : T5 OObj) : sH5 i v e = N16.set i v e := by cases i <;> rfl

def hget (b : Nat) (H : Heap) : Option AObj := gH1 (dg 0 b) (gH2 (dg 4 b) (gH3 (dg 8 b) (gH4 (dg 12 b) (gH5 (dg 16 b) H))))
theorem hget_eq (b : Nat) (H : Heap) : hget b H = get5 b H := by
  unfold hget
  rw [gH1_eq, gH2_eq, gH3_eq, gH4_eq, gH5_eq]
  rfl

def hset (b : Nat) (v : Option AObj) (H : Heap) : Heap :=
  sH5 (dg 16 b) (sH4 (dg 12 b) (sH3 (dg 8 b) (sH2 (dg 4 b) (sH1 (dg 0 b) v (gH2 (dg 4 b) (gH3 (dg 8 b) (gH4 (dg 12 b) (gH5 (dg 16 b) H))))) (gH3 (dg 8 b) (gH4 (dg 12 b) (gH5 (dg 16 b) H)))) (gH4 (dg 12 b) (gH5 (dg 16 b) H))) (gH5 (dg 16 b) H)) H
theorem hset_eq (b : Nat) (v : Option AObj) (H : Heap) : hset b v H = set5 b v H := by
  unfold hset
  rw [sH5_eq, sH4_eq, sH3_eq, sH2_eq, sH1_eq, gH2_eq, gH3_eq, gH4_eq, gH5_eq]
  rfl

namespace CT
def getF (c : CT) : Nat → AVal :=
  CT.rec (motive := fun _ => Nat → AVal) (fun t i => gA1 (dg 0 i) t) (fun t i => gA1 (dg 0 i) (gA2 (dg 4 i) t)) (fun t i => gA1 (dg 0 i) (gA2 (dg 4 i) (gA3 (dg 8 i) t))) c
theorem getF_eq (c : CT) (i : Nat) : getF c i = get i c := by
  cases c with
  | c1 t => show gA1 (dg 0 i) t = _; rw [gA1_eq]; rfl
  | c2 t => show gA1 (dg 0 i) (gA2 (dg 4 i) t) = _; rw [gA1_eq, gA2_eq]; rfl
  | c3 t => show gA1 (dg 0 i) (gA2 (dg 4 i) (gA3 (dg 8 i) t)) = _; rw [gA1_eq, gA2_eq, gA3_eq]; rfl
def setF (c : CT) : Nat → AVal → CT :=
  CT.rec (motive := fun _ => Nat → AVal → CT) (fun t i v => .c1 (sA1 (dg 0 i) v t)) (fun t i v => .c2 (sA2 (dg 4 i) (sA1 (dg 0 i) v (gA2 (dg 4 i) t)) t))
    (fun t i v => .c3 (sA3 (dg 8 i) (sA2 (dg 4 i) (sA1 (dg 0 i) v (gA2 (dg 4 i) (gA3 (dg 8 i) t))) (gA3 (dg 8 i) t)) t)) c
theorem setF_eq (c : CT) (i : Nat) (v : AVal) : setF c i v = set i v c := by
  cases c with
  | c1 t => show CT.c1 (sA1 (dg 0 i) v t) = _; rw [sA1_eq]; rfl
  | c2 t => show CT.c2 (sA2 (dg 4 i) (sA1 (dg 0 i) v (gA2 (dg 4 i) t)) t) = _; rw [sA1_eq, sA2_eq, gA2_eq]; rfl
  | c3 t =>
    show CT.c3 (sA3 (dg 8 i) (sA2 (dg 4 i) (sA1 (dg 0 i) v (gA2 (dg 4 i) (gA3 (dg 8 i) t))) (gA3 (dg 8 i) t)) t) = _
    rw [sA1_eq, sA2_eq, sA3_eq, gA2_eq, gA3_eq]; rfl
/-- n cells from i on. -/
def slabF (c : CT) (n : Nat) : Nat → List AVal := Nat.rec (motive := fun _ => CT → Nat → List AVal) (fun _ _ => []) (fun _ ih c i => getF c i :: ih c (Nat.succ i)) n c
theorem slabF_eq (c : CT) : ∀ (n i : Nat), slabF c n i = slab c n i
  | 0, _ => rfl
  | n + 1, i => by
    show getF c i :: slabF c n (i + 1) = _
    rw [getF_eq, slabF_eq c n]; rfl
/-- Values laid from i on. -/
def layF (l : List AVal) : Nat → CT → CT := List.rec (motive := fun _ => Nat → CT → CT) (fun _ c => c) (fun v _ ih i c => ih (Nat.succ i) (setF c i v)) l
theorem layF_eq : ∀ (l : List AVal) (i : Nat) (c : CT), layF l i c = lay l i c
  | [], _, _ => rfl
  | v :: l, i, c => by
    show layF l (i + 1) (setF c i v) = _
    rw [setF_eq, layF_eq l]; rfl
end CT

end
end Go.Ev
