/-
  Own work. The programs that print so many inputs: their graphs. No condition.
-/
import Derived.Test.YtnkeadjkckpknaaGreatDoorIns7
import Derived.Test.YtnkeadjkckpknaaGreatDoorIns6
set_option linter.unusedSectionVars false
set_option linter.unusedVariables false
set_option linter.unusedSimpArgs false
set_option maxRecDepth 1000000
namespace Go.Vs
open Go Go.Proofs Go.Bridge Go.Proofs.YtnkeadjkckpknaaGreatDoor
variable [Ev.GTab] [Ev.SymC Tryz.prog 202 25] [GTab]
def inTy1 : List Ev.AVal := [(.int .i64 (.ofNat 0)), (.str 0 0), (.int .i64 (.ofNat 0)), .nilSlice, .nilSlice, (.int .i64 (.ofNat 1)), (.str 3 6909556), (.int .i64 (.ofNat 0)), .nilSlice, .nilSlice, (.int .i64 (.ofNat 2)), (.str 4 1651470188), (.int .i64 (.ofNat 0)), .nilSlice, .nilSlice, (.int .i64 (.ofNat 3)), (.str 6 126943972912743), (.int .i64 (.ofNat 0)), .nilSlice, .nilSlice, (.int .i64 (.ofNat 4)), (.str 3 7235948), (.int .i64 (.ofNat 0)), .nilSlice, .nilSlice]
def inTy2 : List Ev.AVal := [(.int .i64 (.ofNat 0)), (.str 0 0), (.int .i64 (.ofNat 0)), (.slice 5 0 0 2 true), (.slice 6 0 0 4 true), (.int .i64 (.ofNat 1)), (.str 3 6909556), (.int .i64 (.ofNat 0)), (.slice 7 0 0 2 true), (.slice 8 0 0 4 true), (.int .i64 (.ofNat 2)), (.str 4 1651470188), (.int .i64 (.ofNat 0)), (.slice 9 0 0 2 true), (.slice 10 0 0 4 true), (.int .i64 (.ofNat 3)), (.str 6 126943972912743), (.int .i64 (.ofNat 0)), (.slice 11 0 0 2 true), (.slice 12 0 0 4 true), (.int .i64 (.ofNat 4)), (.str 3 7235948), (.int .i64 (.ofNat 0)), (.slice 13 0 0 2 true), (.slice 14 0 0 4 true)]
def inF1 (n : Nat) : List Ev.AVal := [(.str 4 1835100526), (.slice 2 0 0 1 true), (.int .i64 (.ofNat 0)), .nilSlice, (.slice 3 0 (2 * n + 1) 3 false)]
def inF2 (n : Nat) : List Ev.AVal := [(.str 4 1835100526), (.slice 16 0 0 1 true), (.int .i64 (.ofNat 0)), (.slice 17 0 0 1 true), (.slice 18 0 (2 * n + 1) 3 false)]
def inCode (n : Nat) : List Ev.AVal := (Inputs.code n).flatMap fun x => [.int .i64 x.1, .int .i64 x.2.1, .int .i64 x.2.2]
def xIn (n : Nat) (rn rn2 : List Nat) : SrcB where
 objs := [inTy1, inF1 n, [], inCode n]
 rn := rn
 objs2 := [inTy2, [], [], [], [], [], [], [], [], [], [], inF2 n, [], [], inCode n, [], []]
 rn2 := rn2
 tb := 0
 nt := 5
 tf := true
 fb := 1
 nf := 1
 ff := false
 main := 0
 p4 := .nilSlice
 q0 := (.slice 4 0 5 5 false)
 fb2 := 15
 ff2 := false
 q3 := (.slice 19 0 0 1 true)
 nb2 := 20
 nf2 := true
 lv := .und
 nl := 0
 code := [Inputs.code n]
 nums := []
def insHead : List UInt8 := [102, 117, 110, 99, 32, 109, 97, 105, 110, 40, 41, 32, 123, 32]
def insTo : Nat → List UInt8
 | 0 => insHead
 | n + 1 => insTo n ++ [112, 114, 105, 110, 116, 40, 105, 110, 112, 117, 116, 40, 41, 41, 10]
theorem insTo_len : ∀ n, (insTo n).length = 14 + 15 * n
 | 0 => rfl
 | n + 1 => by
  unfold insTo
  rw [List.length_append, insTo_len n]
  simp; omega
end Go.Vs
