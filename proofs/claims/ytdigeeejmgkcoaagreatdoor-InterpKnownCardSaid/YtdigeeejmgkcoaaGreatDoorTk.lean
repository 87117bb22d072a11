/-
  A call that is run once in the kernel by the evaluator, and known from then on. No condition.
-/
import Derived.Test.YtdigeeejmgkcoaaGreatDoorKn
namespace Go.Proofs.YtdigeeejmgkcoaaGreatDoor
variable [Ev.GTab] [Ev.SymC Tryz.prog 203 26]
set_option linter.unusedSectionVars false

def tarn : List Nat := [3158, 3210, 3514, 3437, 3467, 3503]
def tap : Ev.AVal := (.tuple [(.agg [(.slice 0 0 6 5 false), (.slice 2 0 1 5 false), (.int .i64 (.ofNat 0)), .nilSlice, .nilSlice]), (.agg [(.int .i64 (.ofNat 0)), (.int .i64 (.ofNat 0))]), (.int .i64 (.ofNat 0))])
def taobjs : List (List Ev.AVal) := [[(.int .i64 (.ofNat 0)), (.str 0 0), (.int .i64 (.ofNat 0)), .nilSlice, .nilSlice, (.int .i64 (.ofNat 1)), (.str 3 6909556), (.int .i64 (.ofNat 0)), .nilSlice, .nilSlice, (.int .i64 (.ofNat 2)), (.str 4 1651470188), (.int .i64 (.ofNat 0)), .nilSlice, .nilSlice, (.int .i64 (.ofNat 3)), (.str 6 126943972912743), (.int .i64 (.ofNat 0)), .nilSlice, .nilSlice, (.int .i64 (.ofNat 4)), (.str 3 7235948), (.int .i64 (.ofNat 0)), .nilSlice, .nilSlice, (.int .i64 (.ofNat 5)), (.str 1 80), (.int .i64 (.ofNat 0)), (.slice 1 0 1 2 false), .nilSlice],
  [(.str 1 120), (.int .i64 (.ofNat 1))],
  [(.str 4 1835100526), (.slice 3 0 0 1 true), (.int .i64 (.ofNat 0)), (.slice 4 0 1 1 false), (.slice 5 0 6 3 false)],
  [],
  [(.int .i64 (.ofNat 5))],
  [(.int .i64 (.ofNat 4)), (.int .i64 (.ofNat 5)), (.int .i64 (.ofNat 0)), (.int .i64 (.ofNat 6)), (.int .i64 (.ofNat 0)), (.int .i64 (.ofNat 0)), (.int .i64 (.ofNat 5)), (.int .i64 (.ofNat 0)), (.int .i64 (.ofNat 0)), (.int .i64 (.ofNat 28)), (.int .i64 (.ofNat 0)), (.int .i64 (.ofNat 0)), (.int .i64 (.ofNat 39)), (.int .i64 (.ofNat 1)), (.int .i64 (.ofNat 0)), (.int .i64 (.ofNat 41)), (.int .i64 (.ofNat 0)), (.int .i64 (.ofNat 0))]]

set_option maxRecDepth 1000000 in
theorem taRan : Ev.runI Tryz.prog kn 15 1000 [(.str 60 1420326951703179502128894275757288010203304454813418158078748678207463740697145674494129778164730416608570545970561023493350768761259312783368317)] tarn tap taobjs = true := by kernel_rfl

noncomputable def ta : Ev.Wr := Ev.impW 15 [(.str 60 1420326951703179502128894275757288010203304454813418158078748678207463740697145674494129778164730416608570545970561023493350768761259312783368317)] tap taobjs kn
theorem ta_ok : Ev.WrOK Tryz.prog ta := Ev.impW_ok mixed kn_ok (by kernel_rfl) (by kernel_rfl) (by kernel_rfl) taRan

end Go.Proofs.YtdigeeejmgkcoaaGreatDoor

namespace Go.Proofs.YtdigeeejmgkcoaaGreatDoor
variable [Ev.GTab] [Ev.SymC Tryz.prog 203 26]
set_option linter.unusedSectionVars false

def tbrn : List Nat := [3446, 3710, 3622, 3678, 3699, 3672]
def tbp : Ev.AVal := (.tuple [(.agg [(.slice 0 0 6 5 false), (.slice 1 0 1 5 false), (.int .i64 (.ofNat 0)), .nilSlice, (.slice 5 0 1 1 false)]), (.agg [(.int .i64 (.ofNat 0)), (.int .i64 (.ofNat 0))]), (.int .i64 (.ofNat 0))])
def tbobjs : List (List Ev.AVal) := [[(.int .i64 (.ofNat 0)), (.str 0 0), (.int .i64 (.ofNat 0)), .nilSlice, .nilSlice, (.int .i64 (.ofNat 1)), (.str 3 6909556), (.int .i64 (.ofNat 0)), .nilSlice, .nilSlice, (.int .i64 (.ofNat 2)), (.str 4 1651470188), (.int .i64 (.ofNat 0)), .nilSlice, .nilSlice, (.int .i64 (.ofNat 3)), (.str 6 126943972912743), (.int .i64 (.ofNat 0)), .nilSlice, .nilSlice, (.int .i64 (.ofNat 4)), (.str 3 7235948), (.int .i64 (.ofNat 0)), .nilSlice, .nilSlice, (.int .i64 (.ofNat 6)), (.str 0 0), (.int .i64 (.ofNat 1)), .nilSlice, .nilSlice],
  [(.str 4 1835100526), (.slice 2 0 0 1 true), (.int .i64 (.ofNat 0)), (.slice 3 0 1 1 false), (.slice 4 0 8 3 false)],
  [],
  [(.int .i64 (.ofNat 5))],
  [(.int .i64 (.ofNat 1)), (.int .i64 (.ofNat 0)), (.int .i64 (.ofNat 0)), (.int .i64 (.ofNat 35)), (.int .i64 (.ofNat 5)), (.int .i64 (.ofNat 0)), (.int .i64 (.ofNat 6)), (.int .i64 (.ofNat 0)), (.int .i64 (.ofNat 0)), (.int .i64 (.ofNat 5)), (.int .i64 (.ofNat 0)), (.int .i64 (.ofNat 0)), (.int .i64 (.ofNat 1)), (.int .i64 (.ofNat 0)), (.int .i64 (.ofNat 0)), (.int .i64 (.ofNat 30)), (.int .i64 (.ofNat 0)), (.int .i64 (.ofNat 0)), (.int .i64 (.ofNat 39)), (.int .i64 (.ofNat 1)), (.int .i64 (.ofNat 0)), (.int .i64 (.ofNat 41)), (.int .i64 (.ofNat 0)), (.int .i64 (.ofNat 0))],
  [(.int .i64 (.ofNat 2))]]

set_option maxRecDepth 1000000 in
theorem tbRan : Ev.runI Tryz.prog ta 15 1000 [(.str 48 15769839640386785052786514878791632135226612257937940098538748731074979474256058197653017654478745155278489206202493)] tbrn tbp tbobjs = true := by kernel_rfl

noncomputable def tb : Ev.Wr := Ev.impW 15 [(.str 48 15769839640386785052786514878791632135226612257937940098538748731074979474256058197653017654478745155278489206202493)] tbp tbobjs ta
theorem tb_ok : Ev.WrOK Tryz.prog tb := Ev.impW_ok mixed ta_ok (by kernel_rfl) (by kernel_rfl) (by kernel_rfl) tbRan

end Go.Proofs.YtdigeeejmgkcoaaGreatDoor

namespace Go.Proofs.YtdigeeejmgkcoaaGreatDoor
variable [Ev.GTab] [Ev.SymC Tryz.prog 203 26]
set_option linter.unusedSectionVars false

def tcrn : List Nat := [3887, 4246, 4155, 4186, 4235]
def tcp : Ev.AVal := (.tuple [(.agg [(.slice 0 0 7 5 false), (.slice 1 0 1 5 false), (.int .i64 (.ofNat 0)), .nilSlice, .nilSlice]), (.agg [(.int .i64 (.ofNat 0)), (.int .i64 (.ofNat 0))]), (.int .i64 (.ofNat 0))])
def tcobjs : List (List Ev.AVal) := [[(.int .i64 (.ofNat 0)), (.str 0 0), (.int .i64 (.ofNat 0)), .nilSlice, .nilSlice, (.int .i64 (.ofNat 1)), (.str 3 6909556), (.int .i64 (.ofNat 0)), .nilSlice, .nilSlice, (.int .i64 (.ofNat 2)), (.str 4 1651470188), (.int .i64 (.ofNat 0)), .nilSlice, .nilSlice, (.int .i64 (.ofNat 3)), (.str 6 126943972912743), (.int .i64 (.ofNat 0)), .nilSlice, .nilSlice, (.int .i64 (.ofNat 4)), (.str 3 7235948), (.int .i64 (.ofNat 0)), .nilSlice, .nilSlice, (.int .i64 (.ofNat 5)), (.str 1 80), (.int .i64 (.ofNat 0)), .nilSlice, .nilSlice, (.int .i64 (.ofNat 7)), (.str 1 73), (.int .i64 (.ofNat 0)), .nilSlice, .nilSlice],
  [(.str 4 1835100526), (.slice 2 0 0 1 true), (.int .i64 (.ofNat 0)), (.slice 3 0 1 1 false), (.slice 4 0 6 3 false)],
  [],
  [(.int .i64 (.ofNat 6))],
  [(.int .i64 (.ofNat 4)), (.int .i64 (.ofNat 6)), (.int .i64 (.ofNat 0)), (.int .i64 (.ofNat 6)), (.int .i64 (.ofNat 0)), (.int .i64 (.ofNat 0)), (.int .i64 (.ofNat 5)), (.int .i64 (.ofNat 0)), (.int .i64 (.ofNat 0)), (.int .i64 (.ofNat 38)), (.int .i64 (.ofNat 5)), (.int .i64 (.ofNat 0)), (.int .i64 (.ofNat 6)), (.int .i64 (.ofNat 0)), (.int .i64 (.ofNat 0)), (.int .i64 (.ofNat 41)), (.int .i64 (.ofNat 0)), (.int .i64 (.ofNat 0))]]

set_option maxRecDepth 1000000 in
theorem tcRan : Ev.runI Tryz.prog tb 15 1000 [(.str 75 1887938347371716293844792920673657570820141254909626083825896261559288894458000964079109253393867039868035649944287670378691419722098148120221588903140947588149025543666397985972349)] tcrn tcp tcobjs = true := by kernel_rfl

noncomputable def tc : Ev.Wr := Ev.impW 15 [(.str 75 1887938347371716293844792920673657570820141254909626083825896261559288894458000964079109253393867039868035649944287670378691419722098148120221588903140947588149025543666397985972349)] tcp tcobjs tb
theorem tc_ok : Ev.WrOK Tryz.prog tc := Ev.impW_ok mixed tb_ok (by kernel_rfl) (by kernel_rfl) (by kernel_rfl) tcRan

end Go.Proofs.YtdigeeejmgkcoaaGreatDoor

namespace Go.Proofs.YtdigeeejmgkcoaaGreatDoor
variable [Ev.GTab] [Ev.SymC Tryz.prog 203 26]
set_option linter.unusedSectionVars false

def tdrn : List Nat := [3593, 3849, 3761, 3820, 3838, 3812]
def tdp : Ev.AVal := (.tuple [(.agg [(.slice 0 0 6 5 false), (.slice 1 0 1 5 false), (.int .i64 (.ofNat 0)), .nilSlice, (.slice 5 0 1 1 false)]), (.agg [(.int .i64 (.ofNat 0)), (.int .i64 (.ofNat 0))]), (.int .i64 (.ofNat 0))])
def tdobjs : List (List Ev.AVal) := [[(.int .i64 (.ofNat 0)), (.str 0 0), (.int .i64 (.ofNat 0)), .nilSlice, .nilSlice, (.int .i64 (.ofNat 1)), (.str 3 6909556), (.int .i64 (.ofNat 0)), .nilSlice, .nilSlice, (.int .i64 (.ofNat 2)), (.str 4 1651470188), (.int .i64 (.ofNat 0)), .nilSlice, .nilSlice, (.int .i64 (.ofNat 3)), (.str 6 126943972912743), (.int .i64 (.ofNat 0)), .nilSlice, .nilSlice, (.int .i64 (.ofNat 4)), (.str 3 7235948), (.int .i64 (.ofNat 0)), .nilSlice, .nilSlice, (.int .i64 (.ofNat 6)), (.str 0 0), (.int .i64 (.ofNat 1)), .nilSlice, .nilSlice],
  [(.str 4 1835100526), (.slice 2 0 0 1 true), (.int .i64 (.ofNat 0)), (.slice 3 0 1 1 false), (.slice 4 0 8 3 false)],
  [],
  [(.int .i64 (.ofNat 5))],
  [(.int .i64 (.ofNat 1)), (.int .i64 (.ofNat 0)), (.int .i64 (.ofNat 0)), (.int .i64 (.ofNat 13)), (.int .i64 (.ofNat 0)), (.int .i64 (.ofNat 0)), (.int .i64 (.ofNat 35)), (.int .i64 (.ofNat 5)), (.int .i64 (.ofNat 0)), (.int .i64 (.ofNat 6)), (.int .i64 (.ofNat 0)), (.int .i64 (.ofNat 0)), (.int .i64 (.ofNat 5)), (.int .i64 (.ofNat 0)), (.int .i64 (.ofNat 0)), (.int .i64 (.ofNat 33)), (.int .i64 (.ofNat 0)), (.int .i64 (.ofNat 0)), (.int .i64 (.ofNat 39)), (.int .i64 (.ofNat 1)), (.int .i64 (.ofNat 0)), (.int .i64 (.ofNat 41)), (.int .i64 (.ofNat 0)), (.int .i64 (.ofNat 0))],
  [(.int .i64 (.ofNat 1))]]

set_option maxRecDepth 1000000 in
theorem tdRan : Ev.runI Tryz.prog tc 15 1000 [(.str 51 264574005932131416376170762008701031325238082799672535628245871830970842835131959583762967981435410191336337089838388420733)] tdrn tdp tdobjs = true := by kernel_rfl

noncomputable def td : Ev.Wr := Ev.impW 15 [(.str 51 264574005932131416376170762008701031325238082799672535628245871830970842835131959583762967981435410191336337089838388420733)] tdp tdobjs tc
theorem td_ok : Ev.WrOK Tryz.prog td := Ev.impW_ok mixed tc_ok (by kernel_rfl) (by kernel_rfl) (by kernel_rfl) tdRan

end Go.Proofs.YtdigeeejmgkcoaaGreatDoor

namespace Go.Proofs.YtdigeeejmgkcoaaGreatDoor
variable [Ev.GTab] [Ev.SymC Tryz.prog 203 26]
set_option linter.unusedSectionVars false

def tern : List Nat := [2959, 3359, 3207, 3305, 3348, 3299]
def tep : Ev.AVal := (.tuple [(.agg [(.slice 0 0 5 5 true), (.slice 1 0 1 5 false), (.int .i64 (.ofNat 0)), (.slice 5 0 2 1 false), .nilSlice]), (.agg [(.int .i64 (.ofNat 0)), (.int .i64 (.ofNat 0))]), (.int .i64 (.ofNat 0))])
def teobjs : List (List Ev.AVal) := [[(.int .i64 (.ofNat 0)), (.str 0 0), (.int .i64 (.ofNat 0)), .nilSlice, .nilSlice, (.int .i64 (.ofNat 1)), (.str 3 6909556), (.int .i64 (.ofNat 0)), .nilSlice, .nilSlice, (.int .i64 (.ofNat 2)), (.str 4 1651470188), (.int .i64 (.ofNat 0)), .nilSlice, .nilSlice, (.int .i64 (.ofNat 3)), (.str 6 126943972912743), (.int .i64 (.ofNat 0)), .nilSlice, .nilSlice, (.int .i64 (.ofNat 4)), (.str 3 7235948), (.int .i64 (.ofNat 0)), .nilSlice, .nilSlice],
  [(.str 4 1835100526), (.slice 2 0 0 1 true), (.int .i64 (.ofNat 0)), (.slice 3 0 1 1 false), (.slice 4 0 8 3 false)],
  [],
  [(.int .i64 (.ofNat 3))],
  [(.int .i64 (.ofNat 3)), (.int .i64 (.ofNat 0)), (.int .i64 (.ofNat 0)), (.int .i64 (.ofNat 3)), (.int .i64 (.ofNat 1)), (.int .i64 (.ofNat 0)), (.int .i64 (.ofNat 21)), (.int .i64 (.ofNat 0)), (.int .i64 (.ofNat 0)), (.int .i64 (.ofNat 6)), (.int .i64 (.ofNat 0)), (.int .i64 (.ofNat 0)), (.int .i64 (.ofNat 5)), (.int .i64 (.ofNat 0)), (.int .i64 (.ofNat 0)), (.int .i64 (.ofNat 39)), (.int .i64 (.ofNat 3)), (.int .i64 (.ofNat 0)), (.int .i64 (.ofNat 26)), (.int .i64 (.ofNat 0)), (.int .i64 (.ofNat 0)), (.int .i64 (.ofNat 41)), (.int .i64 (.ofNat 0)), (.int .i64 (.ofNat 0))],
  [(.str 2 24930), (.str 1 99)]]

set_option maxRecDepth 1000000 in
theorem teRan : Ev.runI Tryz.prog td 15 1000 [(.str 49 4037078947939016973513347808970657692372356866322961483491780915853376277852829360171462691624764682734530927506825341)] tern tep teobjs = true := by kernel_rfl

noncomputable def te : Ev.Wr := Ev.impW 15 [(.str 49 4037078947939016973513347808970657692372356866322961483491780915853376277852829360171462691624764682734530927506825341)] tep teobjs td
theorem te_ok : Ev.WrOK Tryz.prog te := Ev.impW_ok mixed td_ok (by kernel_rfl) (by kernel_rfl) (by kernel_rfl) teRan

end Go.Proofs.YtdigeeejmgkcoaaGreatDoor

namespace Go.Proofs.YtdigeeejmgkcoaaGreatDoor
variable [Ev.GTab] [Ev.SymC Tryz.prog 203 26]
set_option linter.unusedSectionVars false

def tlrn : List Nat := [12113, 12165, 12425, 12403, 12225, 12205, 14172, 13500, 13559, 13749, 13778, 13818, 14161, 14108, 14153]
def tlp : Ev.AVal := (.tuple [(.agg [(.slice 0 0 7 5 false), (.slice 6 0 2 5 false), (.int .i64 (.ofNat 1)), (.slice 13 0 2 1 false), (.slice 14 0 4 1 false)]), (.agg [(.int .i64 (.ofNat 0)), (.int .i64 (.ofNat 0))]), (.int .i64 (.ofNat 0))])
def tlobjs : List (List Ev.AVal) := [[(.int .i64 (.ofNat 0)), (.str 0 0), (.int .i64 (.ofNat 0)), .nilSlice, .nilSlice, (.int .i64 (.ofNat 1)), (.str 3 6909556), (.int .i64 (.ofNat 0)), .nilSlice, .nilSlice, (.int .i64 (.ofNat 2)), (.str 4 1651470188), (.int .i64 (.ofNat 0)), .nilSlice, .nilSlice, (.int .i64 (.ofNat 3)), (.str 6 126943972912743), (.int .i64 (.ofNat 0)), .nilSlice, .nilSlice, (.int .i64 (.ofNat 4)), (.str 3 7235948), (.int .i64 (.ofNat 0)), .nilSlice, .nilSlice, (.int .i64 (.ofNat 5)), (.str 1 80), (.int .i64 (.ofNat 0)), (.slice 1 0 1 2 false), (.slice 2 0 1 4 false), (.int .i64 (.ofNat 7)), (.str 1 73), (.int .i64 (.ofNat 0)), .nilSlice, (.slice 4 0 1 4 false)],
  [(.str 1 120), (.int .i64 (.ofNat 1))],
  [(.str 1 109), (.slice 3 0 1 1 false), (.int .i64 (.ofNat 1)), (.int .i64 (.ofNat 0))],
  [(.int .i64 (.ofNat 1))],
  [(.str 1 109), (.slice 5 0 1 1 false), (.int .i64 (.ofNat 1)), (.int .i64 (.negSucc 0))],
  [(.int .i64 (.ofNat 1))],
  [(.str 3 5254765), (.slice 7 0 2 1 false), (.int .i64 (.ofNat 1)), (.slice 8 0 2 1 false), (.slice 9 0 10 3 false), (.str 4 1835100526), (.slice 10 0 0 1 true), (.int .i64 (.ofNat 0)), (.slice 11 0 1 1 false), (.slice 12 0 19 3 false)],
  [(.int .i64 (.ofNat 5)), (.int .i64 (.ofNat 1))],
  [(.int .i64 (.ofNat 5)), (.int .i64 (.ofNat 1))],
  [(.int .i64 (.ofNat 5)), (.int .i64 (.ofNat 0)), (.int .i64 (.ofNat 0)), (.int .i64 (.ofNat 5)), (.int .i64 (.ofNat 0)), (.int .i64 (.ofNat 0)), (.int .i64 (.ofNat 28)), (.int .i64 (.ofNat 0)), (.int .i64 (.ofNat 0)), (.int .i64 (.ofNat 5)), (.int .i64 (.ofNat 1)), (.int .i64 (.ofNat 0)), (.int .i64 (.ofNat 8)), (.int .i64 (.ofNat 0)), (.int .i64 (.ofNat 0)), (.int .i64 (.ofNat 29)), (.int .i64 (.ofNat 0)), (.int .i64 (.ofNat 0)), (.int .i64 (.ofNat 5)), (.int .i64 (.ofNat 0)), (.int .i64 (.ofNat 0)), (.int .i64 (.ofNat 28)), (.int .i64 (.ofNat 0)), (.int .i64 (.ofNat 0)), (.int .i64 (.ofNat 41)), (.int .i64 (.ofNat 1)), (.int .i64 (.ofNat 0)), (.int .i64 (.ofNat 26)), (.int .i64 (.ofNat 9)), (.int .i64 (.ofNat 0))],
  [],
  [(.int .i64 (.ofNat 6))],
  [(.int .i64 (.ofNat 34)), (.int .i64 (.ofNat 5)), (.int .i64 (.ofNat 0)), (.int .i64 (.ofNat 6)), (.int .i64 (.ofNat 0)), (.int .i64 (.ofNat 0)), (.int .i64 (.ofNat 5)), (.int .i64 (.ofNat 0)), (.int .i64 (.ofNat 0)), (.int .i64 (.ofNat 40)), (.int .i64 (.ofNat 0)), (.int .i64 (.ofNat 0)), (.int .i64 (.ofNat 37)), (.int .i64 (.ofNat 0)), (.int .i64 (.ofNat 2)), (.int .i64 (.ofNat 7)), (.int .i64 (.ofNat 0)), (.int .i64 (.ofNat 0)), (.int .i64 (.ofNat 5)), (.int .i64 (.ofNat 0)), (.int .i64 (.ofNat 0)), (.int .i64 (.ofNat 1)), (.int .i64 (.ofNat 0)), (.int .i64 (.ofNat 0)), (.int .i64 (.ofNat 37)), (.int .i64 (.ofNat 0)), (.int .i64 (.ofNat 2)), (.int .i64 (.ofNat 1)), (.int .i64 (.ofNat 1)), (.int .i64 (.ofNat 0)), (.int .i64 (.ofNat 12)), (.int .i64 (.ofNat 0)), (.int .i64 (.ofNat 0)), (.int .i64 (.ofNat 39)), (.int .i64 (.ofNat 1)), (.int .i64 (.ofNat 0)), (.int .i64 (.ofNat 3)), (.int .i64 (.ofNat 1)), (.int .i64 (.ofNat 0)), (.int .i64 (.ofNat 1)), (.int .i64 (.ofNat 2)), (.int .i64 (.ofNat 0)), (.int .i64 (.ofNat 32)), (.int .i64 (.ofNat 0)), (.int .i64 (.ofNat 0)), (.int .i64 (.ofNat 1)), (.int .i64 (.ofNat 3)), (.int .i64 (.ofNat 0)), (.int .i64 (.ofNat 15)), (.int .i64 (.ofNat 0)), (.int .i64 (.ofNat 0)), (.int .i64 (.ofNat 39)), (.int .i64 (.ofNat 2)), (.int .i64 (.ofNat 0)), (.int .i64 (.ofNat 41)), (.int .i64 (.ofNat 0)), (.int .i64 (.ofNat 0))],
  [(.str 1 109), (.str 2 24930)],
  [(.int .i64 (.ofNat 2)), (.int .i64 (.ofNat 4)), (.int .i64 (.ofNat 1)), (.int .i64 (.ofNat 98))]]

set_option maxRecDepth 1000000 in
theorem tlRan : Ev.runI Tryz.prog te 15 1000 [(.str 200 20229421890458110552975633942175731648675431828638822554993417927481628920464191338087498426837695033530398255802535938307777134041663681085392830038274978769995140788514835168764225345085983968006329897498403072795844827678125230718431211307418445878489090374795446407335354320360300414824550152694275095918256952799318184878503026938065550154848599969095380402059216929601784771069959038103565318249114026454478146666821735750411639469866684358518976053499094616066278328285864061)] tlrn tlp tlobjs = true := by kernel_rfl

noncomputable def tl : Ev.Wr := Ev.impW 15 [(.str 200 20229421890458110552975633942175731648675431828638822554993417927481628920464191338087498426837695033530398255802535938307777134041663681085392830038274978769995140788514835168764225345085983968006329897498403072795844827678125230718431211307418445878489090374795446407335354320360300414824550152694275095918256952799318184878503026938065550154848599969095380402059216929601784771069959038103565318249114026454478146666821735750411639469866684358518976053499094616066278328285864061)] tlp tlobjs te
theorem tl_ok : Ev.WrOK Tryz.prog tl := Ev.impW_ok mixed te_ok (by kernel_rfl) (by kernel_rfl) (by kernel_rfl) tlRan

end Go.Proofs.YtdigeeejmgkcoaaGreatDoor

namespace Go.Proofs.YtdigeeejmgkcoaaGreatDoor
variable [Ev.GTab] [Ev.SymC Tryz.prog 203 26]
set_option linter.unusedSectionVars false

def turn : List Nat := [1277, 1493, 1417, 1482]
def tup : Ev.AVal := (.tuple [(.agg [(.slice 0 0 5 5 true), (.slice 1 0 1 5 false), (.int .i64 (.ofNat 0)), .nilSlice, .nilSlice]), (.agg [(.int .i64 (.ofNat 0)), (.int .i64 (.ofNat 0))]), (.int .i64 (.ofNat 0))])
def tuobjs : List (List Ev.AVal) := [[(.int .i64 (.ofNat 0)), (.str 0 0), (.int .i64 (.ofNat 0)), .nilSlice, .nilSlice, (.int .i64 (.ofNat 1)), (.str 3 6909556), (.int .i64 (.ofNat 0)), .nilSlice, .nilSlice, (.int .i64 (.ofNat 2)), (.str 4 1651470188), (.int .i64 (.ofNat 0)), .nilSlice, .nilSlice, (.int .i64 (.ofNat 3)), (.str 6 126943972912743), (.int .i64 (.ofNat 0)), .nilSlice, .nilSlice, (.int .i64 (.ofNat 4)), (.str 3 7235948), (.int .i64 (.ofNat 0)), .nilSlice, .nilSlice],
  [(.str 4 1835100526), (.slice 2 0 0 1 true), (.int .i64 (.ofNat 0)), .nilSlice, (.slice 3 0 2 3 false)],
  [],
  [(.int .i64 (.ofNat 26)), (.int .i64 (.ofNat 0)), (.int .i64 (.ofNat 0)), (.int .i64 (.ofNat 41)), (.int .i64 (.ofNat 0)), (.int .i64 (.ofNat 0))]]

set_option maxRecDepth 1000000 in
theorem tuRan : Ev.runI Tryz.prog tl 15 1000 [(.str 23 9813595301154721620171654275696340825928277949935329405)] turn tup tuobjs = true := by kernel_rfl

noncomputable def tu : Ev.Wr := Ev.impW 15 [(.str 23 9813595301154721620171654275696340825928277949935329405)] tup tuobjs tl
theorem tu_ok : Ev.WrOK Tryz.prog tu := Ev.impW_ok mixed tl_ok (by kernel_rfl) (by kernel_rfl) (by kernel_rfl) tuRan

end Go.Proofs.YtdigeeejmgkcoaaGreatDoor

namespace Go.Proofs.YtdigeeejmgkcoaaGreatDoor
variable [Ev.GTab] [Ev.SymC Tryz.prog 203 26]
set_option linter.unusedSectionVars false

def tvrn : List Nat := [1431, 1613, 1559, 1602, 1596]
def tvp : Ev.AVal := (.tuple [(.agg [(.slice 0 0 5 5 true), (.slice 1 0 1 5 false), (.int .i64 (.ofNat 0)), (.slice 4 0 1 1 false), .nilSlice]), (.agg [(.int .i64 (.ofNat 0)), (.int .i64 (.ofNat 0))]), (.int .i64 (.ofNat 0))])
def tvobjs : List (List Ev.AVal) := [[(.int .i64 (.ofNat 0)), (.str 0 0), (.int .i64 (.ofNat 0)), .nilSlice, .nilSlice, (.int .i64 (.ofNat 1)), (.str 3 6909556), (.int .i64 (.ofNat 0)), .nilSlice, .nilSlice, (.int .i64 (.ofNat 2)), (.str 4 1651470188), (.int .i64 (.ofNat 0)), .nilSlice, .nilSlice, (.int .i64 (.ofNat 3)), (.str 6 126943972912743), (.int .i64 (.ofNat 0)), .nilSlice, .nilSlice, (.int .i64 (.ofNat 4)), (.str 3 7235948), (.int .i64 (.ofNat 0)), .nilSlice, .nilSlice],
  [(.str 4 1835100526), (.slice 2 0 0 1 true), (.int .i64 (.ofNat 0)), .nilSlice, (.slice 3 0 3 3 false)],
  [],
  [(.int .i64 (.ofNat 3)), (.int .i64 (.ofNat 0)), (.int .i64 (.ofNat 0)), (.int .i64 (.ofNat 39)), (.int .i64 (.ofNat 3)), (.int .i64 (.ofNat 0)), (.int .i64 (.ofNat 41)), (.int .i64 (.ofNat 0)), (.int .i64 (.ofNat 0))],
  [(.str 3 6382179)]]

set_option maxRecDepth 1000000 in
theorem tvRan : Ev.runI Tryz.prog tu 15 1000 [(.str 28 10790162143907532901023075589205594180462374577231466953789711917181)] tvrn tvp tvobjs = true := by kernel_rfl

noncomputable def tv : Ev.Wr := Ev.impW 15 [(.str 28 10790162143907532901023075589205594180462374577231466953789711917181)] tvp tvobjs tu
theorem tv_ok : Ev.WrOK Tryz.prog tv := Ev.impW_ok mixed tu_ok (by kernel_rfl) (by kernel_rfl) (by kernel_rfl) tvRan

end Go.Proofs.YtdigeeejmgkcoaaGreatDoor

