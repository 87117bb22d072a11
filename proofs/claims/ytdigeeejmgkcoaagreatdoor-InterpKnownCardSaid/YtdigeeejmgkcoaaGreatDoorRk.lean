/-
  A call that is run once in the kernel by the evaluator: of its result the numbers are known from then on. No condition.
-/
import Derived.Test.YtdigeeejmgkcoaaGreatDoorTk
import Derived.Test.YtdigeeejmgkcoaaGreatDoorEvSymTab
namespace Go.Proofs.YtdigeeejmgkcoaaGreatDoor
variable [Ev.GTab] [Ev.SymC Tryz.prog 203 26]
set_option linter.unusedSectionVars false

set_option maxRecDepth 1000000 in
theorem raRan : Ev.runVW Tryz.prog tv 9 1000 [(.str 60 1420326951703179502128894275757288010203304454813418158078748678207463740697145674494129778164730416608570545970561023493350768761259312783368317), .int .i64 (.ofNat 100), .nilSlice, .int .i64 (.ofNat 99)] (.tuple [.und, .int .i64 (.ofNat 2), .int .i64 (.ofNat 3)]) = true := by kernel_rfl

noncomputable def ra : Ev.Wr := Ev.valW 9 [(.str 60 1420326951703179502128894275757288010203304454813418158078748678207463740697145674494129778164730416608570545970561023493350768761259312783368317), .int .i64 (.ofNat 100), .nilSlice, .int .i64 (.ofNat 99)] (.tuple [.und, .int .i64 (.ofNat 2), .int .i64 (.ofNat 3)]) tv
theorem ra_ok : Ev.WrOK Tryz.prog ra := Ev.valW_ok mixed tv_ok (by kernel_rfl) raRan

end Go.Proofs.YtdigeeejmgkcoaaGreatDoor

namespace Go.Proofs.YtdigeeejmgkcoaaGreatDoor
variable [Ev.GTab] [Ev.SymC Tryz.prog 203 26]
set_option linter.unusedSectionVars false

set_option maxRecDepth 1000000 in
theorem rbRan : Ev.runVW Tryz.prog ra 9 1000 [(.str 48 15769839640386785052786514878791632135226612257937940098538748731074979474256058197653017654478745155278489206202493), .int .i64 (.ofNat 100), .nilSlice, .int .i64 (.ofNat 99)] (.tuple [.und, .int .i64 (.ofNat 2), .int .i64 (.ofNat 2)]) = true := by kernel_rfl

noncomputable def rb : Ev.Wr := Ev.valW 9 [(.str 48 15769839640386785052786514878791632135226612257937940098538748731074979474256058197653017654478745155278489206202493), .int .i64 (.ofNat 100), .nilSlice, .int .i64 (.ofNat 99)] (.tuple [.und, .int .i64 (.ofNat 2), .int .i64 (.ofNat 2)]) ra
theorem rb_ok : Ev.WrOK Tryz.prog rb := Ev.valW_ok mixed ra_ok (by kernel_rfl) rbRan

end Go.Proofs.YtdigeeejmgkcoaaGreatDoor

namespace Go.Proofs.YtdigeeejmgkcoaaGreatDoor
variable [Ev.GTab] [Ev.SymC Tryz.prog 203 26]
set_option linter.unusedSectionVars false

set_option maxRecDepth 1000000 in
theorem rcRan : Ev.runVW Tryz.prog rb 9 1000 [(.str 75 1887938347371716293844792920673657570820141254909626083825896261559288894458000964079109253393867039868035649944287670378691419722098148120221588903140947588149025543666397985972349), .int .i64 (.ofNat 100), .nilSlice, .int .i64 (.ofNat 99)] (.tuple [.und, .int .i64 (.ofNat 2), .int .i64 (.ofNat 4)]) = true := by kernel_rfl

noncomputable def rc : Ev.Wr := Ev.valW 9 [(.str 75 1887938347371716293844792920673657570820141254909626083825896261559288894458000964079109253393867039868035649944287670378691419722098148120221588903140947588149025543666397985972349), .int .i64 (.ofNat 100), .nilSlice, .int .i64 (.ofNat 99)] (.tuple [.und, .int .i64 (.ofNat 2), .int .i64 (.ofNat 4)]) rb
theorem rc_ok : Ev.WrOK Tryz.prog rc := Ev.valW_ok mixed rb_ok (by kernel_rfl) rcRan

end Go.Proofs.YtdigeeejmgkcoaaGreatDoor

namespace Go.Proofs.YtdigeeejmgkcoaaGreatDoor
variable [Ev.GTab] [Ev.SymC Tryz.prog 203 26]
set_option linter.unusedSectionVars false

set_option maxRecDepth 1000000 in
theorem rdRan : Ev.runVW Tryz.prog rc 9 1000 [(.str 51 264574005932131416376170762008701031325238082799672535628245871830970842835131959583762967981435410191336337089838388420733), .int .i64 (.ofNat 100), .nilSlice, .int .i64 (.ofNat 99)] (.tuple [.und, .int .i64 (.ofNat 2), .int .i64 (.ofNat 5)]) = true := by kernel_rfl

noncomputable def rd : Ev.Wr := Ev.valW 9 [(.str 51 264574005932131416376170762008701031325238082799672535628245871830970842835131959583762967981435410191336337089838388420733), .int .i64 (.ofNat 100), .nilSlice, .int .i64 (.ofNat 99)] (.tuple [.und, .int .i64 (.ofNat 2), .int .i64 (.ofNat 5)]) rc
theorem rd_ok : Ev.WrOK Tryz.prog rd := Ev.valW_ok mixed rc_ok (by kernel_rfl) rdRan

end Go.Proofs.YtdigeeejmgkcoaaGreatDoor

namespace Go.Proofs.YtdigeeejmgkcoaaGreatDoor
variable [Ev.GTab] [Ev.SymC Tryz.prog 203 26]
set_option linter.unusedSectionVars false

set_option maxRecDepth 1000000 in
theorem reRan : Ev.runVW Tryz.prog rd 9 1000 [(.str 49 4037078947939016973513347808970657692372356866322961483491780915853376277852829360171462691624764682734530927506825341), .int .i64 (.ofNat 30), .nilSlice, .int .i64 (.ofNat 999)] (.tuple [.und, .int .i64 (.ofNat 2), .int .i64 (.ofNat 7)]) = true := by kernel_rfl

noncomputable def re : Ev.Wr := Ev.valW 9 [(.str 49 4037078947939016973513347808970657692372356866322961483491780915853376277852829360171462691624764682734530927506825341), .int .i64 (.ofNat 30), .nilSlice, .int .i64 (.ofNat 999)] (.tuple [.und, .int .i64 (.ofNat 2), .int .i64 (.ofNat 7)]) rd
theorem re_ok : Ev.WrOK Tryz.prog re := Ev.valW_ok mixed rd_ok (by kernel_rfl) reRan

end Go.Proofs.YtdigeeejmgkcoaaGreatDoor

namespace Go.Proofs.YtdigeeejmgkcoaaGreatDoor
variable [Ev.GTab] [Ev.SymC Tryz.prog 203 26]
set_option linter.unusedSectionVars false

set_option maxRecDepth 1000000 in
theorem ruRan : Ev.runVW Tryz.prog re 9 1000 [(.str 23 9813595301154721620171654275696340825928277949935329405), .int .i64 (.ofNat 100), .nilSlice, .int .i64 (.ofNat 999)] (.tuple [.und, .int .i64 (.ofNat 0), .int .i64 (.ofNat 0)]) = true := by kernel_rfl

noncomputable def ru : Ev.Wr := Ev.valW 9 [(.str 23 9813595301154721620171654275696340825928277949935329405), .int .i64 (.ofNat 100), .nilSlice, .int .i64 (.ofNat 999)] (.tuple [.und, .int .i64 (.ofNat 0), .int .i64 (.ofNat 0)]) re
theorem ru_ok : Ev.WrOK Tryz.prog ru := Ev.valW_ok mixed re_ok (by kernel_rfl) ruRan

end Go.Proofs.YtdigeeejmgkcoaaGreatDoor

namespace Go.Proofs.YtdigeeejmgkcoaaGreatDoor
variable [Ev.GTab] [Ev.SymC Tryz.prog 203 26]
set_option linter.unusedSectionVars false

set_option maxRecDepth 1000000 in
theorem rvRan : Ev.runVW Tryz.prog ru 9 1000 [(.str 28 10790162143907532901023075589205594180462374577231466953789711917181), .int .i64 (.ofNat 3), .nilSlice, .int .i64 (.ofNat 99)] (.tuple [.und, .int .i64 (.ofNat 2), .int .i64 (.ofNat 7)]) = true := by kernel_rfl

noncomputable def rv : Ev.Wr := Ev.valW 9 [(.str 28 10790162143907532901023075589205594180462374577231466953789711917181), .int .i64 (.ofNat 3), .nilSlice, .int .i64 (.ofNat 99)] (.tuple [.und, .int .i64 (.ofNat 2), .int .i64 (.ofNat 7)]) ru
theorem rv_ok : Ev.WrOK Tryz.prog rv := Ev.valW_ok mixed ru_ok (by kernel_rfl) rvRan

end Go.Proofs.YtdigeeejmgkcoaaGreatDoor

