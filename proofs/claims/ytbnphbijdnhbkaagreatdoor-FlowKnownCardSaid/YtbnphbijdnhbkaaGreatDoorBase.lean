/-
  What is known of the library's functions at the evaluator's start: strings.Count and stringslite.IndexByte by the shelf's contracts. No condition.
-/
import Derived.Test.YtbnphbijdnhbkaaGreatDoorChecked
import Derived.Test.YtbnphbijdnhbkaaGreatDoorEvImp
import Derived.Test.YtbnphbijdnhbkaaGreatDoorEvText
import Derived.Shelf.Strings.Count
import Derived.Shelf.Strings.Search1
import Derived.WalkKit
import Derived.ProofKit
namespace Go.Proofs.YtbnphbijdnhbkaaGreatDoor
open Go.Shelf in
def Tryz.lays138_ren : Go.Shelf.Ren := ⟨fun | 138 => 241 | 195 => 292 | 218 => 294 | 143 => 242 | 219 => 295 | 217 => 226 | 225 => 336 | 224 => 337 | 267 => 338 | 266 => 280 | 314 => 359 | n => n, fun | 9 => 9 | 3 => 3 | 4 => 4 | 5 => 5 | 0 => 0 | 46 => 222 | 146 => 345 | 51 => 300 | n => n, fun | 1 => 1 | n => n⟩
theorem Tryz.lays138 : Go.Proofs.Lays.n138 Tryz.prog Tryz.lays138_ren where
  mixed := by kernel_rfl
  f138 := Tryz.func241.trans (congrArg some (by kernel_rfl))
  f143 := Tryz.func242.trans (congrArg some (by kernel_rfl))
  f195 := Tryz.func292.trans (congrArg some (by kernel_rfl))
  f217 := Tryz.func226.trans (congrArg some (by kernel_rfl))
  f218 := Tryz.func294.trans (congrArg some (by kernel_rfl))
  f219 := Tryz.func295.trans (congrArg some (by kernel_rfl))
  f224 := Tryz.func337.trans (congrArg some (by kernel_rfl))
  f225 := Tryz.func336.trans (congrArg some (by kernel_rfl))
  f266 := Tryz.func280.trans (congrArg some (by kernel_rfl))
  f267 := Tryz.func338.trans (congrArg some (by kernel_rfl))
  f314 := Tryz.func359.trans (congrArg some (by kernel_rfl))
  t0 := Tryz.underlying0
  a0 := Tryz.isAgg0
  z0 := Tryz.sizeOf0
  v0 := Tryz.zeroValue0
  t3 := Tryz.underlying3
  a3 := Tryz.isAgg3
  z3 := Tryz.sizeOf3
  v3 := Tryz.zeroValue3
  t4 := Tryz.underlying4
  a4 := Tryz.isAgg4
  z4 := Tryz.sizeOf4
  v4 := Tryz.zeroValue4
  t5 := Tryz.underlying5
  a5 := Tryz.isAgg5
  z5 := Tryz.sizeOf5
  v5 := Tryz.zeroValue5
  t9 := Tryz.underlying9
  a9 := Tryz.isAgg9
  z9 := Tryz.sizeOf9
  v9 := Tryz.zeroValue9
  t46 := Tryz.underlying222
  a46 := Tryz.isAgg222
  z46 := Tryz.sizeOf222
  v46 := Tryz.zeroValue222
  t51 := Tryz.underlying300
  a51 := Tryz.isAgg300
  z51 := Tryz.sizeOf300
  v51 := Tryz.zeroValue300
  t146 := Tryz.underlying345
  a146 := Tryz.isAgg345
  z146 := Tryz.sizeOf345
  v146 := Tryz.zeroValue345
  g1 := by kernel_rfl
open Go.Shelf in
def Tryz.lays217_ren : Go.Shelf.Ren := ⟨fun | 217 => 226 | 266 => 280 | n => n, fun | 9 => 9 | 5 => 5 | 3 => 3 | n => n, fun | n => n⟩
theorem Tryz.lays217 : Go.Proofs.Lays.n217 Tryz.prog Tryz.lays217_ren where
  mixed := by kernel_rfl
  f217 := Tryz.func226.trans (congrArg some (by kernel_rfl))
  f266 := Tryz.func280.trans (congrArg some (by kernel_rfl))
  t3 := Tryz.underlying3
  a3 := Tryz.isAgg3
  z3 := Tryz.sizeOf3
  v3 := Tryz.zeroValue3
  t5 := Tryz.underlying5
  a5 := Tryz.isAgg5
  z5 := Tryz.sizeOf5
  v5 := Tryz.zeroValue5
  t9 := Tryz.underlying9
  a9 := Tryz.isAgg9
  z9 := Tryz.sizeOf9
  v9 := Tryz.zeroValue9

theorem own : ownKnob Tryz.prog.godebug = none := by kernel_rfl

theorem mixed : Tryz.prog.follows .mixedOrders = true := by kernel_rfl

noncomputable instance vars : Ev.GTab := ⟨fun _ => none⟩

theorem texts : Ev.TextOK Tryz.prog 241 226 := ⟨Any.strings_Count_one Tryz.lays138, Any.stringslite_IndexByte Tryz.lays217⟩

noncomputable def orc0 : Ev.Orc := Ev.textOrc 241 226 Ev.noOrc
theorem orc0_ok : Ev.OrcOK Tryz.prog orc0 := Ev.textOrc_ok (Ev.noOrc_ok _) texts

noncomputable def w0 : Ev.Wr := Ev.orcW orc0
theorem w0_ok : Ev.WrOK Tryz.prog w0 := Ev.orcW_ok orc0_ok

end Go.Proofs.YtbnphbijdnhbkaaGreatDoor
