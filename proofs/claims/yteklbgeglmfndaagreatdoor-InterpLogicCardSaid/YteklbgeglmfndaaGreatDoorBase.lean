/-
  What is known of the library's functions at the evaluator's start: strings.Count and stringslite.IndexByte by the shelf's contracts; numerals (SymC). No condition.
-/
import Derived.Test.YteklbgeglmfndaaGreatDoorChecked
import Derived.Test.YteklbgeglmfndaaGreatDoorEvImp
import Derived.Test.YteklbgeglmfndaaGreatDoorEvSym
import Derived.Shelf.Strings.Count
import Derived.Shelf.Strings.Search1
import Derived.WalkKit
import Derived.ProofKit
namespace Go.Proofs.YteklbgeglmfndaaGreatDoor
open Go.Shelf in
def Tryz.lays138_ren : Go.Shelf.Ren := ⟨fun | 138 => 254 | 195 => 267 | 218 => 269 | 143 => 255 | 219 => 270 | 217 => 279 | 225 => 280 | 224 => 281 | 267 => 282 | 266 => 288 | 314 => 289 | n => n, fun | 9 => 9 | 3 => 3 | 4 => 4 | 5 => 5 | 0 => 0 | 46 => 222 | 146 => 303 | 51 => 294 | n => n, fun | 1 => 1 | n => n⟩
theorem Tryz.lays138 : Go.Proofs.Lays.n138 Tryz.prog Tryz.lays138_ren where
  mixed := by kernel_rfl
  f138 := Tryz.func254.trans (congrArg some (by kernel_rfl))
  f143 := Tryz.func255.trans (congrArg some (by kernel_rfl))
  f195 := Tryz.func267.trans (congrArg some (by kernel_rfl))
  f217 := Tryz.func279.trans (congrArg some (by kernel_rfl))
  f218 := Tryz.func269.trans (congrArg some (by kernel_rfl))
  f219 := Tryz.func270.trans (congrArg some (by kernel_rfl))
  f224 := Tryz.func281.trans (congrArg some (by kernel_rfl))
  f225 := Tryz.func280.trans (congrArg some (by kernel_rfl))
  f266 := Tryz.func288.trans (congrArg some (by kernel_rfl))
  f267 := Tryz.func282.trans (congrArg some (by kernel_rfl))
  f314 := Tryz.func289.trans (congrArg some (by kernel_rfl))
  t0 := Tryz.underlying0
  a0 := Tryz.isAgg0
  z0 := Tryz.sizeOf0
  v0 := Tryz.zeroValue0
  t3 := Tryz.underlying3
  a3 := Tryz.isAgg3
  z3 := Tryz.sizeOf3
  v3 := Tryz.zeroValue3
  t4 := Tryz.underlying4
  a4 := Tryz.isAgg4
  z4 := Tryz.sizeOf4
  v4 := Tryz.zeroValue4
  t5 := Tryz.underlying5
  a5 := Tryz.isAgg5
  z5 := Tryz.sizeOf5
  v5 := Tryz.zeroValue5
  t9 := Tryz.underlying9
  a9 := Tryz.isAgg9
  z9 := Tryz.sizeOf9
  v9 := Tryz.zeroValue9
  t46 := Tryz.underlying222
  a46 := Tryz.isAgg222
  z46 := Tryz.sizeOf222
  v46 := Tryz.zeroValue222
  t51 := Tryz.underlying294
  a51 := Tryz.isAgg294
  z51 := Tryz.sizeOf294
  v51 := Tryz.zeroValue294
  t146 := Tryz.underlying303
  a146 := Tryz.isAgg303
  z146 := Tryz.sizeOf303
  v146 := Tryz.zeroValue303
  g1 := by kernel_rfl
open Go.Shelf in
def Tryz.lays217_ren : Go.Shelf.Ren := ⟨fun | 217 => 279 | 266 => 288 | n => n, fun | 9 => 9 | 5 => 5 | 3 => 3 | n => n, fun | n => n⟩
theorem Tryz.lays217 : Go.Proofs.Lays.n217 Tryz.prog Tryz.lays217_ren where
  mixed := by kernel_rfl
  f217 := Tryz.func279.trans (congrArg some (by kernel_rfl))
  f266 := Tryz.func288.trans (congrArg some (by kernel_rfl))
  t3 := Tryz.underlying3
  a3 := Tryz.isAgg3
  z3 := Tryz.sizeOf3
  v3 := Tryz.zeroValue3
  t5 := Tryz.underlying5
  a5 := Tryz.isAgg5
  z5 := Tryz.sizeOf5
  v5 := Tryz.zeroValue5
  t9 := Tryz.underlying9
  a9 := Tryz.isAgg9
  z9 := Tryz.sizeOf9
  v9 := Tryz.zeroValue9

theorem own : ownKnob Tryz.prog.godebug = none := by kernel_rfl

theorem mixed : Tryz.prog.follows .mixedOrders = true := by kernel_rfl

theorem texts : Ev.TextOK Tryz.prog 254 279 := ⟨Any.strings_Count_one Tryz.lays138, Any.stringslite_IndexByte Tryz.lays217⟩

variable [Ev.GTab] [Ev.SymC Tryz.prog 206 29]
set_option linter.unusedSectionVars false

noncomputable def w0 : Ev.Wr := Ev.orcW (Ev.symOrc 206 29 (Ev.textOrc 254 279 Ev.noOrc))
theorem w0_ok : Ev.WrOK Tryz.prog w0 := Ev.orcW_ok (Ev.symOrc_ok (Ev.textOrc_ok (Ev.noOrc_ok _) texts) Ev.SymC.ok)

end Go.Proofs.YteklbgeglmfndaaGreatDoor
