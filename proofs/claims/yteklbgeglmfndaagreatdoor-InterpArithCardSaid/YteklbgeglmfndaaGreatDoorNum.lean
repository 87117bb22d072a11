/-
  Numerals: strconv.FormatInt by the shelf's contract (it reads a table that the row lists); the reference's Digits, walked. No condition but the table.
-/
import Derived.Test.YteklbgeglmfndaaGreatDoorBase
import Derived.Shelf.Strconv.Itoa4
import Derived.Lib.LaidTab
namespace Go.Proofs.YteklbgeglmfndaaGreatDoor
open Go.Shelf in
def Tryz.laysM173_ren : Go.Shelf.Ren := ⟨fun | 173 => 206 | 246 => 238 | 283 => 256 | 284 => 257 | 285 => 258 | 286 => 259 | 129 => 272 | 317 => 271 | 318 => 273 | 319 => 274 | 320 => 275 | 337 => 283 | 338 => 284 | n => n, fun | 2 => 2 | 3 => 3 | 9 => 9 | 4 => 4 | 171 => 283 | 0 => 0 | 53 => 66 | 37 => 141 | 5 => 5 | 173 => 285 | 212 => 293 | 51 => 294 | 20 => 20 | 213 => 295 | 46 => 222 | 232 => 305 | 233 => 306 | n => n, fun | 17 => 0 | 18 => 4 | 19 => 5 | n => n⟩
theorem Tryz.laysM173 : Go.Proofs.LaysM.n173 Tryz.prog Tryz.laysM173_ren where
  mixed := by kernel_rfl
  f129 := Tryz.func272.trans (congrArg some (by kernel_rfl))
  f173 := Tryz.func206.trans (congrArg some (by kernel_rfl))
  f246 := Tryz.func238.trans (congrArg some (by kernel_rfl))
  f283 := Tryz.func256.trans (congrArg some (by kernel_rfl))
  f284 := Tryz.func257.trans (congrArg some (by kernel_rfl))
  f285 := Tryz.func258.trans (congrArg some (by kernel_rfl))
  f286 := Tryz.func259.trans (congrArg some (by kernel_rfl))
  f317 := Tryz.func271.trans (congrArg some (by kernel_rfl))
  f318 := Tryz.func273.trans (congrArg some (by kernel_rfl))
  f319 := Tryz.func274.trans (congrArg some (by kernel_rfl))
  f320 := Tryz.func275.trans (congrArg some (by kernel_rfl))
  f337 := Tryz.func283.trans (congrArg some (by kernel_rfl))
  f338 := Tryz.func284.trans (congrArg some (by kernel_rfl))
  t0 := Tryz.underlying0
  a0 := Tryz.isAgg0
  z0 := Tryz.sizeOf0
  v0 := Tryz.zeroValue0
  t2 := Tryz.underlying2
  a2 := Tryz.isAgg2
  z2 := Tryz.sizeOf2
  v2 := Tryz.zeroValue2
  t3 := Tryz.underlying3
  a3 := Tryz.isAgg3
  z3 := Tryz.sizeOf3
  v3 := Tryz.zeroValue3
  t4 := Tryz.underlying4
  a4 := Tryz.isAgg4
  z4 := Tryz.sizeOf4
  v4 := Tryz.zeroValue4
  t5 := Tryz.underlying5
  a5 := Tryz.isAgg5
  z5 := Tryz.sizeOf5
  v5 := Tryz.zeroValue5
  t9 := Tryz.underlying9
  a9 := Tryz.isAgg9
  z9 := Tryz.sizeOf9
  v9 := Tryz.zeroValue9
  t20 := Tryz.underlying20
  a20 := Tryz.isAgg20
  z20 := Tryz.sizeOf20
  v20 := Tryz.zeroValue20
  t37 := Tryz.underlying141
  a37 := Tryz.isAgg141
  z37 := Tryz.sizeOf141
  v37 := Tryz.zeroValue141
  t46 := Tryz.underlying222
  a46 := Tryz.isAgg222
  z46 := Tryz.sizeOf222
  v46 := Tryz.zeroValue222
  t51 := Tryz.underlying294
  a51 := Tryz.isAgg294
  z51 := Tryz.sizeOf294
  v51 := Tryz.zeroValue294
  t53 := Tryz.underlying66
  a53 := Tryz.isAgg66
  z53 := Tryz.sizeOf66
  v53 := Tryz.zeroValue66
  t171 := Tryz.underlying283
  a171 := Tryz.isAgg283
  z171 := Tryz.sizeOf283
  v171 := Tryz.zeroValue283
  t173 := Tryz.underlying285
  a173 := Tryz.isAgg285
  z173 := Tryz.sizeOf285
  v173 := Tryz.zeroValue285
  t212 := Tryz.underlying293
  a212 := Tryz.isAgg293
  z212 := Tryz.sizeOf293
  v212 := Tryz.zeroValue293
  t213 := Tryz.underlying295
  a213 := Tryz.isAgg295
  z213 := Tryz.sizeOf295
  t232 := Tryz.underlying305
  a232 := Tryz.isAgg305
  z232 := Tryz.sizeOf305
  v232 := Tryz.zeroValue305
  t233 := Tryz.underlying306
  a233 := Tryz.isAgg306
  z233 := Tryz.sizeOf306
  v233 := Tryz.zeroValue306
  g17 := by kernel_rfl
  g18 := by kernel_rfl
  g19 := by kernel_rfl
  i0 := by kernel_rfl
  i2 := by kernel_rfl
  i3 := by kernel_rfl
  i4 := by kernel_rfl
  i5 := by kernel_rfl
  i9 := by kernel_rfl
  i20 := by kernel_rfl
  i37 := by kernel_rfl
  i46 := by kernel_rfl
  i51 := by kernel_rfl
  i53 := by kernel_rfl
  i171 := by kernel_rfl
  i173 := by kernel_rfl
  i212 := by kernel_rfl
  i232 := by kernel_rfl
  i233 := by kernel_rfl
  m17 := by kernel_rfl
  m18 := by kernel_rfl
  m19 := by kernel_rfl

theorem gPow : Tryz.prog.globalNamed "internal/strconv.uint64pow10" = some 0 := by kernel_rfl
theorem gPowType : (Tryz.prog.globals[0]?).map (·.type) = some 293 := by kernel_rfl

def powCells : Array Value := (Lib.pow10Tab.map fun z => Value.int .u64 z).toArray

/-- What is asked of the world: the table. -/
def TabAt (w : World) (t : TypeId) (fz : Nat × Nat) : Prop := w.heap[0]? = some (.cells powCells t fz)

theorem tab_of {w : World} (h : Lib.TabIs Tryz.prog w "internal/strconv.uint64pow10" .u64 Lib.pow10Tab) : ∃ t fz, TabAt w t fz := by
  unfold Lib.TabIs World.var? at h
  rw [gPow] at h
  simp only [Option.bind_some] at h
  split at h <;> first | (cases h; done) | skip
  rename_i cs t fz hc
  cases h
  exact ⟨t, fz, hc⟩

theorem tab_at {w : World} {t : TypeId} {fz : Nat × Nat} (h : TabAt w t fz) : Lib.TabIs Tryz.prog w "internal/strconv.uint64pow10" .u64 Lib.pow10Tab := by
  unfold Lib.TabIs World.var?
  rw [gPow]
  unfold TabAt at h
  simp only [Option.bind_some, h]
  rfl

theorem fmt_ok [Ev.GTab] {t : TypeId} {fz : Nat × Nat} (hb : Ev.GTab.blk 0 = some (.cells powCells t fz)) (n : Int) (w : World) (h0 : -9223372036854775808 ≤ n) (h1 : n ≤ 9223372036854775807) (hg : Ev.Glob (fun _ => none) w) :
    Calls Tryz.prog 206 #[.int .i64 n, .int .i64 10] w fun e w' => e = .returned (.string ⟨(Lib.itoa n).toArray⟩) ∧ w'.tape = w.tape ∧ Ev.Kept w w' := by
  refine (Any.strconv_FormatInt_10 Tryz.laysM173 n h0 h1 w (tab_at (hg.blk _ _ hb).2.2)).mono fun e w' ⟨he, k, os, hw⟩ => ?_
  subst hw
  refine ⟨he, rfl, rfl, rfl, ?_, fun i hi => ?_⟩
  · simp [Go.Sort.grow, World.drewN]
  · simp only [Go.Sort.grow, World.drewN]
    rw [Array.getElem?_append_left hi]

/-- From the row's list to the table. -/
theorem tab_laid {w : World} {x0 : String × DataW Unit} {x1 : String × DataW Unit} {rest : List (String × DataW Unit)} (h : laidMet Tryz.prog (x0 :: x1 :: ("internal/strconv.uint64pow10", Lib.tabData .u64 Lib.pow10Tab) :: rest) w) : ∃ t fz, TabAt w t fz := by
  obtain ⟨ps, ⟨_, _, _, _, _, _, _, _, _, _, ⟨_, _, _, _, _, _, _, _, _, _, ⟨g, t, cs, f, p, q, hg, ht, hv, hd, _, _⟩, _⟩, _⟩, _⟩ := h
  obtain rfl := Option.some.inj (gPow.symm.trans hg)
  obtain rfl := Option.some.inj (gPowType.symm.trans ht)
  refine tab_of ?_
  unfold Lib.TabIs
  rw [hv, ← Lib.cells_of_tab Tryz.underlying293 Tryz.underlying66 (by kernel_rfl) (by kernel_rfl) hd]

end Go.Proofs.YteklbgeglmfndaaGreatDoor
