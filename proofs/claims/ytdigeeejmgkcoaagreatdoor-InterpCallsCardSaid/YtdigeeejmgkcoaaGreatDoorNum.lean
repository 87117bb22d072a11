/-
  Numerals: strconv.FormatInt by the shelf's contract (it reads a table that the row lists); the reference's Digits, walked. No condition but the table.
-/
import Derived.Test.YtdigeeejmgkcoaaGreatDoorBase
import Derived.Shelf.Strconv.Itoa4
import Derived.Lib.LaidTab
namespace Go.Proofs.YtdigeeejmgkcoaaGreatDoor
open Go.Shelf in
shelf_lay LaysM.n173 Nm 173 at Tryz as Tryz.laysM173

theorem gPow : Tryz.prog.globalNamed "internal/strconv.uint64pow10" = some 0 := by kernel_rfl
theorem gPowType : (Tryz.prog.globals[0]?).map (·.type) = some 292 := by kernel_rfl

def powCells : Array Value := (Lib.pow10Tab.map fun z => Value.int .u64 z).toArray

/-- What is asked of the world: the table. -/
def TabAt (w : World) (t : TypeId) (fz : Nat × Nat) : Prop := w.heap[0]? = some (.cells powCells t fz)

theorem tab_of {w : World} (h : Lib.TabIs Tryz.prog w "internal/strconv.uint64pow10" .u64 Lib.pow10Tab) : ∃ t fz, TabAt w t fz := by
  unfold Lib.TabIs World.var? at h
  rw [gPow] at h
  simp only [Option.bind_some] at h
  split at h <;> first | (cases h; done) | skip
  rename_i cs t fz hc
  cases h
  exact ⟨t, fz, hc⟩

theorem tab_at {w : World} {t : TypeId} {fz : Nat × Nat} (h : TabAt w t fz) : Lib.TabIs Tryz.prog w "internal/strconv.uint64pow10" .u64 Lib.pow10Tab := by
  unfold Lib.TabIs World.var?
  rw [gPow]
  unfold TabAt at h
  simp only [Option.bind_some, h]
  rfl

theorem fmt_ok [Ev.GTab] {t : TypeId} {fz : Nat × Nat} (hb : Ev.GTab.blk 0 = some (.cells powCells t fz)) (n : Int) (w : World) (h0 : -9223372036854775808 ≤ n) (h1 : n ≤ 9223372036854775807) (hg : Ev.Glob (fun _ => none) w) :
    Calls Tryz.prog 203 #[.int .i64 n, .int .i64 10] w fun e w' => e = .returned (.string ⟨(Lib.itoa n).toArray⟩) ∧ w'.tape = w.tape ∧ Ev.Kept w w' := by
  refine (Any.strconv_FormatInt_10 Tryz.laysM173 n h0 h1 w (tab_at (hg.blk _ _ hb).2.2)).mono fun e w' ⟨he, k, os, hw⟩ => ?_
  subst hw
  refine ⟨he, rfl, rfl, rfl, ?_, fun i hi => ?_⟩
  · simp [Go.Sort.grow, World.drewN]
  · simp only [Go.Sort.grow, World.drewN]
    rw [Array.getElem?_append_left hi]

/-- From the row's list to the table. -/
theorem tab_laid {w : World} {x0 : String × DataW Unit} {x1 : String × DataW Unit} {rest : List (String × DataW Unit)} (h : laidMet Tryz.prog (x0 :: x1 :: ("internal/strconv.uint64pow10", Lib.tabData .u64 Lib.pow10Tab) :: rest) w) : ∃ t fz, TabAt w t fz := by
  obtain ⟨ps, ⟨_, _, _, _, _, _, _, _, _, _, ⟨_, _, _, _, _, _, _, _, _, _, ⟨g, t, cs, f, p, q, hg, ht, hv, hd, _, _⟩, _⟩, _⟩, _⟩ := h
  obtain rfl := Option.some.inj (gPow.symm.trans hg)
  obtain rfl := Option.some.inj (gPowType.symm.trans ht)
  refine tab_of ?_
  unfold Lib.TabIs
  rw [hv, ← Lib.cells_of_tab Tryz.underlying292 Tryz.underlying64 (by kernel_rfl) (by kernel_rfl) hd]

end Go.Proofs.YtdigeeejmgkcoaaGreatDoor
