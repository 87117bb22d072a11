/-
  CheckFits returns true for all inputs. Numbers are brought within bounds by Pick; each case is run by an evaluator that is proved right (the texts Ev..), in the kernel. No condition.
  (The frame below began as the kit's proof-skeleton; the walk is own work.)
-/
import Derived.Test.YtgopindnodppdaaGreatRows
import Derived.Test.YtgopindnodppdaaGreatEvPick
import Derived.Test.YtgopindnodppdaaGreatPickWalk
import Derived.WalkKit
import Derived.ProofKit
import Derived.OpenShut
namespace Go.Proofs.YtgopindnodppdaaGreat.checkFits
open Go.ChangeShapes Go.WideShapes Go.ChangeAt Go.RowKit
set_option linter.unusedVariables false

theorem own : ownKnob Tryz.prog.godebug = none := by kernel_rfl

theorem mixed : Tryz.prog.follows .mixedOrders = true := by kernel_rfl

set_option maxRecDepth 1000000 in
theorem knownRan : Ev.runT Tryz.prog Ev.noOrc 9 1000 [] = true := by kernel_rfl

noncomputable abbrev orc : Ev.Orc := Ev.pickOrc 10 (Ev.trueOrc 9 Ev.noOrc)

theorem orcOK : Ev.OrcOK Tryz.prog orc := Ev.pickOrc_ok (Ev.trueOrc_ok mixed (Ev.noOrc_ok _) knownRan) pickWalk

set_option maxRecDepth 1000000 in
theorem ran_0_0 : Ev.runT Tryz.prog orc 7 1000 [.anyInt .i64 8 0, .anyInt .i64 7 0] = true := by kernel_rfl

set_option maxRecDepth 1000000 in
theorem ran_0_1 : Ev.runT Tryz.prog orc 7 1000 [.anyInt .i64 8 0, .anyInt .i64 7 1] = true := by kernel_rfl

set_option maxRecDepth 1000000 in
theorem ran_0_2 : Ev.runT Tryz.prog orc 7 1000 [.anyInt .i64 8 0, .anyInt .i64 7 2] = true := by kernel_rfl

set_option maxRecDepth 1000000 in
theorem ran_0_3 : Ev.runT Tryz.prog orc 7 1000 [.anyInt .i64 8 0, .anyInt .i64 7 3] = true := by kernel_rfl

set_option maxRecDepth 1000000 in
theorem ran_0_4 : Ev.runT Tryz.prog orc 7 1000 [.anyInt .i64 8 0, .anyInt .i64 7 4] = true := by kernel_rfl

set_option maxRecDepth 1000000 in
theorem ran_0_5 : Ev.runT Tryz.prog orc 7 1000 [.anyInt .i64 8 0, .anyInt .i64 7 5] = true := by kernel_rfl

set_option maxRecDepth 1000000 in
theorem ran_0_6 : Ev.runT Tryz.prog orc 7 1000 [.anyInt .i64 8 0, .anyInt .i64 7 6] = true := by kernel_rfl

set_option maxRecDepth 1000000 in
theorem ran_1_0 : Ev.runT Tryz.prog orc 7 1000 [.anyInt .i64 8 1, .anyInt .i64 7 0] = true := by kernel_rfl

set_option maxRecDepth 1000000 in
theorem ran_1_1 : Ev.runT Tryz.prog orc 7 1000 [.anyInt .i64 8 1, .anyInt .i64 7 1] = true := by kernel_rfl

set_option maxRecDepth 1000000 in
theorem ran_1_2 : Ev.runT Tryz.prog orc 7 1000 [.anyInt .i64 8 1, .anyInt .i64 7 2] = true := by kernel_rfl

set_option maxRecDepth 1000000 in
theorem ran_1_3 : Ev.runT Tryz.prog orc 7 1000 [.anyInt .i64 8 1, .anyInt .i64 7 3] = true := by kernel_rfl

set_option maxRecDepth 1000000 in
theorem ran_1_4 : Ev.runT Tryz.prog orc 7 1000 [.anyInt .i64 8 1, .anyInt .i64 7 4] = true := by kernel_rfl

set_option maxRecDepth 1000000 in
theorem ran_1_5 : Ev.runT Tryz.prog orc 7 1000 [.anyInt .i64 8 1, .anyInt .i64 7 5] = true := by kernel_rfl

set_option maxRecDepth 1000000 in
theorem ran_1_6 : Ev.runT Tryz.prog orc 7 1000 [.anyInt .i64 8 1, .anyInt .i64 7 6] = true := by kernel_rfl

set_option maxRecDepth 1000000 in
theorem ran_2_0 : Ev.runT Tryz.prog orc 7 1000 [.anyInt .i64 8 2, .anyInt .i64 7 0] = true := by kernel_rfl

set_option maxRecDepth 1000000 in
theorem ran_2_1 : Ev.runT Tryz.prog orc 7 1000 [.anyInt .i64 8 2, .anyInt .i64 7 1] = true := by kernel_rfl

set_option maxRecDepth 1000000 in
theorem ran_2_2 : Ev.runT Tryz.prog orc 7 1000 [.anyInt .i64 8 2, .anyInt .i64 7 2] = true := by kernel_rfl

set_option maxRecDepth 1000000 in
theorem ran_2_3 : Ev.runT Tryz.prog orc 7 1000 [.anyInt .i64 8 2, .anyInt .i64 7 3] = true := by kernel_rfl

set_option maxRecDepth 1000000 in
theorem ran_2_4 : Ev.runT Tryz.prog orc 7 1000 [.anyInt .i64 8 2, .anyInt .i64 7 4] = true := by kernel_rfl

set_option maxRecDepth 1000000 in
theorem ran_2_5 : Ev.runT Tryz.prog orc 7 1000 [.anyInt .i64 8 2, .anyInt .i64 7 5] = true := by kernel_rfl

set_option maxRecDepth 1000000 in
theorem ran_2_6 : Ev.runT Tryz.prog orc 7 1000 [.anyInt .i64 8 2, .anyInt .i64 7 6] = true := by kernel_rfl

set_option maxRecDepth 1000000 in
theorem ran_3_0 : Ev.runT Tryz.prog orc 7 1000 [.anyInt .i64 8 3, .anyInt .i64 7 0] = true := by kernel_rfl

set_option maxRecDepth 1000000 in
theorem ran_3_1 : Ev.runT Tryz.prog orc 7 1000 [.anyInt .i64 8 3, .anyInt .i64 7 1] = true := by kernel_rfl

set_option maxRecDepth 1000000 in
theorem ran_3_2 : Ev.runT Tryz.prog orc 7 1000 [.anyInt .i64 8 3, .anyInt .i64 7 2] = true := by kernel_rfl

set_option maxRecDepth 1000000 in
theorem ran_3_3 : Ev.runT Tryz.prog orc 7 1000 [.anyInt .i64 8 3, .anyInt .i64 7 3] = true := by kernel_rfl

set_option maxRecDepth 1000000 in
theorem ran_3_4 : Ev.runT Tryz.prog orc 7 1000 [.anyInt .i64 8 3, .anyInt .i64 7 4] = true := by kernel_rfl

set_option maxRecDepth 1000000 in
theorem ran_3_5 : Ev.runT Tryz.prog orc 7 1000 [.anyInt .i64 8 3, .anyInt .i64 7 5] = true := by kernel_rfl

set_option maxRecDepth 1000000 in
theorem ran_3_6 : Ev.runT Tryz.prog orc 7 1000 [.anyInt .i64 8 3, .anyInt .i64 7 6] = true := by kernel_rfl

set_option maxRecDepth 1000000 in
theorem ran_4_0 : Ev.runT Tryz.prog orc 7 1000 [.anyInt .i64 8 4, .anyInt .i64 7 0] = true := by kernel_rfl

set_option maxRecDepth 1000000 in
theorem ran_4_1 : Ev.runT Tryz.prog orc 7 1000 [.anyInt .i64 8 4, .anyInt .i64 7 1] = true := by kernel_rfl

set_option maxRecDepth 1000000 in
theorem ran_4_2 : Ev.runT Tryz.prog orc 7 1000 [.anyInt .i64 8 4, .anyInt .i64 7 2] = true := by kernel_rfl

set_option maxRecDepth 1000000 in
theorem ran_4_3 : Ev.runT Tryz.prog orc 7 1000 [.anyInt .i64 8 4, .anyInt .i64 7 3] = true := by kernel_rfl

set_option maxRecDepth 1000000 in
theorem ran_4_4 : Ev.runT Tryz.prog orc 7 1000 [.anyInt .i64 8 4, .anyInt .i64 7 4] = true := by kernel_rfl

set_option maxRecDepth 1000000 in
theorem ran_4_5 : Ev.runT Tryz.prog orc 7 1000 [.anyInt .i64 8 4, .anyInt .i64 7 5] = true := by kernel_rfl

set_option maxRecDepth 1000000 in
theorem ran_4_6 : Ev.runT Tryz.prog orc 7 1000 [.anyInt .i64 8 4, .anyInt .i64 7 6] = true := by kernel_rfl

set_option maxRecDepth 1000000 in
theorem ran_5_0 : Ev.runT Tryz.prog orc 7 1000 [.anyInt .i64 8 5, .anyInt .i64 7 0] = true := by kernel_rfl

set_option maxRecDepth 1000000 in
theorem ran_5_1 : Ev.runT Tryz.prog orc 7 1000 [.anyInt .i64 8 5, .anyInt .i64 7 1] = true := by kernel_rfl

set_option maxRecDepth 1000000 in
theorem ran_5_2 : Ev.runT Tryz.prog orc 7 1000 [.anyInt .i64 8 5, .anyInt .i64 7 2] = true := by kernel_rfl

set_option maxRecDepth 1000000 in
theorem ran_5_3 : Ev.runT Tryz.prog orc 7 1000 [.anyInt .i64 8 5, .anyInt .i64 7 3] = true := by kernel_rfl

set_option maxRecDepth 1000000 in
theorem ran_5_4 : Ev.runT Tryz.prog orc 7 1000 [.anyInt .i64 8 5, .anyInt .i64 7 4] = true := by kernel_rfl

set_option maxRecDepth 1000000 in
theorem ran_5_5 : Ev.runT Tryz.prog orc 7 1000 [.anyInt .i64 8 5, .anyInt .i64 7 5] = true := by kernel_rfl

set_option maxRecDepth 1000000 in
theorem ran_5_6 : Ev.runT Tryz.prog orc 7 1000 [.anyInt .i64 8 5, .anyInt .i64 7 6] = true := by kernel_rfl

set_option maxRecDepth 1000000 in
theorem ran_6_0 : Ev.runT Tryz.prog orc 7 1000 [.anyInt .i64 8 6, .anyInt .i64 7 0] = true := by kernel_rfl

set_option maxRecDepth 1000000 in
theorem ran_6_1 : Ev.runT Tryz.prog orc 7 1000 [.anyInt .i64 8 6, .anyInt .i64 7 1] = true := by kernel_rfl

set_option maxRecDepth 1000000 in
theorem ran_6_2 : Ev.runT Tryz.prog orc 7 1000 [.anyInt .i64 8 6, .anyInt .i64 7 2] = true := by kernel_rfl

set_option maxRecDepth 1000000 in
theorem ran_6_3 : Ev.runT Tryz.prog orc 7 1000 [.anyInt .i64 8 6, .anyInt .i64 7 3] = true := by kernel_rfl

set_option maxRecDepth 1000000 in
theorem ran_6_4 : Ev.runT Tryz.prog orc 7 1000 [.anyInt .i64 8 6, .anyInt .i64 7 4] = true := by kernel_rfl

set_option maxRecDepth 1000000 in
theorem ran_6_5 : Ev.runT Tryz.prog orc 7 1000 [.anyInt .i64 8 6, .anyInt .i64 7 5] = true := by kernel_rfl

set_option maxRecDepth 1000000 in
theorem ran_6_6 : Ev.runT Tryz.prog orc 7 1000 [.anyInt .i64 8 6, .anyInt .i64 7 6] = true := by kernel_rfl

set_option maxRecDepth 1000000 in
theorem ran_7_0 : Ev.runT Tryz.prog orc 7 1000 [.anyInt .i64 8 7, .anyInt .i64 7 0] = true := by kernel_rfl

set_option maxRecDepth 1000000 in
theorem ran_7_1 : Ev.runT Tryz.prog orc 7 1000 [.anyInt .i64 8 7, .anyInt .i64 7 1] = true := by kernel_rfl

set_option maxRecDepth 1000000 in
theorem ran_7_2 : Ev.runT Tryz.prog orc 7 1000 [.anyInt .i64 8 7, .anyInt .i64 7 2] = true := by kernel_rfl

set_option maxRecDepth 1000000 in
theorem ran_7_3 : Ev.runT Tryz.prog orc 7 1000 [.anyInt .i64 8 7, .anyInt .i64 7 3] = true := by kernel_rfl

set_option maxRecDepth 1000000 in
theorem ran_7_4 : Ev.runT Tryz.prog orc 7 1000 [.anyInt .i64 8 7, .anyInt .i64 7 4] = true := by kernel_rfl

set_option maxRecDepth 1000000 in
theorem ran_7_5 : Ev.runT Tryz.prog orc 7 1000 [.anyInt .i64 8 7, .anyInt .i64 7 5] = true := by kernel_rfl

set_option maxRecDepth 1000000 in
theorem ran_7_6 : Ev.runT Tryz.prog orc 7 1000 [.anyInt .i64 8 7, .anyInt .i64 7 6] = true := by kernel_rfl

theorem walk (a0 : Int) (a1 : Int) (w0 : (Lit.int .i64 a0).wf = true) (w1 : (Lit.int .i64 a1).wf = true) (w : World) : Calls Tryz.prog 7 #[.int .i64 a0, .int .i64 a1] w fun e w' => e = .returned (.bool true) ∧ Ev.Kept w w' := by
  obtain ⟨i0, l0, e0⟩ := Ev.pickI_range a0 8 (by decide)
  obtain ⟨i1, l1, e1⟩ := Ev.pickI_range a1 7 (by decide)
  have run : Ev.runT Tryz.prog orc 7 1000 [.anyInt .i64 8 i0, .anyInt .i64 7 i1] = true := by
    match i0, i1, l0, l1 with
    | 0, 0, _, _ => exact ran_0_0
    | 0, 1, _, _ => exact ran_0_1
    | 0, 2, _, _ => exact ran_0_2
    | 0, 3, _, _ => exact ran_0_3
    | 0, 4, _, _ => exact ran_0_4
    | 0, 5, _, _ => exact ran_0_5
    | 0, 6, _, _ => exact ran_0_6
    | 1, 0, _, _ => exact ran_1_0
    | 1, 1, _, _ => exact ran_1_1
    | 1, 2, _, _ => exact ran_1_2
    | 1, 3, _, _ => exact ran_1_3
    | 1, 4, _, _ => exact ran_1_4
    | 1, 5, _, _ => exact ran_1_5
    | 1, 6, _, _ => exact ran_1_6
    | 2, 0, _, _ => exact ran_2_0
    | 2, 1, _, _ => exact ran_2_1
    | 2, 2, _, _ => exact ran_2_2
    | 2, 3, _, _ => exact ran_2_3
    | 2, 4, _, _ => exact ran_2_4
    | 2, 5, _, _ => exact ran_2_5
    | 2, 6, _, _ => exact ran_2_6
    | 3, 0, _, _ => exact ran_3_0
    | 3, 1, _, _ => exact ran_3_1
    | 3, 2, _, _ => exact ran_3_2
    | 3, 3, _, _ => exact ran_3_3
    | 3, 4, _, _ => exact ran_3_4
    | 3, 5, _, _ => exact ran_3_5
    | 3, 6, _, _ => exact ran_3_6
    | 4, 0, _, _ => exact ran_4_0
    | 4, 1, _, _ => exact ran_4_1
    | 4, 2, _, _ => exact ran_4_2
    | 4, 3, _, _ => exact ran_4_3
    | 4, 4, _, _ => exact ran_4_4
    | 4, 5, _, _ => exact ran_4_5
    | 4, 6, _, _ => exact ran_4_6
    | 5, 0, _, _ => exact ran_5_0
    | 5, 1, _, _ => exact ran_5_1
    | 5, 2, _, _ => exact ran_5_2
    | 5, 3, _, _ => exact ran_5_3
    | 5, 4, _, _ => exact ran_5_4
    | 5, 5, _, _ => exact ran_5_5
    | 5, 6, _, _ => exact ran_5_6
    | 6, 0, _, _ => exact ran_6_0
    | 6, 1, _, _ => exact ran_6_1
    | 6, 2, _, _ => exact ran_6_2
    | 6, 3, _, _ => exact ran_6_3
    | 6, 4, _, _ => exact ran_6_4
    | 6, 5, _, _ => exact ran_6_5
    | 6, 6, _, _ => exact ran_6_6
    | 7, 0, _, _ => exact ran_7_0
    | 7, 1, _, _ => exact ran_7_1
    | 7, 2, _, _ => exact ran_7_2
    | 7, 3, _, _ => exact ran_7_3
    | 7, 4, _, _ => exact ran_7_4
    | 7, 5, _, _ => exact ran_7_5
    | 7, 6, _, _ => exact ran_7_6
    | k + 8, _, h, _ => exact absurd h (by omega)
    | _, k + 7, _, h => exact absurd h (by omega)
  exact (Ev.runT_ok mixed orcOK run w [.int .i64 a0, .int .i64 a1] (.cons (.anyInt _ _ _ _ fun _ => e0) (.cons (.anyInt _ _ _ _ fun _ => e1) .nil))).mono fun _ _ ⟨h1, _, h3⟩ => ⟨h1, h3⟩

/-! ### THE ROW's STEP: WRITTEN OUT: LEAVE IT -/
set_option maxRecDepth 100000 in
theorem lifted (os : Os) (started : os.Started) (H : Type) (enc : TypeId × Value → H) :
    ReturnsInHanded {} Tryz.checked os 7 .any (Rows.checkFitsSpec.pre6 enc Tryz.prog Tryz.f7 Rows.checkFitsRow.domain false) (Rows.checkFitsSpec.post enc Tryz.prog Tryz.f7 false true false false) := by
  refine returnsInHanded_of_change (C := Tryz.checked) own started (by kernel_rfl) Tryz.func7
    (ChangeSpec.witness6 (enc := enc) (C := Tryz.checked) false ⟨#[], #[.int .i64 0, .int .i64 0], []⟩ 8 (by kernel_rfl) (by kernel_rfl) (by kernel_rfl) (by kernel_rfl)) ?_
  intro W base args ds gs before hval0 hW hcnd _
  have hval : ∀ (j : Nat) t v, Tryz.f7.params[j]? = some t → args[j]? = some v → Value.okWide Tryz.prog W .any base t v := hval0
  have hW' := hW
  obtain ⟨p, q, hA0, hV, rfl, hfz, hnd⟩ := hW
  have hA : DataW.TrodAll enc Tryz.prog W 0 (fun _ => true) true Tryz.f7.params.toList args.toList ds p := hA0
  rw [Tryz.params7] at hA hval
  obtain ⟨v0, vs0, d0, ds0, p0, q0, hargs, rfl, rfl, h0, r0⟩ := trodAll_cons hA
  obtain ⟨v1, vs1, d1, ds1, p1, q1, rfl, rfl, rfl, h1, r1⟩ := trodAll_cons r0
  obtain ⟨rfl, rfl, rfl⟩ := trodAll_nil r1
  obtain rfl : args = #[v0, v1] := by cases args; simp_all
  obtain ⟨rfl, rfl⟩ := trodVars_none hV
  obtain ⟨a0, rfl, rfl, rfl, w0⟩ := open_int Tryz.underlying3 (hval 0 3 v0 rfl rfl) h0
  obtain ⟨a1, rfl, rfl, rfl, w1⟩ := open_int Tryz.underlying3 (hval 1 3 v1 rfl rfl) h1
  clear hA0 hval0
  simp only [List.append_nil] at hW'
  refine (walk a0 a1 w0 w1 W).mono fun e W' ⟨he, hg⟩ => ?_
  subst he
  exact ⟨_, rfl, Ev.post_of_kept (pa := []) (pv := []) hW' (fun _ _ _ => (trodAll_cons_mk (shut_bool Tryz.underlying4 _) trodAll_mk0)) (fun sp _ => (trodAll_cons_mk (shut_int Tryz.underlying3 w0) (trodAll_cons_mk (shut_int Tryz.underlying3 w1) trodAll_mk0))) (fun _ _ => rfl) rfl
    hg (ok_one (by kernel_rfl) rfl (okWide_bool_mk Tryz.underlying4 _))⟩

theorem over : Rows.checkFitsRow.holds Tryz.pinned (OpenSpec.ofChange Rows.checkFitsSpec) :=
  OpenClaim.holds_of_wide 7 Tryz.f7 rfl rfl rfl rfl rfl rfl rfl ⟨rfl, rfl, rfl, rfl, rfl⟩ rfl rfl rfl rfl rfl (by kernel_rfl) Tryz.func7 (by kernel_rfl)
    (of_decide_eq_true (by kernel_rfl)) (by unfold Func.isWrapper; first | (rw [if_pos (by decide +kernel)]; kernel_rfl) | (rw [if_neg (by decide +kernel)]; exact ⟨rfl, rfl⟩))
    (fun os started H enc _ => lifted os started H enc)

/-- ████ THE STATEMENT ████ -/
theorem proved : Rows.CheckFitsSaid :=
  over
#print axioms proved
end Go.Proofs.YtgopindnodppdaaGreat.checkFits
