/-
  CheckBlocks returns true for all inputs. Numbers are brought within bounds by Pick; each case is run by an evaluator that is proved right (the texts Ev..), in the kernel. No condition.
  (The frame below began as the kit's proof-skeleton; the walk is own work.)
-/
import Derived.Test.YtgopindnodppdaaGreatRows
import Derived.Test.YtgopindnodppdaaGreatEvPick
import Derived.Test.YtgopindnodppdaaGreatPickWalk
import Derived.WalkKit
import Derived.ProofKit
import Derived.OpenShut
namespace Go.Proofs.YtgopindnodppdaaGreat.checkBlocks
open Go.ChangeShapes Go.WideShapes Go.ChangeAt Go.RowKit
set_option linter.unusedVariables false

theorem own : ownKnob Tryz.prog.godebug = none := by kernel_rfl

theorem mixed : Tryz.prog.follows .mixedOrders = true := by kernel_rfl

set_option maxRecDepth 1000000 in
theorem knownRan : Ev.runT Tryz.prog Ev.noOrc 9 1000 [] = true := by kernel_rfl

noncomputable abbrev orc : Ev.Orc := Ev.pickOrc 10 (Ev.trueOrc 9 Ev.noOrc)

theorem orcOK : Ev.OrcOK Tryz.prog orc := Ev.pickOrc_ok (Ev.trueOrc_ok mixed (Ev.noOrc_ok _) knownRan) pickWalk

set_option maxRecDepth 1000000 in
theorem ran_0_t_t : Ev.runT Tryz.prog orc 5 1000 [.anyInt .i64 8 0, .bool true, .bool true] = true := by kernel_rfl

set_option maxRecDepth 1000000 in
theorem ran_0_t_f : Ev.runT Tryz.prog orc 5 1000 [.anyInt .i64 8 0, .bool true, .bool false] = true := by kernel_rfl

set_option maxRecDepth 1000000 in
theorem ran_0_f_t : Ev.runT Tryz.prog orc 5 1000 [.anyInt .i64 8 0, .bool false, .bool true] = true := by kernel_rfl

set_option maxRecDepth 1000000 in
theorem ran_0_f_f : Ev.runT Tryz.prog orc 5 1000 [.anyInt .i64 8 0, .bool false, .bool false] = true := by kernel_rfl

set_option maxRecDepth 1000000 in
theorem ran_1_t_t : Ev.runT Tryz.prog orc 5 1000 [.anyInt .i64 8 1, .bool true, .bool true] = true := by kernel_rfl

set_option maxRecDepth 1000000 in
theorem ran_1_t_f : Ev.runT Tryz.prog orc 5 1000 [.anyInt .i64 8 1, .bool true, .bool false] = true := by kernel_rfl

set_option maxRecDepth 1000000 in
theorem ran_1_f_t : Ev.runT Tryz.prog orc 5 1000 [.anyInt .i64 8 1, .bool false, .bool true] = true := by kernel_rfl

set_option maxRecDepth 1000000 in
theorem ran_1_f_f : Ev.runT Tryz.prog orc 5 1000 [.anyInt .i64 8 1, .bool false, .bool false] = true := by kernel_rfl

set_option maxRecDepth 1000000 in
theorem ran_2_t_t : Ev.runT Tryz.prog orc 5 1000 [.anyInt .i64 8 2, .bool true, .bool true] = true := by kernel_rfl

set_option maxRecDepth 1000000 in
theorem ran_2_t_f : Ev.runT Tryz.prog orc 5 1000 [.anyInt .i64 8 2, .bool true, .bool false] = true := by kernel_rfl

set_option maxRecDepth 1000000 in
theorem ran_2_f_t : Ev.runT Tryz.prog orc 5 1000 [.anyInt .i64 8 2, .bool false, .bool true] = true := by kernel_rfl

set_option maxRecDepth 1000000 in
theorem ran_2_f_f : Ev.runT Tryz.prog orc 5 1000 [.anyInt .i64 8 2, .bool false, .bool false] = true := by kernel_rfl

set_option maxRecDepth 1000000 in
theorem ran_3_t_t : Ev.runT Tryz.prog orc 5 1000 [.anyInt .i64 8 3, .bool true, .bool true] = true := by kernel_rfl

set_option maxRecDepth 1000000 in
theorem ran_3_t_f : Ev.runT Tryz.prog orc 5 1000 [.anyInt .i64 8 3, .bool true, .bool false] = true := by kernel_rfl

set_option maxRecDepth 1000000 in
theorem ran_3_f_t : Ev.runT Tryz.prog orc 5 1000 [.anyInt .i64 8 3, .bool false, .bool true] = true := by kernel_rfl

set_option maxRecDepth 1000000 in
theorem ran_3_f_f : Ev.runT Tryz.prog orc 5 1000 [.anyInt .i64 8 3, .bool false, .bool false] = true := by kernel_rfl

set_option maxRecDepth 1000000 in
theorem ran_4_t_t : Ev.runT Tryz.prog orc 5 1000 [.anyInt .i64 8 4, .bool true, .bool true] = true := by kernel_rfl

set_option maxRecDepth 1000000 in
theorem ran_4_t_f : Ev.runT Tryz.prog orc 5 1000 [.anyInt .i64 8 4, .bool true, .bool false] = true := by kernel_rfl

set_option maxRecDepth 1000000 in
theorem ran_4_f_t : Ev.runT Tryz.prog orc 5 1000 [.anyInt .i64 8 4, .bool false, .bool true] = true := by kernel_rfl

set_option maxRecDepth 1000000 in
theorem ran_4_f_f : Ev.runT Tryz.prog orc 5 1000 [.anyInt .i64 8 4, .bool false, .bool false] = true := by kernel_rfl

set_option maxRecDepth 1000000 in
theorem ran_5_t_t : Ev.runT Tryz.prog orc 5 1000 [.anyInt .i64 8 5, .bool true, .bool true] = true := by kernel_rfl

set_option maxRecDepth 1000000 in
theorem ran_5_t_f : Ev.runT Tryz.prog orc 5 1000 [.anyInt .i64 8 5, .bool true, .bool false] = true := by kernel_rfl

set_option maxRecDepth 1000000 in
theorem ran_5_f_t : Ev.runT Tryz.prog orc 5 1000 [.anyInt .i64 8 5, .bool false, .bool true] = true := by kernel_rfl

set_option maxRecDepth 1000000 in
theorem ran_5_f_f : Ev.runT Tryz.prog orc 5 1000 [.anyInt .i64 8 5, .bool false, .bool false] = true := by kernel_rfl

set_option maxRecDepth 1000000 in
theorem ran_6_t_t : Ev.runT Tryz.prog orc 5 1000 [.anyInt .i64 8 6, .bool true, .bool true] = true := by kernel_rfl

set_option maxRecDepth 1000000 in
theorem ran_6_t_f : Ev.runT Tryz.prog orc 5 1000 [.anyInt .i64 8 6, .bool true, .bool false] = true := by kernel_rfl

set_option maxRecDepth 1000000 in
theorem ran_6_f_t : Ev.runT Tryz.prog orc 5 1000 [.anyInt .i64 8 6, .bool false, .bool true] = true := by kernel_rfl

set_option maxRecDepth 1000000 in
theorem ran_6_f_f : Ev.runT Tryz.prog orc 5 1000 [.anyInt .i64 8 6, .bool false, .bool false] = true := by kernel_rfl

set_option maxRecDepth 1000000 in
theorem ran_7_t_t : Ev.runT Tryz.prog orc 5 1000 [.anyInt .i64 8 7, .bool true, .bool true] = true := by kernel_rfl

set_option maxRecDepth 1000000 in
theorem ran_7_t_f : Ev.runT Tryz.prog orc 5 1000 [.anyInt .i64 8 7, .bool true, .bool false] = true := by kernel_rfl

set_option maxRecDepth 1000000 in
theorem ran_7_f_t : Ev.runT Tryz.prog orc 5 1000 [.anyInt .i64 8 7, .bool false, .bool true] = true := by kernel_rfl

set_option maxRecDepth 1000000 in
theorem ran_7_f_f : Ev.runT Tryz.prog orc 5 1000 [.anyInt .i64 8 7, .bool false, .bool false] = true := by kernel_rfl

theorem walk (a0 : Int) (a1 : Bool) (a2 : Bool) (w0 : (Lit.int .i64 a0).wf = true) (w : World) : Calls Tryz.prog 5 #[.int .i64 a0, .bool a1, .bool a2] w fun e w' => e = .returned (.bool true) ∧ Ev.Kept w w' := by
  obtain ⟨i0, l0, e0⟩ := Ev.pickI_range a0 8 (by decide)
  have run : Ev.runT Tryz.prog orc 5 1000 [.anyInt .i64 8 i0, .bool a1, .bool a2] = true := by
    match i0, a1, a2, l0 with
    | 0, true, true, _ => exact ran_0_t_t
    | 0, true, false, _ => exact ran_0_t_f
    | 0, false, true, _ => exact ran_0_f_t
    | 0, false, false, _ => exact ran_0_f_f
    | 1, true, true, _ => exact ran_1_t_t
    | 1, true, false, _ => exact ran_1_t_f
    | 1, false, true, _ => exact ran_1_f_t
    | 1, false, false, _ => exact ran_1_f_f
    | 2, true, true, _ => exact ran_2_t_t
    | 2, true, false, _ => exact ran_2_t_f
    | 2, false, true, _ => exact ran_2_f_t
    | 2, false, false, _ => exact ran_2_f_f
    | 3, true, true, _ => exact ran_3_t_t
    | 3, true, false, _ => exact ran_3_t_f
    | 3, false, true, _ => exact ran_3_f_t
    | 3, false, false, _ => exact ran_3_f_f
    | 4, true, true, _ => exact ran_4_t_t
    | 4, true, false, _ => exact ran_4_t_f
    | 4, false, true, _ => exact ran_4_f_t
    | 4, false, false, _ => exact ran_4_f_f
    | 5, true, true, _ => exact ran_5_t_t
    | 5, true, false, _ => exact ran_5_t_f
    | 5, false, true, _ => exact ran_5_f_t
    | 5, false, false, _ => exact ran_5_f_f
    | 6, true, true, _ => exact ran_6_t_t
    | 6, true, false, _ => exact ran_6_t_f
    | 6, false, true, _ => exact ran_6_f_t
    | 6, false, false, _ => exact ran_6_f_f
    | 7, true, true, _ => exact ran_7_t_t
    | 7, true, false, _ => exact ran_7_t_f
    | 7, false, true, _ => exact ran_7_f_t
    | 7, false, false, _ => exact ran_7_f_f
    | k + 8, _, _, h => exact absurd h (by omega)
  exact (Ev.runT_ok mixed orcOK run w [.int .i64 a0, .bool a1, .bool a2] (.cons (.anyInt _ _ _ _ fun _ => e0) (.cons (.bool a1) (.cons (.bool a2) .nil)))).mono fun _ _ ⟨h1, _, h3⟩ => ⟨h1, h3⟩

/-! ### THE ROW's STEP: WRITTEN OUT: LEAVE IT -/
set_option maxRecDepth 100000 in
theorem lifted (os : Os) (started : os.Started) (H : Type) (enc : TypeId × Value → H) :
    ReturnsInHanded {} Tryz.checked os 5 .any (Rows.checkBlocksSpec.pre6 enc Tryz.prog Tryz.f5 Rows.checkBlocksRow.domain false) (Rows.checkBlocksSpec.post enc Tryz.prog Tryz.f5 false true false false) := by
  refine returnsInHanded_of_change (C := Tryz.checked) own started (by kernel_rfl) Tryz.func5
    (ChangeSpec.witness6 (enc := enc) (C := Tryz.checked) false ⟨#[], #[.int .i64 0, .bool false, .bool false], []⟩ 8 (by kernel_rfl) (by kernel_rfl) (by kernel_rfl) (by kernel_rfl)) ?_
  intro W base args ds gs before hval0 hW hcnd _
  have hval : ∀ (j : Nat) t v, Tryz.f5.params[j]? = some t → args[j]? = some v → Value.okWide Tryz.prog W .any base t v := hval0
  have hW' := hW
  obtain ⟨p, q, hA0, hV, rfl, hfz, hnd⟩ := hW
  have hA : DataW.TrodAll enc Tryz.prog W 0 (fun _ => true) true Tryz.f5.params.toList args.toList ds p := hA0
  rw [Tryz.params5] at hA hval
  obtain ⟨v0, vs0, d0, ds0, p0, q0, hargs, rfl, rfl, h0, r0⟩ := trodAll_cons hA
  obtain ⟨v1, vs1, d1, ds1, p1, q1, rfl, rfl, rfl, h1, r1⟩ := trodAll_cons r0
  obtain ⟨v2, vs2, d2, ds2, p2, q2, rfl, rfl, rfl, h2, r2⟩ := trodAll_cons r1
  obtain ⟨rfl, rfl, rfl⟩ := trodAll_nil r2
  obtain rfl : args = #[v0, v1, v2] := by cases args; simp_all
  obtain ⟨rfl, rfl⟩ := trodVars_none hV
  obtain ⟨a0, rfl, rfl, rfl, w0⟩ := open_int Tryz.underlying3 (hval 0 3 v0 rfl rfl) h0
  obtain ⟨a1, rfl, rfl, rfl⟩ := open_bool Tryz.underlying4 (hval 1 4 v1 rfl rfl) h1
  obtain ⟨a2, rfl, rfl, rfl⟩ := open_bool Tryz.underlying4 (hval 2 4 v2 rfl rfl) h2
  clear hA0 hval0
  simp only [List.append_nil] at hW'
  refine (walk a0 a1 a2 w0 W).mono fun e W' ⟨he, hg⟩ => ?_
  subst he
  exact ⟨_, rfl, Ev.post_of_kept (pa := []) (pv := []) hW' (fun _ _ _ => (trodAll_cons_mk (shut_bool Tryz.underlying4 _) trodAll_mk0)) (fun sp _ => (trodAll_cons_mk (shut_int Tryz.underlying3 w0) (trodAll_cons_mk (shut_bool Tryz.underlying4 _) (trodAll_cons_mk (shut_bool Tryz.underlying4 _) trodAll_mk0)))) (fun _ _ => rfl) rfl
    hg (ok_one (by kernel_rfl) rfl (okWide_bool_mk Tryz.underlying4 _))⟩

theorem over : Rows.checkBlocksRow.holds Tryz.pinned (OpenSpec.ofChange Rows.checkBlocksSpec) :=
  OpenClaim.holds_of_wide 5 Tryz.f5 rfl rfl rfl rfl rfl rfl rfl ⟨rfl, rfl, rfl, rfl, rfl⟩ rfl rfl rfl rfl rfl (by kernel_rfl) Tryz.func5 (by kernel_rfl)
    (of_decide_eq_true (by kernel_rfl)) (by unfold Func.isWrapper; first | (rw [if_pos (by decide +kernel)]; kernel_rfl) | (rw [if_neg (by decide +kernel)]; exact ⟨rfl, rfl⟩))
    (fun os started H enc _ => lifted os started H enc)

/-- ████ THE STATEMENT ████ -/
theorem proved : Rows.CheckBlocksSaid :=
  over
#print axioms proved
end Go.Proofs.YtgopindnodppdaaGreat.checkBlocks
