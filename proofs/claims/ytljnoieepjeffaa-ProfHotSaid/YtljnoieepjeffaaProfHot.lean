/-
  ProfHot returns true for every input, and its arguments read as before. The program's functions are each shown to do what a plain Lean function says. No condition.
  (The frame of the row's step began as the kit's proof-skeleton; the rest is own work.)
-/
import Derived.Test.YtljnoieepjeffaaRows
import Derived.WalkKit
import Derived.ProofKit
import Derived.OpenShut
import Derived.Test.YtljnoieepjeffaaPhh3
import Derived.Test.YtljnoieepjeffaaPhh2
set_option linter.unusedSectionVars false
set_option linter.unusedVariables false
set_option linter.unusedSimpArgs false
set_option maxRecDepth 1000000
namespace Go.Proofs.Ytljnoieepjeffaa.profHot
open Go Go.Proofs Go.Vs Go.ChangeShapes Go.WideShapes Go.ChangeAt Go.RowKit
theorem own : ownKnob Try.prog.godebug = none := by kernel_rfl
theorem underlying3 : Try.prog.underlying 3 = some (.int .i64) := by kernel_rfl
theorem underlying4 : Try.prog.underlying 4 = some .bool := by kernel_rfl
theorem underlying22 : Try.prog.underlying 22 = some (.slice 3) := by kernel_rfl
theorem noEmptySlices : noEmpty Try.prog = true := by kernel_rfl
theorem walk (W : World) (v0 : Value) (b0 : AVal) (l0 : List Int) (e0 : ∀ σ : Sg, Den σ b0 v0) (g0 : @ArgR (gtabW W) b0 (l0.map iv)) (a1 : Int) :
  Calls Try.prog 3 #[v0, .int .i64 a1] W fun e w' => e = .returned (.bool true) ∧ Vs.Kept W w' := by
 letI : Vs.GTab := gtabW W
 exact closeK (profHot_said (Z := fun _ => False) (Γ := fun _ => none) (@ArgR.ints (gtabW W) _ _ g0) ⟨fun _ h => h.elim, fun _ _ e => by cases e⟩ fun _ _ => rfl) (glob_tabW W) (.cons (e0 _) (.cons (.int _ _) .nil))
theorem lifted (os : Os) (started : os.Started) (H : Type) (enc : TypeId × Value → H) :
  ReturnsInHanded {} Try.checked os 3 .any (Rows.profHotSpec.pre6 enc Try.prog Try.f3 Rows.profHotRow.domain false) (Rows.profHotSpec.post enc Try.prog Try.f3 false true false false) := by
 refine returnsInHanded_of_change (C := Try.checked) own started (by kernel_rfl) Try.func3
  (ChangeSpec.witness6 (enc := enc) (C := Try.checked) false ⟨#[], #[.slice none 0 0, .int .i64 0], []⟩ 8 (by kernel_rfl) (by kernel_rfl) (by kernel_rfl) (by kernel_rfl)) ?_
 intro W base args ds gs before hval0 hW hcnd _
 have hval : ∀ (j : Nat) t v, Try.f3.params[j]? = some t → args[j]? = some v → Value.okWide Try.prog W .any base t v := hval0
 have hW' := hW
 obtain ⟨p, q, hA0, hV, rfl, hfz, hnd⟩ := hW
 have hA : DataW.TrodAll enc Try.prog W 0 (fun _ => true) true Try.f3.params.toList args.toList ds p := hA0
 rw [Try.params3] at hA hval
 obtain ⟨rfl, rfl⟩ := trodVars_none hV
 obtain ⟨v0, vs0, d0, ds0, p0, q0, hargs, rfl, rfl, h0, r0⟩ := trodAll_cons hA
 obtain ⟨v1, vs1, d1, ds1, p1, q1, rfl, rfl, rfl, h1, r1⟩ := trodAll_cons r0
 obtain ⟨rfl, rfl, rfl⟩ := trodAll_nil r1
 obtain rfl : args = #[v0, v1] := by cases args; simp_all
 obtain ⟨b0, us0, e0, g0, y0⟩ := open_row (W := W) underlying22 (by kernel_rfl) (okWide_slice underlying22 (hval 0 22 v0 rfl rfl)) h0
 obtain ⟨l0, rfl⟩ := ints_of fun x hx => let ⟨n, u, y, h1, h2⟩ := y0 x hx; elem_ints underlying3 h1 h2
 obtain ⟨a1, rfl, rfl, rfl, w1⟩ := open_int underlying3 (hval 1 3 v1 rfl rfl) h1
 clear hA0 hval0
 refine (walk W v0 b0 l0 e0 g0 a1).mono fun e W' ⟨he, hg⟩ => ?_
 subst he
 exact ⟨_, rfl, Vs.post_kept noEmptySlices (by kernel_rfl) rfl hW' (fun _ _ _ => (trodAll_cons_mk (shut_bool underlying4 _) trodAll_mk0)) rfl rfl hg (ok_one (by kernel_rfl) rfl (okWide_bool_mk underlying4 _))⟩
theorem over : Rows.profHotRow.holds Try.pinned (OpenSpec.ofChange Rows.profHotSpec) :=
 OpenClaim.holds_of_wide 3 Try.f3 rfl rfl rfl rfl rfl rfl rfl ⟨rfl, rfl, rfl, rfl, rfl⟩ rfl rfl rfl rfl rfl (by kernel_rfl) Try.func3 (by kernel_rfl)
  (of_decide_eq_true (by kernel_rfl)) (by unfold Func.isWrapper; first | (rw [if_pos (by decide +kernel)]; kernel_rfl) | (rw [if_neg (by decide +kernel)]; exact ⟨rfl, rfl⟩))
  (fun os started H enc _ => lifted os started H enc)
theorem proved : Rows.ProfHotSaid :=
 over
#print axioms proved
end Go.Proofs.Ytljnoieepjeffaa.profHot
