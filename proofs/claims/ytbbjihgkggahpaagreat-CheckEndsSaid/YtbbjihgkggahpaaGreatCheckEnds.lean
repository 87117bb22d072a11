/-
  CheckEnds returns true for every input, and its arguments read as before. The program's jq are each shown to do what a plain Lean function says. No condition.
  (The frame of the row's step began as the kit's proof-skeleton; the rest is own work.)
-/
import Derived.Test.YtbbjihgkggahpaaGreatRows
import Derived.WalkKit
import Derived.ProofKit
import Derived.OpenShut
import Derived.Test.YtbbjihgkggahpaaGreatCee8
import Derived.Test.YtbbjihgkggahpaaGreatCee3
set_option linter.unusedSectionVars false
set_option linter.unusedVariables false
set_option linter.unusedSimpArgs false
set_option maxRecDepth 1000000
namespace Go.Proofs.YtbbjihgkggahpaaGreat.checkEnds
open Go Go.Proofs Go.Vs Go.ChangeShapes Go.WideShapes Go.ChangeAt Go.RowKit
theorem own : ownKnob Tryz.prog.godebug = none := by kernel_rfl
theorem underlying3 : Tryz.prog.underlying 3 = some (.int .i64) := by kernel_rfl
theorem underlying4 : Tryz.prog.underlying 4 = some .bool := by kernel_rfl
theorem underlying22 : Tryz.prog.underlying 22 = some (.slice 3) := by kernel_rfl
theorem noEmptySlices : QE Tryz.prog = true := by kernel_rfl
theorem walk (W : World) (v0 : Value) (b0 : qa) (l0 : List Int) (e0 : ∀ σ : Sg, Den σ b0 v0) (g0 : @qar (Jj W) b0 (l0.map iv)) :
  Calls Tryz.prog 4 #[v0] W fun e w' => e = .returned (.bool true) ∧ Vs.JL W w' := by
 letI : Vs.GTab := Jj W
 exact qux (qi8 (Z := fun _ => False) (Γ := fun _ => none) (@qar.ints (Jj W) _ _ g0) ⟨fun _ h => h.elim, fun _ _ e => by cases e⟩ fun _ _ => rfl) (qj1 W) (.cons (e0 _) .nil)
theorem lifted (os : Os) (started : os.Started) (H : Type) (enc : TypeId × Value → H) :
  ReturnsInHanded {} Tryz.checked os 4 .any (Rows.checkEndsSpec.pre6 enc Tryz.prog Tryz.f4 Rows.checkEndsRow.domain false) (Rows.checkEndsSpec.post enc Tryz.prog Tryz.f4 false true false false) := by
 refine returnsInHanded_of_change (C := Tryz.checked) own started (by kernel_rfl) Tryz.func4
  (ChangeSpec.witness6 (enc := enc) (C := Tryz.checked) false ⟨#[], #[.slice none 0 0], []⟩ 8 (by kernel_rfl) (by kernel_rfl) (by kernel_rfl) (by kernel_rfl)) ?_
 intro W base args ds gs before hval0 hW hcnd _
 have hval : ∀ (j : Nat) t v, Tryz.f4.params[j]? = some t → args[j]? = some v → Value.okWide Tryz.prog W .any base t v := hval0
 have hW' := hW
 obtain ⟨p, q, hA0, hV, rfl, hfz, hnd⟩ := hW
 have hA : DataW.TrodAll enc Tryz.prog W 0 (fun _ => true) true Tryz.f4.params.toList args.toList ds p := hA0
 rw [Tryz.params4] at hA hval
 obtain ⟨rfl, rfl⟩ := trodVars_none hV
 obtain ⟨v0, vs0, d0, ds0, p0, q0, hargs, rfl, rfl, h0, r0⟩ := trodAll_cons hA
 obtain ⟨rfl, rfl, rfl⟩ := trodAll_nil r0
 obtain rfl : args = #[v0] := by cases args; simp_all
 obtain ⟨b0, us0, e0, g0, y0⟩ := qle (W := W) underlying22 (by kernel_rfl) (okWide_slice underlying22 (hval 0 22 v0 rfl rfl)) h0
 obtain ⟨l0, rfl⟩ := qos fun x hx => let ⟨n, u, y, h1, h2⟩ := y0 x hx; qi6 underlying3 h1 h2
 clear hA0 hval0
 refine (walk W v0 b0 l0 e0 g0).mono fun e W' ⟨he, hg⟩ => ?_
 subst he
 exact ⟨_, rfl, Vs.qiq noEmptySlices (by kernel_rfl) rfl hW' (fun _ _ _ => (trodAll_cons_mk (shut_bool underlying4 _) trodAll_mk0)) rfl rfl hg (ok_one (by kernel_rfl) rfl (okWide_bool_mk underlying4 _))⟩
theorem over : Rows.checkEndsRow.holds Tryz.pinned (OpenSpec.ofChange Rows.checkEndsSpec) :=
 OpenClaim.holds_of_wide 4 Tryz.f4 rfl rfl rfl rfl rfl rfl rfl ⟨rfl, rfl, rfl, rfl, rfl⟩ rfl rfl rfl rfl rfl (by kernel_rfl) Tryz.func4 (by kernel_rfl)
  (of_decide_eq_true (by kernel_rfl)) (by unfold Func.isWrapper; first | (rw [if_pos (by decide +kernel)]; kernel_rfl) | (rw [if_neg (by decide +kernel)]; exact ⟨rfl, rfl⟩))
  (fun os started H enc _ => lifted os started H enc)
theorem proved : Rows.CheckEndsSaid :=
 over
#print axioms proved
end Go.Proofs.YtbbjihgkggahpaaGreat.checkEnds
