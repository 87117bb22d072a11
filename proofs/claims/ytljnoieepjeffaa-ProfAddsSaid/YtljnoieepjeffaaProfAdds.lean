/-
  ProfAdds returns true for every input, and its arguments read as before. The program's functions are each shown to do what a plain Lean function says. No condition.
  (The frame of the row's step began as the kit's proof-skeleton; the rest is own work.)
-/
import Derived.Test.YtljnoieepjeffaaRows
import Derived.WalkKit
import Derived.ProofKit
import Derived.OpenShut
import Derived.Test.YtljnoieepjeffaaPaa4
import Derived.Test.YtljnoieepjeffaaPaa2
set_option linter.unusedSectionVars false
set_option linter.unusedVariables false
set_option linter.unusedSimpArgs false
set_option maxRecDepth 1000000
namespace Go.Proofs.Ytljnoieepjeffaa.profAdds
open Go Go.Proofs Go.Vs Go.ChangeShapes Go.WideShapes Go.ChangeAt Go.RowKit
theorem own : ownKnob Try.prog.godebug = none := by kernel_rfl
theorem underlying3 : Try.prog.underlying 3 = some (.int .i64) := by kernel_rfl
theorem underlying4 : Try.prog.underlying 4 = some .bool := by kernel_rfl
theorem underlying28 : Try.prog.underlying 28 = some (.slice 39) := by kernel_rfl
theorem underlying31 : Try.prog.underlying 31 = some (.slice 30) := by kernel_rfl
def flds : TypeDesc → Nat → Field
 | .struct fs, i => fs.getD i (Field.mk "" 0 0 false "" "" 0)
 | _, _ => Field.mk "" 0 0 false "" "" 0
theorem fields30 : Try.prog.underlying 30 = some (.struct #[flds Try.t29.desc 0, flds Try.t29.desc 1, flds Try.t29.desc 2, flds Try.t29.desc 3, flds Try.t29.desc 4]) := by kernel_rfl
theorem fields39 : Try.prog.underlying 39 = some (.struct #[flds Try.t38.desc 0, flds Try.t38.desc 1]) := by kernel_rfl
theorem noEmptySlices : noEmpty Try.prog = true := by kernel_rfl
theorem walk (W : World) (v0 : Value) (b0 : AVal) (l0 : List GRow) (e0 : ∀ σ : Sg, Den σ b0 v0) (g0 : @ArgC (gtabS W) b0 l0) (a1 : Bool) (a2 : Int) :
  Calls Try.prog 4 #[v0, .bool a1, .int .i64 a2] W fun e w' => e = .returned (.bool true) ∧ Vs.Kept W w' := by
 letI : Vs.GTab := gtabS W
 exact closeK (profAdds_said (Z := fun _ => False) (Γ := fun _ => none) g0 ⟨fun _ h => h.elim, fun _ _ e => by cases e⟩ fun _ _ => rfl) (glob_tabS W) (.cons (e0 _) (.cons (.bool _) (.cons (.int _ _) .nil)))
theorem lifted (os : Os) (started : os.Started) (H : Type) (enc : TypeId × Value → H) :
  ReturnsInHanded {} Try.checked os 4 .any (Rows.profAddsSpec.pre6 enc Try.prog Try.f4 Rows.profAddsRow.domain false) (Rows.profAddsSpec.post enc Try.prog Try.f4 false true false false) := by
 refine returnsInHanded_of_change (C := Try.checked) own started (by kernel_rfl) Try.func4
  (ChangeSpec.witness6 (enc := enc) (C := Try.checked) false ⟨#[], #[.slice none 0 0, .bool false, .int .i64 0], []⟩ 8 (by kernel_rfl) (by kernel_rfl) (by kernel_rfl) (by kernel_rfl)) ?_
 intro W base args ds gs before hval0 hW hcnd _
 have hval : ∀ (j : Nat) t v, Try.f4.params[j]? = some t → args[j]? = some v → Value.okWide Try.prog W .any base t v := hval0
 have hW' := hW
 obtain ⟨p, q, hA0, hV, rfl, hfz, hnd⟩ := hW
 have hA : DataW.TrodAll enc Try.prog W 0 (fun _ => true) true Try.f4.params.toList args.toList ds p := hA0
 rw [Try.params4] at hA hval
 obtain ⟨rfl, rfl⟩ := trodVars_none hV
 obtain ⟨v0, vs0, d0, ds0, p0, q0, hargs, rfl, rfl, h0, r0⟩ := trodAll_cons hA
 obtain ⟨v1, vs1, d1, ds1, p1, q1, rfl, rfl, rfl, h1, r1⟩ := trodAll_cons r0
 obtain ⟨v2, vs2, d2, ds2, p2, q2, rfl, rfl, rfl, h2, r2⟩ := trodAll_cons r1
 obtain ⟨rfl, rfl, rfl⟩ := trodAll_nil r2
 obtain rfl : args = #[v0, v1, v2] := by cases args; simp_all
 obtain ⟨b0, l0, e0, g0⟩ := counts_open (W := W) (k := 3) underlying31 (by kernel_rfl) fields30 (by decide +kernel) (by decide +kernel) (by decide +kernel) (by decide +kernel) (by decide +kernel) underlying3 (by kernel_rfl) underlying28 (by kernel_rfl) (by kernel_rfl) fields39 (by decide +kernel) (by decide +kernel) (okWide_slice underlying31 (hval 0 31 v0 rfl rfl)) h0
 obtain ⟨a1, rfl⟩ := okWide_bool underlying4 (hval 1 4 v1 rfl rfl)
 obtain ⟨fu1, hf1⟩ := h1
 obtain ⟨c1, eb1, ed1⟩ := DataW.trod_bool underlying4 hf1
 obtain ⟨rfl, rfl⟩ := Prod.mk.inj ed1
 obtain rfl : a1 = c1 := by simpa [Value.cells] using eb1
 obtain ⟨a2, rfl, rfl, rfl, w2⟩ := open_int underlying3 (hval 2 3 v2 rfl rfl) h2
 clear hA0 hval0
 refine (walk W v0 b0 l0 e0 g0 a1 a2).mono fun e W' ⟨he, hg⟩ => ?_
 subst he
 exact ⟨_, rfl, Vs.post_kept noEmptySlices (by kernel_rfl) rfl hW' (fun _ _ _ => (trodAll_cons_mk (shut_bool underlying4 _) trodAll_mk0)) rfl rfl hg (ok_one (by kernel_rfl) rfl (okWide_bool_mk underlying4 _))⟩
theorem over : Rows.profAddsRow.holds Try.pinned (OpenSpec.ofChange Rows.profAddsSpec) :=
 OpenClaim.holds_of_wide 4 Try.f4 rfl rfl rfl rfl rfl rfl rfl ⟨rfl, rfl, rfl, rfl, rfl⟩ rfl rfl rfl rfl rfl (by kernel_rfl) Try.func4 (by kernel_rfl)
  (of_decide_eq_true (by kernel_rfl)) (by unfold Func.isWrapper; first | (rw [if_pos (by decide +kernel)]; kernel_rfl) | (rw [if_neg (by decide +kernel)]; exact ⟨rfl, rfl⟩))
  (fun os started H enc _ => lifted os started H enc)
theorem proved : Rows.ProfAddsSaid :=
 over
#print axioms proved
end Go.Proofs.Ytljnoieepjeffaa.profAdds
