/-
  ParseBent: the call, and from the run to the row. No condition.
-/
import Derived.Test.YtjjhihcgiogjjaaGreatDoorRows
import Derived.WalkKit
import Derived.ProofKit
import Derived.OpenShut
import Derived.Lay
import Derived.Stop.Joined
import Derived.MakeChecks
import Derived.Test.YtjjhihcgiogjjaaGreatDoorPbt7
import Derived.Test.YtjjhihcgiogjjaaGreatDoorPbt2
set_option linter.unusedSectionVars false
set_option linter.unusedVariables false
set_option linter.unusedSimpArgs false
set_option maxRecDepth 1000000
namespace Go.Proofs.YtjjhihcgiogjjaaGreatDoor.parseBent
open Go Go.Proofs Go.Vs Go.ChangeShapes Go.WideShapes Go.ChangeAt Go.RowKit
theorem own : ownKnob Tryz.prog.godebug = none := by kernel_rfl
theorem underlying3 : Tryz.prog.underlying 3 = some (.int .i64) := by kernel_rfl
theorem underlying4 : Tryz.prog.underlying 4 = some .bool := by kernel_rfl
theorem underlying9 : Tryz.prog.underlying 9 = some .string := by kernel_rfl
theorem underlying22 : Tryz.prog.underlying 22 = some (.slice 3) := by kernel_rfl
def wordsL : List (List UInt8) := [[116, 121, 112, 101], [115, 116, 114, 117, 99, 116], [105, 110, 116, 101, 114, 102, 97, 99, 101], [102, 117, 110, 99], [118, 97, 114], [105, 102], [101, 108, 115, 101], [102, 111, 114], [98, 114, 101, 97, 107], [99, 111, 110, 116, 105, 110, 117, 101], [114, 101, 116, 117, 114, 110], [112, 114, 105, 110, 116], [108, 101, 110], [109, 97, 107, 101], [110, 101, 119], [105, 110, 112, 117, 116], [116, 114, 117, 101], [102, 97, 108, 115, 101], [110, 105, 108], [105, 110, 116], [98, 111, 111, 108], [115, 116, 114, 105, 110, 103], [58, 61], [61, 61], [38, 38], [124, 124], [43], [45], [42], [60], [61], [33], [40], [41], [91], [93], [123], [125], [44], [46], [59], [10], [97], [55]]
theorem words_ok {W : World} (hL : laidMetH Tryz.prog Rows.parseBentRow.laid W) : @K2 (yC W) := by
 rw [MakeChecks.laidMetH_plain _ _ _ (by kernel_rfl)] at hL
 exact ⟨wordsL, qfg (ss := wordsL) (t := 47) (e := 9) (n := 44) hL (by kernel_rfl) (by kernel_rfl) (by kernel_rfl) underlying9 (by kernel_rfl) (by kernel_rfl), rfl, by decide⟩
theorem noEmptySlices : yU Tryz.prog = true := by kernel_rfl
theorem walk (W : World) (hL : laidMetH Tryz.prog Rows.parseBentRow.laid W) (v0 : Value) (b0 : qa) (l0 : List Int) (e0 : ∀ σ : Sg, Den σ b0 v0) (g0 : @Wk (yC W) b0 (l0.map iv)) (c0 : qI b0 = true) (m0 : l0.length ≤ 9223372036854775807) (v1 : Value) (b1 : qa) (l1 : List Int) (e1 : ∀ σ : Sg, Den σ b1 v1) (g1 : @Wk (yC W) b1 (l1.map iv)) (c1 : qI b1 = true) (m1 : l1.length ≤ 9223372036854775807) :
  Calls Tryz.prog 3 #[v0, v1] W fun e w' => e = .returned (.bool true) ∧ Vs.ZP W w' := by
 letI : Vs.GTab := yC W
 exact qn3 (XZ (Z := fun _ => False) (Γ := fun _ => none) (@Zs.mk (yC W) _ _ (@Wk.ints (yC W) _ _ g0) m0 c0) (@Wk.ints (yC W) _ _ g1) c1 m1 (words_ok hL) ⟨fun _ h => h.elim, fun _ _ e => by cases e⟩ fun _ _ _ _ _ _ => rfl) (qg6 W) (.cons (e0 _) (.cons (e1 _) .nil))
theorem lifted (os : Os) (started : os.Started) (H : Type) (enc : TypeId × Value → H) :
  ReturnsInHanded {} Tryz.checked os 3 .any (fun w args => (Rows.parseBentSpec.pre enc Tryz.prog Tryz.f3 [] false w args ∧ laidMetH Tryz.prog Rows.parseBentRow.laid w) ∧ sizedMet enc Tryz.prog Tryz.f3 (OpenSpec.ofChange Rows.parseBentSpec) false w args)
   (Rows.parseBentSpec.post enc Tryz.prog Tryz.f3 false true false false) := by
 refine returnsInHanded_of_change_and (C := Tryz.checked) (X := fun w _ => laidMetH Tryz.prog Rows.parseBentRow.laid w) (fun _ _ _ hh h => h.of_heap hh) own started (by kernel_rfl) Tryz.func3
  (ChangeSpec.witness_shaped (enc := enc) (C := Tryz.checked) (os := os) (X := fun w _ => laidMetH Tryz.prog Rows.parseBentRow.laid w) false (World.laidAll Tryz.prog os Rows.parseBentRow.laid) #[.slice none 0 0, .slice none 0 0] 8 (World.laidAll_os _ _ _)
   (World.shaped_of_ZipB (by kernel_rfl) (by kernel_rfl)) (by kernel_rfl) (by kernel_rfl) (by kernel_rfl)
   (by rw [MakeChecks.laidMetH_plain _ _ _ (by kernel_rfl)]; exact laidMet_laidAll _ (by kernel_rfl) (by kernel_rfl))) ?_
 intro W base args ds gs before hval0 hW _ _ hL _
 have hval : ∀ (j : Nat) t v, Tryz.f3.params[j]? = some t → args[j]? = some v → Value.okWide Tryz.prog W .any base t v := hval0
 have hW' := hW
 obtain ⟨p, q, hA0, hV, rfl, hfz, hnd⟩ := hW
 have hA : DataW.TrodAll enc Tryz.prog W 0 (fun _ => true) true Tryz.f3.params.toList args.toList ds p := hA0
 rw [Tryz.params3] at hA hval
 obtain ⟨rfl, rfl⟩ := trodVars_none hV
 obtain ⟨v0, vs0, d0, ds0, p0, q0, hargs, rfl, rfl, h0, r0⟩ := trodAll_cons hA
 obtain ⟨v1, vs1, d1, ds1, p1, q1, rfl, rfl, rfl, h1, r1⟩ := trodAll_cons r0
 obtain ⟨rfl, rfl, rfl⟩ := trodAll_nil r1
 obtain rfl : args = #[v0, v1] := by cases args; simp_all
 obtain ⟨b0, us0, e0, g0, ⟨c0, m0⟩, y0⟩ := W5 (W := W) underlying22 (by kernel_rfl) (okWide_slice underlying22 (hval 0 22 v0 rfl rfl)) h0
 obtain ⟨l0, rfl⟩ := qdz fun x hx => let ⟨n, u, y, h1, h2⟩ := y0 x hx; WB underlying3 h1 h2
 rw [List.length_map] at m0
 obtain ⟨b1, us1, e1, g1, ⟨c1, m1⟩, y1⟩ := W5 (W := W) underlying22 (by kernel_rfl) (okWide_slice underlying22 (hval 1 22 v1 rfl rfl)) h1
 obtain ⟨l1, rfl⟩ := qdz fun x hx => let ⟨n, u, y, h1, h2⟩ := y1 x hx; WB underlying3 h1 h2
 rw [List.length_map] at m1
 clear hA0 hval0
 refine (walk W hL v0 b0 l0 e0 g0 c0 m0 v1 b1 l1 e1 g1 c1 m1).mono fun e W' ⟨he, hg⟩ => ?_
 subst he
 exact ⟨_, rfl, Vs.qf1 noEmptySlices (by kernel_rfl) rfl hW' (fun _ _ _ => (trodAll_cons_mk (shut_bool underlying4 _) trodAll_mk0)) rfl rfl hg (ok_one (by kernel_rfl) rfl (okWide_bool_mk underlying4 _))⟩
end Go.Proofs.YtjjhihcgiogjjaaGreatDoor.parseBent
