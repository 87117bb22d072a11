/-
  No cell of these rows narrows 'for every input' (looked for: loops, veiled, ifaces, maps, wideKeys, modest, calm, conditions, laid).
  DERIVED. THE GIVEN ROWS OF THIS SEAT. 2 by the template 'for every input the law returns true; each argument reads behind the call as it read before'; 0 by the template 'total and deterministic' (their statements: YtbbjihgkggahpaaGreatTotals.lean).
  GIVEN WITH THE SEED: the statements are not yours to turn. If you find one false, say at which input.
  Laid BY PROGRAM, IN A SANDBOX (cutbox-rows.mjs): the forced cells as the released guide's own fill.sh prints them over the translation 84a94ba8c4e18440… (all of the seat's roots in one cut). By AI agents, Wed Nov 11 2026. No macro, syntax, notation, axiom, sorry.
-/
import Derived.Test.YtbbjihgkggahpaaGreatChecked
import GoSem.Claim
import GoSem.ClaimJoined
import GoSem.ClaimMapViews
import Derived.JoinedTies
import Derived.KernelRfl
namespace Go.Proofs.YtbbjihgkggahpaaGreat
/- THE CELL 'sum', in the pinned program and in every row, IS THE sha256 OF THE DUMP (.gsa) THAT YtbbjihgkggahpaaGreatProg.lean LOADS. Nothing in Lean hashes anything: it is a label: what it is worth is what the hold of that sum in a sandbox is worth. -/
noncomputable def Tryz.pinned : Pinned := { name := "ytbbjihgkggahpaagreat", sum := "84a94ba8c4e18440b84c3d21261f4bb4de05da07e30c42ea818a7528820d6141", checked := Tryz.checked }
namespace Rows
def none {H : Type} : Left H := { results := [], args := [] }

/-- 'turnstonelaw6.CheckKeeps': WHATEVER THE INPUT: true; the input reads as it did. -/
def checkKeepsSpec : ChangeSpec := { name := "checkKeeps", fn := fun _ => fun
  | [d] => { results := [.lit (.bool true)], args := [d] }
  | _ => none }
def checkKeepsRow : OpenClaim := { program := "ytbbjihgkggahpaagreat", sum := "84a94ba8c4e18440b84c3d21261f4bb4de05da07e30c42ea818a7528820d6141", func := "turnstone/turnstonelaw6.CheckKeeps", spec := "checkKeeps", unfollowed := true, recurses := true, apart := false }
def CheckKeepsSaid : Prop := checkKeepsRow.holds Tryz.pinned (OpenSpec.ofChange checkKeepsSpec)

/-- ITS FALSE NEIGHBOUR: 'it returns false'. Refute it at one input. -/
def checkKeepsWrong : ChangeSpec := { name := "checkKeeps", fn := fun _ => fun
  | [d] => { results := [.lit (.bool false)], args := [d] }
  | _ => none }
def CheckKeepsWrongFalsely : Prop := checkKeepsRow.holds Tryz.pinned (OpenSpec.ofChange checkKeepsWrong)

/-- 'turnstonelaw6.CheckEnds': WHATEVER THE INPUT: true; the input reads as it did. -/
def checkEndsSpec : ChangeSpec := { name := "checkEnds", fn := fun _ => fun
  | [d] => { results := [.lit (.bool true)], args := [d] }
  | _ => none }
def checkEndsRow : OpenClaim := { program := "ytbbjihgkggahpaagreat", sum := "84a94ba8c4e18440b84c3d21261f4bb4de05da07e30c42ea818a7528820d6141", func := "turnstone/turnstonelaw6.CheckEnds", spec := "checkEnds", unfollowed := true, recurses := true, apart := false }
def CheckEndsSaid : Prop := checkEndsRow.holds Tryz.pinned (OpenSpec.ofChange checkEndsSpec)

/-- ITS FALSE NEIGHBOUR: 'it returns false'. Refute it at one input. -/
def checkEndsWrong : ChangeSpec := { name := "checkEnds", fn := fun _ => fun
  | [d] => { results := [.lit (.bool false)], args := [d] }
  | _ => none }
def CheckEndsWrongFalsely : Prop := checkEndsRow.holds Tryz.pinned (OpenSpec.ofChange checkEndsWrong)

/- THE SECOND FORM. 'bulk': how many values and letters a reading holds, each counted each time it is reached (what is shared counts as often as it is met; a slice's spare places count too). A statement '..UptoSaid' is the law's where the arguments, and the package variables that the reading takes, are together of bulk at most 1048576: NARROWER than '..Said'. Prove '..Said' where nothing that the law and all that it calls make is longer than what came in: it says more and counts as full. Else prove '..UptoSaid'. A law counts once. -/
mutual
def uptoBulk {H : Type} : DataW H → Nat
  | .lit (.string bytes) => bytes.length + 1
  | .lit _ => 1
  | .nil => 1
  | .ptr d => uptoBulk d + 1
  | .slice elems spare => uptoBulkAll elems + uptoBulkAll spare + 1
  | .agg parts => uptoBulkAll parts + 1
  | .iface _ d => uptoBulk d + 1
  | .map entries => uptoBulkEntries entries + 1
  | .held _ => 1
def uptoBulkAll {H : Type} : List (DataW H) → Nat
  | [] => 0
  | d :: r => uptoBulk d + uptoBulkAll r
def uptoBulkEntries {H : Type} : List (Lit × DataW H) → Nat
  | [] => 0
  | x :: r => uptoBulkEntry x + uptoBulkEntries r
def uptoBulkEntry {H : Type} : Lit × DataW H → Nat
  | (.string bytes, d) => bytes.length + uptoBulk d + 1
  | (_, d) => uptoBulk d + 1
 end
def uptoSmall : (H : Type) → List (DataW H) → Bool := fun _ ds => decide (uptoBulkAll ds ≤ 1048576)
def OpenSpec.upto (s : _root_.Go.ChangeSpec) : _root_.Go.OpenSpec := { _root_.Go.OpenSpec.ofChange s with cond := some uptoSmall }

/-- 'turnstonelaw6.CheckKeeps', WHERE WHAT IT READS IS OF BULK AT MOST 1048576: true; the input reads as it did. -/
def checkKeepsUptoRow : OpenClaim := { program := "ytbbjihgkggahpaagreat", sum := "84a94ba8c4e18440b84c3d21261f4bb4de05da07e30c42ea818a7528820d6141", func := "turnstone/turnstonelaw6.CheckKeeps", spec := "checkKeeps", unfollowed := true, recurses := true, apart := false, narrowed := true }
def CheckKeepsUptoSaid : Prop := checkKeepsUptoRow.holds Tryz.pinned (OpenSpec.upto checkKeepsSpec)

/-- 'turnstonelaw6.CheckEnds', WHERE WHAT IT READS IS OF BULK AT MOST 1048576: true; the input reads as it did. -/
def checkEndsUptoRow : OpenClaim := { program := "ytbbjihgkggahpaagreat", sum := "84a94ba8c4e18440b84c3d21261f4bb4de05da07e30c42ea818a7528820d6141", func := "turnstone/turnstonelaw6.CheckEnds", spec := "checkEnds", unfollowed := true, recurses := true, apart := false, narrowed := true }
def CheckEndsUptoSaid : Prop := checkEndsUptoRow.holds Tryz.pinned (OpenSpec.upto checkEndsSpec)

end Rows
end Go.Proofs.YtbbjihgkggahpaaGreat
