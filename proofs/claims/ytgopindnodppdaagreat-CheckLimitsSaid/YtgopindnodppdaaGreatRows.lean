/-
  No cell of these rows narrows 'for every input' (looked for: loops, veiled, ifaces, maps, wideKeys, modest, calm, conditions, laid).
  DERIVED. THE GIVEN ROWS OF THIS SEAT. 5 by the template 'for every input the law returns true; each argument reads behind the call as it read before'; 0 by the template 'total and deterministic' (their statements: YtgopindnodppdaaGreatTotals.lean).
  GIVEN WITH THE SEED: the statements are not yours to turn. If you find one false, say at which input.
  Laid BY PROGRAM, IN A SANDBOX (cutbox-rows.mjs): the forced cells as the released guide's own fill.sh prints them over the translation 0697b26d9bb63aa8… (all of the seat's roots in one cut). By AI agents, Wed Nov 11 2026. No macro, syntax, notation, axiom, sorry.
-/
import Derived.Test.YtgopindnodppdaaGreatChecked
import GoSem.Claim
import GoSem.ClaimJoined
import GoSem.ClaimMapViews
import Derived.JoinedTies
import Derived.KernelRfl
namespace Go.Proofs.YtgopindnodppdaaGreat
/- THE CELL 'sum', in the pinned program and in every row, IS THE sha256 OF THE DUMP (.gsa) THAT YtgopindnodppdaaGreatProg.lean LOADS. Nothing in Lean hashes anything: it is a label: what it is worth is what the hold of that sum in a sandbox is worth. -/
noncomputable def Tryz.pinned : Pinned := { name := "ytgopindnodppdaagreat", sum := "0697b26d9bb63aa8b4c917ffddda3c3383d6222202a9f2cf939bc76dbcf9b83c", checked := Tryz.checked }
namespace Rows
def none {H : Type} : Left H := { results := [], args := [] }

/-- 'turnstonelaw6.CheckKnown': WHATEVER THE INPUT: true; the input reads as it did. -/
def checkKnownSpec : ChangeSpec := { name := "checkKnown", fn := fun _ => fun
  | [] => { results := [.lit (.bool true)], args := [] }
  | _ => none }
def checkKnownRow : OpenClaim := { program := "ytgopindnodppdaagreat", sum := "0697b26d9bb63aa8b4c917ffddda3c3383d6222202a9f2cf939bc76dbcf9b83c", func := "turnstone/turnstonelaw6.CheckKnown", spec := "checkKnown", unfollowed := true, recurses := true, apart := false }
def CheckKnownSaid : Prop := checkKnownRow.holds Tryz.pinned (OpenSpec.ofChange checkKnownSpec)

/-- ITS FALSE NEIGHBOUR: 'it returns false'. Refute it at one input. -/
def checkKnownWrong : ChangeSpec := { name := "checkKnown", fn := fun _ => fun
  | [] => { results := [.lit (.bool false)], args := [] }
  | _ => none }
def CheckKnownWrongFalsely : Prop := checkKnownRow.holds Tryz.pinned (OpenSpec.ofChange checkKnownWrong)

/-- 'turnstonelaw6.CheckLimits': WHATEVER THE INPUT: true; the input reads as it did. -/
def checkLimitsSpec : ChangeSpec := { name := "checkLimits", fn := fun _ => fun
  | [d1, d2] => { results := [.lit (.bool true)], args := [d1, d2] }
  | _ => none }
def checkLimitsRow : OpenClaim := { program := "ytgopindnodppdaagreat", sum := "0697b26d9bb63aa8b4c917ffddda3c3383d6222202a9f2cf939bc76dbcf9b83c", func := "turnstone/turnstonelaw6.CheckLimits", spec := "checkLimits", unfollowed := true, recurses := true, apart := false }
def CheckLimitsSaid : Prop := checkLimitsRow.holds Tryz.pinned (OpenSpec.ofChange checkLimitsSpec)

/-- ITS FALSE NEIGHBOUR: 'it returns false'. Refute it at one input. -/
def checkLimitsWrong : ChangeSpec := { name := "checkLimits", fn := fun _ => fun
  | [d1, d2] => { results := [.lit (.bool false)], args := [d1, d2] }
  | _ => none }
def CheckLimitsWrongFalsely : Prop := checkLimitsRow.holds Tryz.pinned (OpenSpec.ofChange checkLimitsWrong)

/-- 'turnstonelaw6.CheckBlocks': WHATEVER THE INPUT: true; the input reads as it did. -/
def checkBlocksSpec : ChangeSpec := { name := "checkBlocks", fn := fun _ => fun
  | [d1, d2, d3] => { results := [.lit (.bool true)], args := [d1, d2, d3] }
  | _ => none }
def checkBlocksRow : OpenClaim := { program := "ytgopindnodppdaagreat", sum := "0697b26d9bb63aa8b4c917ffddda3c3383d6222202a9f2cf939bc76dbcf9b83c", func := "turnstone/turnstonelaw6.CheckBlocks", spec := "checkBlocks", unfollowed := true, recurses := true, apart := false }
def CheckBlocksSaid : Prop := checkBlocksRow.holds Tryz.pinned (OpenSpec.ofChange checkBlocksSpec)

/-- ITS FALSE NEIGHBOUR: 'it returns false'. Refute it at one input. -/
def checkBlocksWrong : ChangeSpec := { name := "checkBlocks", fn := fun _ => fun
  | [d1, d2, d3] => { results := [.lit (.bool false)], args := [d1, d2, d3] }
  | _ => none }
def CheckBlocksWrongFalsely : Prop := checkBlocksRow.holds Tryz.pinned (OpenSpec.ofChange checkBlocksWrong)

/-- 'turnstonelaw6.CheckEnds': WHATEVER THE INPUT: true; the input reads as it did. -/
def checkEndsSpec : ChangeSpec := { name := "checkEnds", fn := fun _ => fun
  | [d] => { results := [.lit (.bool true)], args := [d] }
  | _ => none }
def checkEndsRow : OpenClaim := { program := "ytgopindnodppdaagreat", sum := "0697b26d9bb63aa8b4c917ffddda3c3383d6222202a9f2cf939bc76dbcf9b83c", func := "turnstone/turnstonelaw6.CheckEnds", spec := "checkEnds", unfollowed := true, recurses := true, apart := false }
def CheckEndsSaid : Prop := checkEndsRow.holds Tryz.pinned (OpenSpec.ofChange checkEndsSpec)

/-- ITS FALSE NEIGHBOUR: 'it returns false'. Refute it at one input. -/
def checkEndsWrong : ChangeSpec := { name := "checkEnds", fn := fun _ => fun
  | [d] => { results := [.lit (.bool false)], args := [d] }
  | _ => none }
def CheckEndsWrongFalsely : Prop := checkEndsRow.holds Tryz.pinned (OpenSpec.ofChange checkEndsWrong)

/-- 'turnstonelaw6.CheckFits': WHATEVER THE INPUT: true; the input reads as it did. -/
def checkFitsSpec : ChangeSpec := { name := "checkFits", fn := fun _ => fun
  | [d1, d2] => { results := [.lit (.bool true)], args := [d1, d2] }
  | _ => none }
def checkFitsRow : OpenClaim := { program := "ytgopindnodppdaagreat", sum := "0697b26d9bb63aa8b4c917ffddda3c3383d6222202a9f2cf939bc76dbcf9b83c", func := "turnstone/turnstonelaw6.CheckFits", spec := "checkFits", unfollowed := true, recurses := true, apart := false }
def CheckFitsSaid : Prop := checkFitsRow.holds Tryz.pinned (OpenSpec.ofChange checkFitsSpec)

/-- ITS FALSE NEIGHBOUR: 'it returns false'. Refute it at one input. -/
def checkFitsWrong : ChangeSpec := { name := "checkFits", fn := fun _ => fun
  | [d1, d2] => { results := [.lit (.bool false)], args := [d1, d2] }
  | _ => none }
def CheckFitsWrongFalsely : Prop := checkFitsRow.holds Tryz.pinned (OpenSpec.ofChange checkFitsWrong)

/- THE SECOND FORM. 'bulk': how many values and letters a reading holds, each counted each time it is reached (what is shared counts as often as it is met; a slice's spare places count too). A statement '..UptoSaid' is the law's where the arguments, and the package variables that the reading takes, are together of bulk at most 1048576: NARROWER than '..Said'. Prove '..Said' where nothing that the law and all that it calls make is longer than what came in: it says more and counts as full. Else prove '..UptoSaid'. A law counts once. -/
mutual
def uptoBulk {H : Type} : DataW H → Nat
  | .lit (.string bytes) => bytes.length + 1
  | .lit _ => 1
  | .nil => 1
  | .ptr d => uptoBulk d + 1
  | .slice elems spare => uptoBulkAll elems + uptoBulkAll spare + 1
  | .agg parts => uptoBulkAll parts + 1
  | .iface _ d => uptoBulk d + 1
  | .map entries => uptoBulkEntries entries + 1
  | .held _ => 1
def uptoBulkAll {H : Type} : List (DataW H) → Nat
  | [] => 0
  | d :: r => uptoBulk d + uptoBulkAll r
def uptoBulkEntries {H : Type} : List (Lit × DataW H) → Nat
  | [] => 0
  | x :: r => uptoBulkEntry x + uptoBulkEntries r
def uptoBulkEntry {H : Type} : Lit × DataW H → Nat
  | (.string bytes, d) => bytes.length + uptoBulk d + 1
  | (_, d) => uptoBulk d + 1
 end
def uptoSmall : (H : Type) → List (DataW H) → Bool := fun _ ds => decide (uptoBulkAll ds ≤ 1048576)
def OpenSpec.upto (s : _root_.Go.ChangeSpec) : _root_.Go.OpenSpec := { _root_.Go.OpenSpec.ofChange s with cond := some uptoSmall }

/-- 'turnstonelaw6.CheckKnown', WHERE WHAT IT READS IS OF BULK AT MOST 1048576: true; the input reads as it did. -/
def checkKnownUptoRow : OpenClaim := { program := "ytgopindnodppdaagreat", sum := "0697b26d9bb63aa8b4c917ffddda3c3383d6222202a9f2cf939bc76dbcf9b83c", func := "turnstone/turnstonelaw6.CheckKnown", spec := "checkKnown", unfollowed := true, recurses := true, apart := false, narrowed := true }
def CheckKnownUptoSaid : Prop := checkKnownUptoRow.holds Tryz.pinned (OpenSpec.upto checkKnownSpec)

/-- 'turnstonelaw6.CheckLimits', WHERE WHAT IT READS IS OF BULK AT MOST 1048576: true; the input reads as it did. -/
def checkLimitsUptoRow : OpenClaim := { program := "ytgopindnodppdaagreat", sum := "0697b26d9bb63aa8b4c917ffddda3c3383d6222202a9f2cf939bc76dbcf9b83c", func := "turnstone/turnstonelaw6.CheckLimits", spec := "checkLimits", unfollowed := true, recurses := true, apart := false, narrowed := true }
def CheckLimitsUptoSaid : Prop := checkLimitsUptoRow.holds Tryz.pinned (OpenSpec.upto checkLimitsSpec)

/-- 'turnstonelaw6.CheckBlocks', WHERE WHAT IT READS IS OF BULK AT MOST 1048576: true; the input reads as it did. -/
def checkBlocksUptoRow : OpenClaim := { program := "ytgopindnodppdaagreat", sum := "0697b26d9bb63aa8b4c917ffddda3c3383d6222202a9f2cf939bc76dbcf9b83c", func := "turnstone/turnstonelaw6.CheckBlocks", spec := "checkBlocks", unfollowed := true, recurses := true, apart := false, narrowed := true }
def CheckBlocksUptoSaid : Prop := checkBlocksUptoRow.holds Tryz.pinned (OpenSpec.upto checkBlocksSpec)

/-- 'turnstonelaw6.CheckEnds', WHERE WHAT IT READS IS OF BULK AT MOST 1048576: true; the input reads as it did. -/
def checkEndsUptoRow : OpenClaim := { program := "ytgopindnodppdaagreat", sum := "0697b26d9bb63aa8b4c917ffddda3c3383d6222202a9f2cf939bc76dbcf9b83c", func := "turnstone/turnstonelaw6.CheckEnds", spec := "checkEnds", unfollowed := true, recurses := true, apart := false, narrowed := true }
def CheckEndsUptoSaid : Prop := checkEndsUptoRow.holds Tryz.pinned (OpenSpec.upto checkEndsSpec)

/-- 'turnstonelaw6.CheckFits', WHERE WHAT IT READS IS OF BULK AT MOST 1048576: true; the input reads as it did. -/
def checkFitsUptoRow : OpenClaim := { program := "ytgopindnodppdaagreat", sum := "0697b26d9bb63aa8b4c917ffddda3c3383d6222202a9f2cf939bc76dbcf9b83c", func := "turnstone/turnstonelaw6.CheckFits", spec := "checkFits", unfollowed := true, recurses := true, apart := false, narrowed := true }
def CheckFitsUptoSaid : Prop := checkFitsUptoRow.holds Tryz.pinned (OpenSpec.upto checkFitsSpec)

end Rows
end Go.Proofs.YtgopindnodppdaaGreat
