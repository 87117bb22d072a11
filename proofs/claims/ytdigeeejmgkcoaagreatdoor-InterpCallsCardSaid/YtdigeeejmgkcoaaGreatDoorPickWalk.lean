/-
  Pick brings any number within 0 to m - 1 and touches no memory. Condition: m from 1 to 4096.
-/
import Derived.Test.YtdigeeejmgkcoaaGreatDoorChecked
import Derived.Test.YtdigeeejmgkcoaaGreatDoorEvOrc
import Derived.WalkKit
namespace Go.Proofs.YtdigeeejmgkcoaaGreatDoor

theorem pickWalk : Ev.PickOK Tryz.prog 11 := by
  intro a m w hm hle
  have hpos : (0 : Int) < m := by omega
  have hlt : (m : Int) ≤ 4096 := by omega
  have h1 : a.tmod m < m := Int.tmod_lt_of_pos a hpos
  have h2 : -(m : Int) < a.tmod m := by
    have := Int.tmod_lt_of_pos (-a) hpos
    rw [Int.neg_tmod] at this
    omega
  have hne : ((m : Int) == 0) = false := by simp; omega
  by_cases h : a.tmod m < 0
  · have e : Ev.pickI a m = a.tmod m + m := by unfold Ev.pickI; rw [if_pos h]
    rw [e]
    have hw : RowKit.wrap64 (a.tmod m + m) = a.tmod m + m := by unfold RowKit.wrap64; omega
    go_enter Tryz.func11, Tryz.ntmps11
    go_wp2
    go_ret
    exact ⟨rfl, rfl⟩
  · have e : Ev.pickI a m = a.tmod m := by unfold Ev.pickI; rw [if_neg h]
    rw [e]
    go_enter Tryz.func11, Tryz.ntmps11
    go_wp2
    go_ret
    exact ⟨rfl, rfl⟩

end Go.Proofs.YtdigeeejmgkcoaaGreatDoor
