/-
  Own work. Numbers that are not known, brought within bounds by Pick: what the evaluator is told of that function.
-/
import Derived.Test.YtbnphbijdnhbkaaGreatDoorEvK4
namespace Go.Ev
variable [GTab]
set_option linter.unusedSectionVars false

theorem pickI_range (n : Int) (m : Nat) (hm : m ≠ 0) : ∃ i : Nat, i < m ∧ pickI n m = (i : Int) := by
  have hpos : (0 : Int) < m := by omega
  have h1 : n.tmod m < m := Int.tmod_lt_of_pos n hpos
  have h2 : -(m : Int) < n.tmod m := by
    have := Int.tmod_lt_of_pos (-n) hpos
    rw [Int.neg_tmod] at this
    omega
  unfold pickI
  by_cases h : n.tmod m < 0
  · rw [if_pos h]
    exact ⟨(n.tmod m + m).toNat, by omega, by omega⟩
  · rw [if_neg h]
    exact ⟨(n.tmod m).toNat, by omega, by omega⟩

noncomputable def intsL (m : Nat) : List AVal := (List.range m).map fun i => .int .i64 (.ofNat i)

/-- What Pick may return. -/
noncomputable def pickL (args : List AVal) (rest : Option (List AVal)) : Option (List AVal) :=
  match args with
  | [.anyInt .i64 m i, .int .i64 (.ofNat (Nat.succ j))] => match Nat.ble (Nat.succ j) 4096 with
    | true => match Nat.beq m (Nat.succ j) with
      | true => some [.int .i64 (.ofNat i)]
      | false => some (intsL (Nat.succ j))
    | false => rest
  | _ => rest

noncomputable def pickOrc (g : FuncId) (orc : Orc) : Orc := fun f args => Bool.rec (orc f args) (pickL args (orc f args)) (Nat.beq f g)

/-- Pick's contract. -/
def PickOK (P : Program) (g : FuncId) : Prop :=
  ∀ (a : Int) (m : Nat) (w : World), m ≠ 0 → m ≤ 4096 → Calls P g #[.int .i64 a, .int .i64 (m : Int)] w fun e w' => e = .returned (.int .i64 (pickI a m)) ∧ w' = w

theorem pickOrc_ok {P : Program} {g : FuncId} {orc : Orc} (ho : OrcOK P orc) (hp : PickOK P g) : OrcOK P (pickOrc g orc) := by
  intro f args l hl σ w args' hg hd
  unfold pickOrc at hl
  cases hf : Nat.beq f g with
  | false => rw [hf] at hl; exact ho f args l hl σ w args' hg hd
  | true =>
    rw [hf] at hl
    have := Nat.eq_of_beq_eq_true hf
    subst this
    have hl' : pickL args (orc f args) = some l := hl
    unfold pickL at hl'
    split at hl'
    · rename_i m i j
      split at hl'
      · rename_i hle
        have hle' : j + 1 ≤ 4096 := Nat.le_of_ble_eq_true hle
        cases hd with
        | cons h1 t1 =>
          cases t1 with
          | cons h2 t2 =>
            cases t2
            cases h2
            cases h1 with
            | anyInt _ _ _ n hn =>
              refine (hp n (j + 1) w (by omega) hle').mono fun e w' ⟨he, hw⟩ => ?_
              subst hw
              refine ⟨?_, rfl, Kept.refl _⟩
              split at hl'
              · rename_i hm
                have hm' := Nat.eq_of_beq_eq_true hm
                subst hm'
                cases hl'
                exact ⟨_, _, List.mem_singleton.2 rfl, .int _ _, by rw [he, hn (by omega)]; rfl⟩
              · cases hl'
                obtain ⟨q, hq, hv⟩ := pickI_range n (j + 1) (by omega)
                exact ⟨_, _, List.mem_map.2 ⟨q, List.mem_range.2 hq, rfl⟩, .int _ _, by rw [he, hv]; rfl⟩
      · exact ho f _ l hl' σ w args' hg hd
    · exact ho f _ l hl' σ w args' hg hd

end Go.Ev
