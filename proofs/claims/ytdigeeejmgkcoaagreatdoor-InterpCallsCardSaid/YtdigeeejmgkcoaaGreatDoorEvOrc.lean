/-
  Own work. Numbers that are not known, brought within bounds by Pick: what the evaluator is told of that function.
-/
import Derived.Test.YtdigeeejmgkcoaaGreatDoorEvK4
namespace Go.Ev
variable [GTab]
set_option linter.unusedSectionVars false

theorem pickI_range (n : Int) (m : Nat) (hm : m ≠ 0) : ∃ i : Nat, i < m ∧ pickI n m = (i : Int) := by
  have hpos : (0 : Int) < m := by omega
  have h1 : n.tmod m < m := Int.tmod_lt_of_pos n hpos
  have h2 : -(m : Int) < n.tmod m := by
    have := Int.tmod_lt_of_pos (-n) hpos
    rw [Int.neg_tmod] at this
    omega
  unfold pickI
  by_cases h : n.tmod m < 0
  · rw [if_pos h]
    exact ⟨(n.tmod m + m).toNat, by omega, by omega⟩
  · rw [if_neg h]
    exact ⟨(n.tmod m).toNat, by omega, by omega⟩

noncomputable def intsL (m : Nat) : List AVal := (List.range m).map fun i => .int .i64 (.ofNat i)

/-- What Pick may return. -/
noncomputable def pickL (args : List AVal) (rest : Option (List AVal)) : Option (List AVal) :=
  match args with
  | [.anyInt .i64 m i, .int .i64 (.ofNat (Nat.succ j))] => match Nat.ble (Nat.succ j) 4096 with
    | true => match Nat.beq m (Nat.succ j) with
      | true => some [.int .i64 (.ofNat i)]
      | false => some (intsL (Nat.succ j))
    | false => rest
  | _ => rest

noncomputable def pickOrc (g : FuncId) (orc : Orc) : Orc := fun f args => Bool.rec (orc f args) (pickL args (orc f args)) (Nat.beq f g)

/-- Pick's contract. -/
def PickOK (P : Program) (g : FuncId) : Prop :=
  ∀ (a : Int) (m : Nat) (w : World), m ≠ 0 → m ≤ 4096 → Calls P g #[.int .i64 a, .int .i64 (m : Int)] w fun e w' => e = .returned (.int .i64 (pickI a m)) ∧ w' = w

theorem pickOrc_ok {P : Program} {g : FuncId} {orc : Orc} (ho : OrcOK P orc) (hp : PickOK P g) : OrcOK P (pickOrc g orc) := by
  intro f args l hl σ w args' hg hd
  unfold pickOrc at hl
  cases hf : Nat.beq f g with
  | false => rw [hf] at hl; exact ho f args l hl σ w args' hg hd
  | true =>
    rw [hf] at hl
    have := Nat.eq_of_beq_eq_true hf
    subst this
    have hl' : pickL args (orc f args) = some l := hl
    unfold pickL at hl'
    split at hl'
    · rename_i m i j
      split at hl'
      · rename_i hle
        have hle' : j + 1 ≤ 4096 := Nat.le_of_ble_eq_true hle
        cases hd with
        | cons h1 t1 =>
          cases t1 with
          | cons h2 t2 =>
            cases t2
            cases h2
            cases h1 with
            | anyInt _ _ _ n hn =>
              refine (hp n (j + 1) w (by omega) hle').mono fun e w' ⟨he, hw⟩ => ?_
              subst hw
              refine ⟨?_, rfl, Kept.refl _⟩
              split at hl'
              · rename_i hm
                have hm' := Nat.eq_of_beq_eq_true hm
                subst hm'
                cases hl'
                exact ⟨_, _, List.mem_singleton.2 rfl, .int _ _, by unfold AnyOK at hn; rw [if_neg (by omega)] at hn; rw [he, hn (by omega)]; rfl⟩
              · cases hl'
                obtain ⟨q, hq, hv⟩ := pickI_range n (j + 1) (by omega)
                exact ⟨_, _, List.mem_map.2 ⟨q, List.mem_range.2 hq, rfl⟩, .int _ _, by rw [he, hv]; rfl⟩
      · exact ho f _ l hl' σ w args' hg hd
    · exact ho f _ l hl' σ w args' hg hd

end Go.Ev

namespace Go.Ev
variable [GTab]
set_option linter.unusedSectionVars false

/-- It names no block. -/
def noBlk : AVal → Bool
  | .und | .bool _ | .int _ _ | .str _ _ | .nilPtr | .nilSlice | .nilMap | .nilFunc | .nilIface | .anyInt _ _ _ | .anyBool | .gptr _ _ | .anyStr _ => true
  | _ => false

theorem Den.noBlk {σ σ2 : Sg} {a : AVal} {v : Value} (h : Ev.noBlk a = true) (hd : Den σ a v) : Den σ2 a v := by
  cases hd <;> first | (cases h; done) | (constructor; done) | (constructor; assumption)

noncomputable def noBlkL (l : List AVal) : Bool := allL noBlk l

theorem DenL.noBlk {σ σ2 : Sg} : ∀ {l : List AVal} {l' : List Value}, (∀ a, a ∈ l → Ev.noBlk a = true) → DenL σ l l' → DenL σ2 l l'
  | _, _, _, .nil => .nil
  | _, _, h, .cons hd t => .cons (hd.noBlk (h _ (List.mem_cons_self ..))) (DenL.noBlk (fun a ha => h a (List.mem_cons_of_mem _ ha)) t)

/-- What is kept of a value: nothing, or all of it. -/
noncomputable def keep1 (p a : AVal) : Bool := match p with
  | .und => true
  | p => match noBlk p with
    | true => beqA 9 p a
    | false => false

noncomputable def keepL : List AVal → List AVal → Bool
  | [], [] => true
  | p :: ps, a :: as => match keep1 p a with
    | true => keepL ps as
    | false => false
  | _, _ => false

noncomputable def keepV (p a : AVal) : Bool := match p, a with
  | .tuple ps, .tuple as => keepL ps as
  | p, a => keep1 p a

theorem keep1_ok {σ σ2 : Sg} {p a : AVal} {v : Value} (h : keep1 p a = true) (hd : Den σ a v) : Den σ2 p v := by
  unfold keep1 at h
  split at h
  · exact .und _
  · split at h <;> first | (cases h; done) | skip
    rename_i hn
    have := beqA_ok _ _ _ h
    subst this
    exact hd.noBlk hn

theorem keepL_ok {σ σ2 : Sg} : ∀ {ps as : List AVal} {vs : List Value}, keepL ps as = true → DenL σ as vs → DenL σ2 ps vs
  | [], [], _, _, .nil => .nil
  | p :: ps, a :: as, _, h, .cons hd t => by
    unfold keepL at h
    split at h <;> first | (cases h; done) | skip
    exact .cons (keep1_ok ‹_› hd) (keepL_ok h t)
  | [], _ :: _, _, h, _ => by cases h
  | _ :: _, [], _, h, _ => by cases h

theorem keepV_ok {σ σ2 : Sg} {p a : AVal} {v : Value} (h : keepV p a = true) (hd : Den σ a v) : Den σ2 p v := by
  unfold keepV at h
  split at h
  · cases hd with
    | tuple hl => exact .tuple (keepL_ok h hl)
  · exact keep1_ok h hd

noncomputable def isV (p : AVal) (e : AEnd) : Bool := match e with
  | .ret a => keepV p a
  | .pan _ => false

/-- A call from nothing, of whose result this is kept. -/
noncomputable def runV (P : Program) (orc : Orc) (f : FuncId) (n : Nat) (args : List AVal) (p : AVal) : Bool := (fCalls P orc n).1 f args (all5 none) 0 fun e _ _ => isV p e

theorem runV_ok {P : Program} {orc : Orc} {f : FuncId} {n : Nat} {args : List AVal} {p : AVal} (hm : P.follows .mixedOrders = true) (ho : OrcOK P orc) (h : runV P orc f n args p = true) {w : World} (hg : Glob (fun _ => none) w) (args' : List Value) (hd : DenL (fun _ => none) args args') :
    Calls P f ⟨args'⟩ w fun e w' => (∃ v', Den (fun _ => none) p v' ∧ e = .returned v') ∧ w'.tape = w.tape ∧ Kept w w' := by
  refine (fCalls_ok hm ho n).1 f args (all5 none) 0 _ h (fun _ => none) w args' _ (Rel.nothing hg) hd fun e H' nx' σ' w' en hk R E he => ?_
  unfold isV at hk
  cases e with
  | pan l => exact Bool.noConfusion hk
  | ret a =>
    cases en with
    | returned v' => exact ⟨⟨v', keepV_ok hk he, rfl⟩, E.tape, E.os, E.output, E.size, fun i hi => E.frame i hi fun b sz h => by cases h⟩
    | panicked c => exact he.elim
    | outgrown => exact he.elim

noncomputable def callOrc (g : FuncId) (args0 : List AVal) (p : AVal) (orc : Orc) : Orc := fun f args => Bool.rec (orc f args) (Bool.rec (orc f args) (some [p]) (beqL 9 args0 args)) (Nat.beq f g)

theorem callOrc_ok {P : Program} {orc : Orc} {g : FuncId} {n : Nat} {args0 : List AVal} {p : AVal} (hm : P.follows .mixedOrders = true) (ho : OrcOK P orc) (hb : noBlkL args0 = true) (h : runV P orc g n args0 p = true) : OrcOK P (callOrc g args0 p orc) := by
  intro f args l hl σ w args' hg hd
  unfold callOrc at hl
  cases hf : Nat.beq f g with
  | false => rw [hf] at hl; exact ho f args l hl σ w args' hg hd
  | true =>
    rw [hf] at hl
    cases he : beqL 9 args0 args with
    | false => rw [he] at hl; exact ho f args l hl σ w args' hg hd
    | true =>
      rw [he] at hl
      cases hl
      have e1 := Nat.eq_of_beq_eq_true hf
      have e2 := beqL_ok (beqA_ok 9) _ _ he
      subst e1
      subst e2
      have hda : DenL (fun _ => none) args0 args' := DenL.noBlk (fun a ha => allL_ok hb a ha) hd
      refine (fCalls_ok hm ho n).1 f args0 (all5 none) 0 _ h (fun _ => none) w args' _ (Rel.nothing hg) hda fun e H' nx' σ' w' en hk R E he => ?_
      unfold isV at hk
      cases e with
      | pan l => exact Bool.noConfusion hk
      | ret a =>
        cases en with
        | returned v' => exact ⟨⟨p, v', List.mem_singleton.2 rfl, keepV_ok hk he, rfl⟩, E.tape, E.os, E.output, E.size, fun i hi => E.frame i hi fun b sz h => by cases h⟩
        | panicked c => exact he.elim
        | outgrown => exact he.elim

end Go.Ev
