/-
  Own work. A table of symbols out of lists.
-/
import Derived.Test.YtdigeeejmgkcoaaGreatDoorEvSym
import Derived.Test.YtdigeeejmgkcoaaGreatDoorEvImp
namespace Go.Ev

theorem Same64.self (a : Int) : Same64 a a := ⟨0, by omega⟩
theorem wrapI (n : Int) : IntKind.i64.wrap n = if n % 18446744073709551616 ≥ 9223372036854775808 then n % 18446744073709551616 - 18446744073709551616 else n % 18446744073709551616 := by
  simp [IntKind.wrap, IntKind.bits, IntKind.signed]

noncomputable def look2 {α : Type} (l : List (Nat × Nat × α)) (i j : Nat) : Option α :=
  List.rec (motive := fun _ => Option α) none (fun t _ ih => Bool.rec ih (Bool.rec ih (some t.2.2) (Nat.beq t.2.1 j)) (Nat.beq t.1 i)) l

theorem look2_ok {α : Type} : ∀ {l : List (Nat × Nat × α)} {i j : Nat} {r : α}, look2 l i j = some r → (i, j, r) ∈ l
  | [], i, j, r, h => by cases h
  | (a, b, c) :: l, i, j, r, h => by
    have h' : (Bool.rec (look2 l i j) (Bool.rec (look2 l i j) (some c) (Nat.beq b j)) (Nat.beq a i) : Option α) = some r := h
    cases h1 : Nat.beq a i with
    | false => rw [h1] at h'; exact List.mem_cons_of_mem _ (look2_ok h')
    | true =>
      rw [h1] at h'
      cases h2 : Nat.beq b j with
      | false => rw [h2] at h'; exact List.mem_cons_of_mem _ (look2_ok h')
      | true =>
        rw [h2] at h'
        cases h'
        have e1 := Nat.eq_of_beq_eq_true h1
        have e2 := Nat.eq_of_beq_eq_true h2
        subst e1 e2
        exact List.mem_cons_self ..

theorem ieq_eq0 (a b : Int) : ieq a b = (a == b) := by
  rw [Bool.eq_iff_iff, beq_iff_eq]
  cases a with
  | ofNat x => cases b with
    | ofNat y => show Nat.beq x y = true ↔ _; rw [Nat.beq_eq]; simp; omega
    | negSucc y => show false = true ↔ _; simp
  | negSucc x => cases b with
    | ofNat y => show false = true ↔ _; simp
    | negSucc y => show Nat.beq x y = true ↔ _; rw [Nat.beq_eq]; simp

noncomputable def lookI {α : Type} (l : List (Int × α)) (n : Int) : Option α :=
  List.rec (motive := fun _ => Option α) none (fun t _ ih => Bool.rec ih (some t.2) (ieq t.1 n)) l

theorem lookI_ok {α : Type} : ∀ {l : List (Int × α)} {n : Int} {r : α}, lookI l n = some r → (n, r) ∈ l
  | [], n, r, h => by cases h
  | (a, c) :: l, n, r, h => by
    have h' : (Bool.rec (lookI l n) (some c) (ieq a n) : Option α) = some r := h
    cases h1 : ieq a n with
    | false => rw [h1] at h'; exact List.mem_cons_of_mem _ (lookI_ok h')
    | true =>
      rw [h1] at h'
      cases h'
      have e1 : a = n := by rw [ieq_eq0] at h1; simpa using h1
      subst e1
      exact List.mem_cons_self ..

noncomputable def lookN {α : Type} (l : List (Nat × α)) (n : Nat) : Option α :=
  List.rec (motive := fun _ => Option α) none (fun t _ ih => Bool.rec ih (some t.2) (Nat.beq t.1 n)) l

theorem lookN_ok {α : Type} : ∀ {l : List (Nat × α)} {n : Nat} {r : α}, lookN l n = some r → (n, r) ∈ l
  | [], n, r, h => by cases h
  | (a, c) :: l, n, r, h => by
    have h' : (Bool.rec (lookN l n) (some c) (Nat.beq a n) : Option α) = some r := h
    cases h1 : Nat.beq a n with
    | false => rw [h1] at h'; exact List.mem_cons_of_mem _ (lookN_ok h')
    | true =>
      rw [h1] at h'
      cases h'
      have e1 := Nat.eq_of_beq_eq_true h1
      subst e1
      exact List.mem_cons_self ..

/-- What is written down of the symbols. -/
structure Syms where
  vals : List Int
  con : List (Int × Nat) := []
  lit : List (Nat × Int) := []
  add : List (Nat × Nat × Nat) := []
  sub : List (Nat × Nat × Nat) := []
  mul : List (Nat × Nat × Nat) := []
  quo : List (Nat × Nat × Nat) := []
  rem : List (Nat × Nat × Nat) := []
  eq : List (Nat × Nat × Bool) := []
  lt : List (Nat × Nat × Bool) := []

/-- It is so. -/
structure Syms.OK (s : Syms) : Prop where
  con : ∀ t ∈ s.con, Same64 t.1 (s.vals.getD t.2 0)
  lit : ∀ t ∈ s.lit, Same64 t.2 (s.vals.getD t.1 0)
  add : ∀ t ∈ s.add, Same64 (s.vals.getD t.1 0 + s.vals.getD t.2.1 0) (s.vals.getD t.2.2 0)
  sub : ∀ t ∈ s.sub, Same64 (s.vals.getD t.1 0 - s.vals.getD t.2.1 0) (s.vals.getD t.2.2 0)
  mul : ∀ t ∈ s.mul, Same64 (s.vals.getD t.1 0 * s.vals.getD t.2.1 0) (s.vals.getD t.2.2 0)
  quo : ∀ t ∈ s.quo, IntKind.i64.wrap (s.vals.getD t.2.1 0) ≠ 0 ∧ Same64 ((IntKind.i64.wrap (s.vals.getD t.1 0)).tdiv (IntKind.i64.wrap (s.vals.getD t.2.1 0))) (s.vals.getD t.2.2 0)
  rem : ∀ t ∈ s.rem, IntKind.i64.wrap (s.vals.getD t.2.1 0) ≠ 0 ∧ Same64 ((IntKind.i64.wrap (s.vals.getD t.1 0)).tmod (IntKind.i64.wrap (s.vals.getD t.2.1 0))) (s.vals.getD t.2.2 0)
  eq : ∀ t ∈ s.eq, (t.2.2 = true ↔ Same64 (s.vals.getD t.1 0) (s.vals.getD t.2.1 0))
  lt : ∀ t ∈ s.lt, t.2.2 = decide (IntKind.i64.wrap (s.vals.getD t.1 0) < IntKind.i64.wrap (s.vals.getD t.2.1 0))

/-- The table. -/
noncomputable abbrev Syms.tab (s : Syms) (h : s.OK) (g : Nat) (o : Obj) : GTab where
  tab := fun _ => none
  val := fun i => s.vals.getD i 0
  blk := fun b => Bool.rec none (some o) (Nat.beq b g)
  txt := fun i => ⟨(Lib.itoa (IntKind.i64.wrap (s.vals.getD i 0))).toArray⟩
  con := lookI s.con
  lit := lookN s.lit
  add := look2 s.add
  sub := look2 s.sub
  mul := look2 s.mul
  quo := look2 s.quo
  rem := look2 s.rem
  eq := look2 s.eq
  lt := look2 s.lt
  conOK := fun _ _ e => h.con _ (lookI_ok e)
  litOK := fun _ _ e => h.lit _ (lookN_ok e)
  addOK := fun _ _ _ e => h.add _ (look2_ok e)
  subOK := fun _ _ _ e => h.sub _ (look2_ok e)
  mulOK := fun _ _ _ e => h.mul _ (look2_ok e)
  quoOK := fun _ _ _ e => h.quo _ (look2_ok e)
  remOK := fun _ _ _ e => h.rem _ (look2_ok e)
  eqOK := fun _ _ _ e => h.eq _ (look2_ok e)
  ltOK := fun _ _ _ e => h.lt _ (look2_ok e)

/-- The table's facts on a world: the one block that is known. -/
theorem Syms.glob {s : Syms} {h : s.OK} {g : Nat} {o : Obj} {w : World} (hw : w.heap[g]? = some o) : @Glob (s.tab h g o) (fun _ => none) w := by
  refine @Glob.mk (s.tab h g o) _ _ (fun g l hg => by cases hg) fun b o' hb => ?_
  have hb' : (Bool.rec none (some o) (Nat.beq b g) : Option Obj) = some o' := hb
  cases he : Nat.beq b g with
  | false => rw [he] at hb'; cases hb'
  | true =>
    rw [he] at hb'
    cases hb'
    have := Nat.eq_of_beq_eq_true he
    subst this
    refine ⟨?_, (fun _ _ e => by cases e), hw⟩
    rcases Nat.lt_or_ge b w.heap.size with hlt | hge
    · exact hlt
    · rw [Array.getElem?_eq_none hge] at hw; cases hw

theorem Syms.blk {s : Syms} {h : s.OK} {g : Nat} {o : Obj} : (s.tab h g o).blk g = some o := by
  show (Bool.rec none (some o) (Nat.beq g g) : Option Obj) = some o
  rw [Nat.beq_refl]

end Go.Ev

namespace Go.Ev
variable [GTab]
set_option linter.unusedSectionVars false

/-- A call from nothing, of whose result this is kept. -/
noncomputable def runVW (P : Program) (W : Wr) (f : FuncId) (n : Nat) (args : List AVal) (p : AVal) : Bool := (fCallsW P W n).1 f args (all5 none) 0 fun e _ _ => isV p e

noncomputable def valW (g : FuncId) (args0 : List AVal) (p : AVal) (W : Wr) : Wr := fun c f args H nx K =>
  Bool.rec (W c f args H nx K) (Bool.rec (W c f args H nx K) (K (.ret p) H nx) (beqL 9 args0 args)) (Nat.beq f g)

theorem valW_ok {P : Program} {W : Wr} {g : FuncId} {n : Nat} {args0 : List AVal} {p : AVal} (hm : P.follows .mixedOrders = true) (hW : WrOK P W) (hb : noBlkL args0 = true) (h : runVW P W g n args0 p = true) : WrOK P (valW g args0 p W) := by
  intro c hc f args H nx K hk
  unfold valW at hk
  cases hf : Nat.beq f g with
  | false => rw [hf] at hk; exact hW c hc f args H nx K hk
  | true =>
    rw [hf] at hk
    cases he : beqL 9 args0 args with
    | false => rw [he] at hk; exact hW c hc f args H nx K hk
    | true =>
      rw [he] at hk
      have hk' : K (.ret p) H nx = true := hk
      have e1 := Nat.eq_of_beq_eq_true hf
      have e2 := beqL_ok (beqA_ok 9) _ _ he
      subst e1
      subst e2
      intro σ w args' R hr hda hR
      have hda0 : DenL (fun _ => none) args0 args' := DenL.noBlk (fun a ha => allL_ok hb a ha) hda
      refine (fCallsW_ok hm hW n).1 f args0 (all5 none) 0 _ h (fun _ => none) w args' _ (Rel.nothing hr.glob.none) hda0 fun e H1 nx1 σ1 w1 en hi R1 E1 X1 => ?_
      unfold isV at hi
      cases e with
      | pan l => exact Bool.noConfusion hi
      | ret a =>
        have kept : Kept w w1 := ⟨E1.os, E1.output, E1.size, fun i hi => E1.frame i hi fun b sz h => by cases h⟩
        cases en with
        | returned v' =>
          have X1' : Den σ1 a v' := X1
          exact hR (.ret p) H nx σ w1 _ hk' (hr.kept kept) (Ext.kept σ H nx kept E1.tape) (keepV_ok hi X1')
        | panicked c => exact X1.elim
        | outgrown => exact X1.elim

end Go.Ev
