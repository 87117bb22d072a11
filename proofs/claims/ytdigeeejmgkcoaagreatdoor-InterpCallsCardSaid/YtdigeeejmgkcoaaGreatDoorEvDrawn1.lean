/-
  Own work. Regions whose order is open. Part 1: an operation hangs on its operands alone; what class 0 leaves as it was; equal values.
-/
import Derived.Test.YtdigeeejmgkcoaaGreatDoorEvSound1
namespace Go.Ev
variable [GTab]
set_option linter.unusedSectionVars false

theorem aFill_congr {place : Nat → Option (Nat × Nat)} {ρ ρ2 : Operand → AVal} : ∀ (l : List (Nat × Operand)) (cells : List AVal), (∀ x, x ∈ l.map (·.2) → ρ x = ρ2 x) → aFill place ρ cells l = aFill place ρ2 cells l
  | [], _, _ => rfl
  | (i, x) :: rest, cells, h => by
    have h1 : ρ x = ρ2 x := h x (by simp)
    have h2 := fun c => aFill_congr (place := place) rest c (fun y hy => h y (by simp at hy ⊢; exact .inr hy))
    simp only [aFill, h1, h2]

theorem map_congr {ρ ρ2 : Operand → AVal} {l : List Operand} (h : ∀ x, x ∈ l → ρ x = ρ2 x) : l.map ρ = l.map ρ2 := List.map_congr_left h

theorem bnd_congr {ρ ρ2 : Operand → AVal} {d : Nat} {x : Option Operand} (h : ∀ y, x = some y → ρ y = ρ2 y) : bnd d x ρ = bnd d x ρ2 := by
  cases x with
  | none => rfl
  | some y => unfold bnd; simp only [h y rfl]

theorem made_congr {P : Program} {op : Op} {ρ ρ2 : Operand → AVal} (h : ∀ x ∈ op.operands, ρ x = ρ2 x) : made P op ρ = made P op ρ2 := by
  unfold made
  cases op <;> simp only [Op.operands] at h <;> simp only []
  case box t x => unfold madeBox; rw [h x (by simp)]
  case buildSlice t n ps =>
    unfold madeSliceLit
    have := fun pl c => aFill_congr (place := pl) (ρ := ρ) (ρ2 := ρ2) ps.toList c (fun x hx => h x (by simpa using hx))
    simp only [this]
  case makeSlice t l c => unfold madeMake; rw [h l (by simp), h c (by simp)]

theorem opCall_congr {P : Program} {c : Call} {ρ ρ2 : Operand → AVal} {H : Heap} {nx : Nat} (h : ∀ x ∈ c.operands, ρ x = ρ2 x) : opCall P c ρ H nx = opCall P c ρ2 H nx := by
  have hargs : ∀ x, x ∈ c.args.toList → ρ x = ρ2 x := fun x hx => h x (by simp [Call.operands]; simp at hx; simp [hx])
  unfold opCall
  cases hc : c.callee with
  | value f =>
    simp only [opCallV]
    rw [h f (by simp [Call.operands, hc]), map_congr hargs]
  | invoke r m =>
    simp only [opInvoke]
    rw [h r (by simp [Call.operands, hc]), map_congr hargs]
  | builtin b =>
    have hb : opBuiltin0 P b c.argTypes c.args ρ H nx = opBuiltin0 P b c.argTypes c.args ρ2 H nx := by
      unfold opBuiltin0
      split
      · rename_i hA; rw [hargs _ (by rw [hA]; simp)]
      · rename_i x l hA; rw [hargs x (by rw [hA]; simp), map_congr (l := l) fun y hy => hargs y (by rw [hA]; simp [hy])]
      · rename_i x l hA; rw [hargs x (by rw [hA]; simp), map_congr (l := l) fun y hy => hargs y (by rw [hA]; simp [hy])]
      · rfl
      · rfl
    cases b <;> simp only [] <;> first | exact hb | skip
    case copy =>
      unfold opCopy
      cases hT : c.argTypes.toList with
      | nil => rfl
      | cons dT tl =>
        cases hA : c.args.toList with
        | nil => rfl
        | cons d al =>
          cases al with
          | nil => rfl
          | cons s al =>
            cases al with
            | cons _ _ => rfl
            | nil =>
              rw [hA] at hargs
              simp only [hargs d (by simp), hargs s (by simp)]
    cases hT : c.argTypes.toList with
    | nil => rfl
    | cons sT tl =>
      cases tl with
      | nil => rfl
      | cons xT tl =>
        cases tl with
        | cons _ _ => rfl
        | nil =>
          cases hA : c.args.toList with
          | nil => rfl
          | cons s al =>
            cases al with
            | nil => rfl
            | cons x al =>
              cases al with
              | cons _ _ => rfl
              | nil =>
                rw [hA] at hargs
                simp only [hargs s (by simp), hargs x (by simp)]

theorem aop_congr {P : Program} {o : Oper} {ρ ρ2 : Operand → AVal} {H : Heap} {nx : Nat} (h : ∀ x ∈ o.op.operands, ρ x = ρ2 x) : aop P o ρ H nx = aop P o ρ2 H nx := by
  have hm : opMadeOf P o.op ρ H nx = opMadeOf P o.op ρ2 H nx := by unfold opMadeOf; rw [made_congr h]
  unfold aop
  cases hop : o.op <;> rw [hop] at h hm <;> simp only [Op.operands] at h <;> simp only []
  case move x => unfold opMove; rw [h x (by simp)]
  case assign x => unfold opMove; rw [h x (by simp)]
  case pick c a b => unfold opPick; rw [h c (by simp), h a (by simp), h b (by simp)]
  case load t a => unfold opLoad; rw [h a (by simp)]
  case store t a x => unfold opStore; rw [h a (by simp), h x (by simp)]
  case nilCheck x => unfold opNilCheck; rw [h x (by simp)]
  case binOp op t x y _ => unfold opBin; rw [h x (by simp), h y (by simp)]
  case unOp op t x => unfold opUn; rw [h x (by simp)]
  case convert s d x => unfold opConv; rw [h x (by simp)]
  case makeInterface t x => unfold opMakeInterface; rw [h x (by simp)]
  case makeFunc fn a b => unfold opMakeFunc; rw [map_congr (l := a.toList) (fun x hx => h x (by simp at hx; simp [hx])), map_congr (l := b.toList) (fun x hx => h x (by simp at hx; simp [hx]))]
  case slice t x lo hi mx =>
    unfold opSlice
    have h1 := fun d => bnd_congr (d := d) (x := lo) (ρ := ρ) (ρ2 := ρ2) (fun y e => h y (by subst e; simp))
    have h2 := fun d => bnd_congr (d := d) (x := hi) (ρ := ρ) (ρ2 := ρ2) (fun y e => h y (by subst e; simp))
    simp only [h x (by simp), h1, h2]
  case fieldAddr s x f => unfold opFieldAddr; rw [h x (by simp)]
  case field s x f => unfold opField; rw [h x (by simp)]
  case indexAddr t x i => unfold opIndexAddr; rw [h x (by simp), h i (by simp)]
  case index t x i => unfold opIndex; rw [h x (by simp), h i (by simp)]
  case typeAssert x _ a ok => unfold opAssert; rw [h x (by simp)]
  case extract t i => unfold opExtract; rw [h t (by simp)]
  case build t ps =>
    unfold opBuild aBuild
    have := fun pl c => aFill_congr (place := pl) (ρ := ρ) (ρ2 := ρ2) ps.toList c (fun x hx => h x (by simpa using hx))
    simp only [this]
  case alloc t => exact hm
  case box t x => exact hm
  case buildSlice t n ps => exact hm
  case makeSlice t l c => exact hm
  case call c => exact opCall_congr h
  case defer c =>
    unfold opDeferC
    have hargs : ∀ x, x ∈ c.args.toList → ρ x = ρ2 x := fun x hx => h x (by simp [Call.operands]; simp at hx; simp [hx])
    cases hc : c.callee with
    | value f => simp only [opDefer]; rw [h f (by simp [Call.operands, hc]), map_congr hargs]
    | invoke r m => rfl
    | builtin b => rfl
  case panic x => unfold opPanic; rw [h x (by simp)]
  case lookup t x i ok => unfold opLookup; rw [h x (by simp), h i (by simp)]
  case makeMap t r => rfl
  case mapUpdate t m k x => unfold opMapUpdate; rw [h m (by simp), h k (by simp), h x (by simp)]
  case insert t m k x => unfold opMapUpdate; rw [h m (by simp), h k (by simp), h x (by simp)]
  all_goals rfl

/-- Class 0: it leaves the state as it is. -/
theorem cls0_heap {P : Program} {o : Oper} {ρ : Operand → AVal} {H H' : Heap} {nx nx' : Nat} {v : AVal} (hc : cls o.op = 0) (h : aop P o ρ H nx = some (.val v H' nx')) : H' = H ∧ nx' = nx := by
  unfold aop at h
  cases hop : o.op <;> rw [hop] at h hc <;> simp only [] at h <;> first | (cases hc; done) | skip
  case move => unfold opMove at h; cases h; exact ⟨rfl, rfl⟩
  case assign => unfold opMove at h; cases h; exact ⟨rfl, rfl⟩
  case call c =>
    simp only [cls] at hc
    unfold opCall at h
    cases hce : c.callee with
    | value f => rw [hce] at hc; cases hc
    | invoke r m => rw [hce] at hc; cases hc
    | builtin b =>
      rw [hce] at hc h
      cases b <;> simp only [] at hc h <;> first | (cases hc; done) | skip
      all_goals
        unfold opBuiltin0 at h
        split at h <;> first | (cases h; done) | skip
        all_goals (repeat' (split at h)) <;> first | (cases h; done) | (cases h; exact ⟨rfl, rfl⟩) | (rw [forceI_eq] at h; cases h; exact ⟨rfl, rfl⟩)
  all_goals first
    | (have h' : opFail ρ H nx = some (.val v H' nx') := h; cases h'; done)
    | (unfold opPick at h) | (unfold opLoad at h) | (unfold opNilCheck at h) | (unfold opBin at h) | (unfold opUn at h) | (unfold opConv at h) | (unfold opMakeInterface at h) | (unfold opMakeFunc at h) | (unfold opSlice at h)
    | (unfold opFieldAddr at h) | (unfold opField at h) | (unfold opIndexAddr at h) | (unfold opIndex at h) | (unfold opAssert at h) | (unfold opExtract at h) | (unfold opBuild at h) | (unfold opLookup at h)
  all_goals (repeat' (split at h)) <;> first | (cases h; done) | (cases h; exact ⟨rfl, rfl⟩) | (rw [forceN_eq] at h; cases h; exact ⟨rfl, rfl⟩) | (rw [forceI_eq] at h; cases h; exact ⟨rfl, rfl⟩) | (rw [forceN_eq, forceN_eq] at h; cases h; exact ⟨rfl, rfl⟩) | skip

/-! ### Equal values -/
noncomputable def beqL (n : Nat) (l m : List AVal) : Bool :=
  List.rec (motive := fun _ => List AVal → Bool) (fun m => List.rec (motive := fun _ => Bool) true (fun _ _ _ => false) m)
      (fun a _ ih m => List.rec (motive := fun _ => Bool) false (fun b t _ => Bool.rec false (ih t) (beqA n a b)) m) l m

theorem beqL_ok {n : Nat} (hn : ∀ a b, beqA n a b = true → a = b) : ∀ l m, beqL n l m = true → l = m
  | [], [], _ => rfl
  | [], _ :: _, h => by cases h
  | _ :: _, [], h => by cases h
  | a :: l, b :: m, h => by
    have h' : (Bool.rec false (beqL n l m) (beqA n a b) : Bool) = true := h
    cases e : beqA n a b <;> rw [e] at h'
    · cases h'
    · rw [hn a b e, beqL_ok hn l m h']

theorem beqB_ok {x y : Bool} (h : (Bool.rec (bnot y) y x : Bool) = true) : x = y := by
  cases x <;> cases y <;> first | rfl | cases h

theorem beqA_ok : ∀ n a b, beqA n a b = true → a = b
  | 0, _, _, h => by cases h
  | n + 1, a, b, h => by
    have ih := beqA_ok n
    have hL : ∀ l m, beqL n l m = true → l = m := beqL_ok ih
    unfold beqA at h
    simp only [] at h
    split at h <;> first | (cases h; done) | rfl | skip
    · rw [beqB_ok h]
    · split at h <;> first | (cases h; done) | skip
      rename_i hk
      rw [of_decide_eq_true hk, eq_of_beq ((ieq_eq _ _).symm.trans h)]
    · split at h <;> first | (cases h; done) | skip
      rename_i hk
      rw [Nat.eq_of_beq_eq_true hk, Nat.eq_of_beq_eq_true h]
    · split at h <;> first | (cases h; done) | skip
      rename_i hk
      rw [Nat.eq_of_beq_eq_true hk, Nat.eq_of_beq_eq_true h]
    · split at h <;> first | (cases h; done) | skip
      rename_i h1 h2 h3 h4 h5
      rw [Nat.eq_of_beq_eq_true h1, Nat.eq_of_beq_eq_true h2, Nat.eq_of_beq_eq_true h3, Nat.eq_of_beq_eq_true h4, beqB_ok h5]
    · rw [Nat.eq_of_beq_eq_true h]
    · split at h <;> first | (cases h; done) | skip
      rename_i h1 h2
      rw [Nat.eq_of_beq_eq_true h1, hL _ _ h2, hL _ _ h]
    · split at h <;> first | (cases h; done) | skip
      rename_i h1
      rw [Nat.eq_of_beq_eq_true h1, ih _ _ h]
    · rw [hL _ _ h]
    · rw [hL _ _ h]
    · split at h <;> first | (cases h; done) | skip
      rename_i hk hx
      rw [of_decide_eq_true hk, Nat.eq_of_beq_eq_true hx, Nat.eq_of_beq_eq_true h]
    · split at h <;> first | (cases h; done) | skip
      rename_i hk
      rw [Nat.eq_of_beq_eq_true hk, Nat.eq_of_beq_eq_true h]
    · rw [Nat.eq_of_beq_eq_true h]

end Go.Ev
