/-
  Own work. The evaluator once more. Part 2: operations that only read.
-/
import Derived.Test.YtdigeeejmgkcoaaGreatDoorEvFast1
namespace Go.Ev
variable [GTab]
set_option linter.unusedSectionVars false
noncomputable section

inductive CV
  | no
  | yes (f : Env → St → (AVal → Bool) → Bool)

def VOK (P : Program) (o : Oper) (f : Env → St → (AVal → Bool) → Bool) : Prop :=
  ∀ env st k, f env st k = true → ∃ v, aop P o (aev env) st.H st.nx = some (.val v st.H st.nx) ∧ k v = true

/-- What an operation of the plain kind came to. -/
def oK (r : Option ARes) : (AVal → Bool) → Bool :=
  Option.rec (motive := fun _ => (AVal → Bool) → Bool) (fun _ => false) (fun r => ARes.rec (motive := fun _ => (AVal → Bool) → Bool) (fun v _ _ k => k v) (fun _ _ _ => false) (fun _ _ _ => false) (fun _ _ => false) (fun _ => false) r) r

theorem oK_ok {r : Option ARes} {k : AVal → Bool} (h : oK r k = true) : ∃ v H nx, r = some (.val v H nx) ∧ k v = true := by
  cases r with
  | none => exact Bool.noConfusion h
  | some r => cases r <;> first | exact Bool.noConfusion h | exact ⟨_, _, _, rfl, h⟩

/-- As the other evaluator does it. -/
def gen (g : (Operand → AVal) → Heap → Nat → Option ARes) : CV := .yes fun env st k => oK (g (aev env) st.H st.nx) k

theorem gen_ok {P : Program} {o : Oper} {g : (Operand → AVal) → Heap → Nat → Option ARes} (hg : aop P o = g) (hc : cls o.op = 0) : VOK P o fun env st k => oK (g (aev env) st.H st.nx) k := by
  intro env st k h
  obtain ⟨v, H, nx, e, hk⟩ := oK_ok h
  rw [← hg] at e
  obtain ⟨rfl, rfl⟩ := cls0_heap hc e
  exact ⟨v, e, hk⟩

/-! ### Cells -/
def hCell (o : Option AObj) : Nat → (AVal → Bool) → Bool :=
  Option.rec (motive := fun _ => Nat → (AVal → Bool) → Bool) (fun _ _ => false) (fun ob => AObj.rec (motive := fun _ => Nat → (AVal → Bool) → Bool) (fun n ct _ _ off k => Bool.rec false (k (CT.getF ct off)) (Nat.ble (Nat.succ off) n)) (fun _ _ _ _ => false) ob) o

theorem hCell_ok {o : Option AObj} {off : Nat} {k : AVal → Bool} (h : hCell o off k = true) : ∃ n ct olds s, o = some (.cells n ct olds s) ∧ Nat.ble (Nat.succ off) n = true ∧ k (CT.get off ct) = true := by
  cases o with
  | none => exact Bool.noConfusion h
  | some ob =>
    cases ob with
    | map es c => exact Bool.noConfusion h
    | cells n ct olds s =>
      have h' : (Bool.rec false (k (CT.getF ct off)) (Nat.ble (Nat.succ off) n) : Bool) = true := h
      rw [CT.getF_eq] at h'
      refine ⟨n, ct, olds, s, rfl, ?_⟩
      cases hb : Nat.ble (Nat.succ off) n with
      | false => rw [hb] at h'; exact Bool.noConfusion h'
      | true => rw [hb] at h'; exact ⟨rfl, h'⟩

def hSlab (o : Option AObj) : Nat → Nat → (AVal → Bool) → Bool :=
  Option.rec (motive := fun _ => Nat → Nat → (AVal → Bool) → Bool) (fun _ _ _ => false) (fun ob => AObj.rec (motive := fun _ => Nat → Nat → (AVal → Bool) → Bool) (fun n ct _ _ off sz k => Bool.rec false (k (.agg (CT.slabF ct sz off))) (Nat.ble (Nat.add off sz) n)) (fun _ _ _ _ _ => false) ob) o

theorem hSlab_ok {o : Option AObj} {off sz : Nat} {k : AVal → Bool} (h : hSlab o off sz k = true) : ∃ n ct olds s, o = some (.cells n ct olds s) ∧ Nat.ble (Nat.add off sz) n = true ∧ k (.agg (CT.slab ct sz off)) = true := by
  cases o with
  | none => exact Bool.noConfusion h
  | some ob =>
    cases ob with
    | map es c => exact Bool.noConfusion h
    | cells n ct olds s =>
      have h' : (Bool.rec false (k (.agg (CT.slabF ct sz off))) (Nat.ble (Nat.add off sz) n) : Bool) = true := h
      rw [CT.slabF_eq] at h'
      refine ⟨n, ct, olds, s, rfl, ?_⟩
      cases hb : Nat.ble (Nat.add off sz) n with
      | false => rw [hb] at h'; exact Bool.noConfusion h'
      | true => rw [hb] at h'; exact ⟨rfl, h'⟩

/-- A cell of a package-level variable. -/
def gCell (o : Option (List AVal)) : Nat → (AVal → Bool) → Bool := Option.rec (motive := fun _ => Nat → (AVal → Bool) → Bool) (fun _ _ => false) (fun l off k => List.rec (motive := fun _ => Nat → Bool) (fun _ => false) (fun v _ ih i => Nat.rec (motive := fun _ => Bool) (k v) (fun j _ => ih j) i) l off) o

theorem gNth : ∀ {l : List AVal} {i : Nat} {k : AVal → Bool}, (List.rec (motive := fun _ => Nat → Bool) (fun _ => false) (fun v _ ih i => Nat.rec (motive := fun _ => Bool) (k v) (fun j _ => ih j) i) l i : Bool) = true → ∃ v, l[i]? = some v ∧ k v = true
  | [], i, k, h => Bool.noConfusion h
  | v :: l, 0, k, h => ⟨v, rfl, h⟩
  | v :: l, i + 1, k, h => by
    obtain ⟨u, e, hk⟩ := gNth (l := l) (i := i) (k := k) h
    exact ⟨u, by simpa using e, hk⟩

theorem gCell_ok {o : Option (List AVal)} {off : Nat} {k : AVal → Bool} (h : gCell o off k = true) : ∃ l v, o = some l ∧ l[off]? = some v ∧ k v = true := by
  cases o with
  | none => exact Bool.noConfusion h
  | some l =>
    obtain ⟨v, e, hk⟩ := gNth (l := l) (i := off) (k := k) h
    exact ⟨l, v, rfl, e, hk⟩

theorem brec_ok {a b : Bool} (h : (Bool.rec false a b : Bool) = true) : b = true ∧ a = true := by
  cases b with
  | false => exact Bool.noConfusion h
  | true => exact ⟨rfl, h⟩

/-! ### Numbers -/
def ikN (k : IntKind) : Nat := IntKind.rec 0 1 2 3 4 5 6 7 k
theorem ikN_inj {k j : IntKind} (h : Nat.beq (ikN k) (ikN j) = true) : k = j := by
  cases k <;> cases j <;> first | rfl | exact Bool.noConfusion h

def iadd (a b : Int) : Int :=
  Int.rec (motive := fun _ => Int → Int) (fun x b => Int.rec (motive := fun _ => Nat → Int) (fun y x => .ofNat (Nat.add x y)) (fun y x => Int.add (.ofNat x) (.negSucc y)) b x)
    (fun x b => Int.add (.negSucc x) b) a b
theorem iadd_eq (a b : Int) : iadd a b = Int.add a b := by
  cases a with
  | ofNat x => cases b <;> rfl
  | negSucc x => rfl

def isub (a b : Int) : Int :=
  Int.rec (motive := fun _ => Int → Int) (fun x b => Int.rec (motive := fun _ => Nat → Int) (fun y x => Bool.rec (Int.sub (.ofNat x) (.ofNat y)) (.ofNat (Nat.sub x y)) (Nat.ble y x)) (fun y x => .ofNat (Nat.succ (Nat.add x y))) b x)
    (fun x b => Int.sub (.negSucc x) b) a b
theorem isub_eq (a b : Int) : isub a b = Int.sub a b := by
  cases a with
  | ofNat x =>
    cases b with
    | ofNat y =>
      show (Bool.rec (Int.sub (.ofNat x) (.ofNat y)) (.ofNat (Nat.sub x y)) (Nat.ble y x) : Int) = _
      cases h : Nat.ble y x with
      | false => rfl
      | true =>
        have := Nat.le_of_ble_eq_true h
        show Int.ofNat (x - y) = (x : Int) - (y : Int)
        simp only [Int.ofNat_eq_natCast]; omega
    | negSucc y => show Int.ofNat (x + y + 1) = (x : Int) - Int.negSucc y; simp only [Int.ofNat_eq_natCast]; omega
  | negSucc x => rfl

/-- Two numbers of one kind; where one is not known: otherwise. -/
def two (x y : AVal) (f : IntKind → Int → Int → Bool) (s : Bool) : Bool := vIntS x (fun k a => vIntS y (fun j b => Bool.rec false (f k a b) (Nat.beq (ikN k) (ikN j))) s) s
theorem two_ok {x y : AVal} {f : IntKind → Int → Int → Bool} {s : Bool} (h : two x y f s = true) : (∃ k a b, x = .int k a ∧ y = .int k b ∧ f k a b = true) ∨ s = true := by
  rcases vIntS_ok (show vIntS x _ s = true from h) with ⟨k, a, e1, h⟩ | h
  · rcases vIntS_ok (show vIntS y _ s = true from h) with ⟨j, b, e2, h⟩ | h
    · obtain ⟨h1, h2⟩ := brec_ok h
      have := ikN_inj h1
      subst this
      exact .inl ⟨k, a, b, e1, e2, h2⟩
    · exact .inr h
  · exact .inr h

def binI (P : Program) (op : BinOp) (t : TypeId) (xo yo : Operand) (x y : Acc) : CV :=
  match x, y with
  | .mk x, .mk y => match op with
    | .add => .yes fun env st f => two (x env) (y env) (fun k a b => forceI (awrap k (iadd a b)) fun r => f (.int k r)) (oK (opBin P .add t xo yo (aev env) st.H st.nx) f)
    | .sub => .yes fun env st f => two (x env) (y env) (fun k a b => forceI (awrap k (isub a b)) fun r => f (.int k r)) (oK (opBin P .sub t xo yo (aev env) st.H st.nx) f)
    | .eql => .yes fun env st f => two (x env) (y env) (fun _ a b => f (.bool (ieq a b))) (oK (opBin P .eql t xo yo (aev env) st.H st.nx) f)
    | .neq => .yes fun env st f => two (x env) (y env) (fun _ a b => f (.bool (bnot (ieq a b)))) (oK (opBin P .neq t xo yo (aev env) st.H st.nx) f)
    | .lss => .yes fun env st f => two (x env) (y env) (fun _ a b => f (.bool (ilt a b))) (oK (opBin P .lss t xo yo (aev env) st.H st.nx) f)
    | .leq => .yes fun env st f => two (x env) (y env) (fun _ a b => f (.bool (bnot (ilt b a)))) (oK (opBin P .leq t xo yo (aev env) st.H st.nx) f)
    | .gtr => .yes fun env st f => two (x env) (y env) (fun _ a b => f (.bool (ilt b a))) (oK (opBin P .gtr t xo yo (aev env) st.H st.nx) f)
    | .geq => .yes fun env st f => two (x env) (y env) (fun _ a b => f (.bool (bnot (ilt a b)))) (oK (opBin P .geq t xo yo (aev env) st.H st.nx) f)
    | _ => .no

theorem slow_ok {P : Program} {o : Oper} {op : BinOp} {t u : TypeId} {x y : Operand} (ho : o.op = .binOp op t x y u) {env : Env} {st : St} {k : AVal → Bool} (h : oK (opBin P op t x y (aev env) st.H st.nx) k = true) :
    ∃ v, aop P o (aev env) st.H st.nx = some (.val v st.H st.nx) ∧ k v = true :=
  gen_ok (P := P) (o := o) (g := opBin P op t x y) (by funext ρ H nx; unfold aop; rw [ho]) (by rw [ho]; rfl) env st k h

theorem binI_ok {P : Program} {o : Oper} {op : BinOp} {t u : TypeId} {x y : Operand} {f : Env → St → (AVal → Bool) → Bool} (ho : o.op = .binOp op t x y u) (h : binI P op t x y (bx x) (bx y) = .yes f) : VOK P o f := by
  have key : ∀ env (st : St) k a b v, aev env x = .int k a → aev env y = .int k b → aInt op k a b = some v → op ≠ .shl → op ≠ .shr → aop P o (aev env) st.H st.nx = some (.val v st.H st.nx) := by
    intro env st k a b v hx hy hv h1 h2
    unfold aop
    rw [ho]
    show opBin P op t x y (aev env) st.H st.nx = _
    unfold opBin
    rw [hx, hy]
    cases op <;> first | exact absurd rfl h1 | exact absurd rfl h2 | (simp only [decide_true, hv])
  have hx := bx_eq x
  have hy := bx_eq y
  unfold binI at h
  cases ex : bx x with | mk fx => cases ey : bx y with | mk fy =>
    rw [ex] at h hx; rw [ey] at h hy
    have hx' : ∀ env, fx env = aev env x := hx
    have hy' : ∀ env, fy env = aev env y := hy
    cases op <;> first | (cases h; done) | skip
    all_goals
      cases h
      intro env st k hk
      rcases two_ok hk with ⟨kd, a, b, e1, e2, hf⟩ | hs
      case inr => exact slow_ok ho hs
      rw [hx'] at e1
      rw [hy'] at e2
    · rw [forceI_eq, iadd_eq] at hf
      exact ⟨_, key env st kd a b _ e1 e2 (by simp only [aInt, forceI_eq]) (by decide) (by decide), hf⟩
    · rw [forceI_eq, isub_eq] at hf
      exact ⟨_, key env st kd a b _ e1 e2 (by simp only [aInt, forceI_eq]) (by decide) (by decide), hf⟩
    all_goals exact ⟨_, key env st kd a b _ e1 e2 rfl (by decide) (by decide), hf⟩

/-- Two texts; where one is not known: otherwise. -/
def twoT (x y : AVal) (f : Nat → Nat → Nat → Nat → Bool) (s : Bool) : Bool := vStrS x (fun n a => vStrS y (fun m b => f n a m b) s) s
theorem twoT_ok {x y : AVal} {f : Nat → Nat → Nat → Nat → Bool} {s : Bool} (h : twoT x y f s = true) : (∃ n a m b, x = .str n a ∧ y = .str m b ∧ f n a m b = true) ∨ s = true := by
  rcases vStrS_ok (show vStrS x _ s = true from h) with ⟨n, a, e1, h⟩ | h
  · rcases vStrS_ok (show vStrS y _ s = true from h) with ⟨m, b, e2, h⟩ | h
    · exact .inl ⟨n, a, m, b, e1, e2, h⟩
    · exact .inr h
  · exact .inr h

def binT (P : Program) (op : BinOp) (t : TypeId) (xo yo : Operand) (x y : Acc) : CV :=
  match x, y with
  | .mk x, .mk y => match op with
    | .add => .yes fun env st f => twoT (x env) (y env) (fun n a m b => Bool.rec false (forceN (Nat.add n m) fun l => forceN (Nat.add (Nat.shiftLeft a (Nat.mul 8 m)) b) fun z => f (.str l z)) (Nat.ble (Nat.add n m) 9223372036854775807)) (oK (opBin P .add t xo yo (aev env) st.H st.nx) f)
    | .eql => .yes fun env st f => twoT (x env) (y env) (fun n a m b => f (.bool (Bool.rec false (Nat.beq a b) (Nat.beq n m)))) (oK (opBin P .eql t xo yo (aev env) st.H st.nx) f)
    | .neq => .yes fun env st f => twoT (x env) (y env) (fun n a m b => f (.bool (Bool.rec true (bnot (Nat.beq a b)) (Nat.beq n m)))) (oK (opBin P .neq t xo yo (aev env) st.H st.nx) f)
    | _ => .no

theorem binT_ok {P : Program} {o : Oper} {op : BinOp} {t u : TypeId} {x y : Operand} {f : Env → St → (AVal → Bool) → Bool} (ho : o.op = .binOp op t x y u) (h : binT P op t x y (bx x) (bx y) = .yes f) : VOK P o f := by
  have key : ∀ env (st : St) n a m b v, aev env x = .str n a → aev env y = .str m b → aText op n a m b = some v → aop P o (aev env) st.H st.nx = some (.val v st.H st.nx) := by
    intro env st n a m b v hx hy hv
    unfold aop
    rw [ho]
    show opBin P op t x y (aev env) st.H st.nx = _
    unfold opBin
    rw [hx, hy]
    simp only [hv]
  have hx := bx_eq x
  have hy := bx_eq y
  unfold binT at h
  cases ex : bx x with | mk fx => cases ey : bx y with | mk fy =>
    rw [ex] at h hx; rw [ey] at h hy
    have hx' : ∀ env, fx env = aev env x := hx
    have hy' : ∀ env, fy env = aev env y := hy
    cases op <;> first | (cases h; done) | skip
    · cases h
      intro env st k hk
      rcases twoT_ok hk with ⟨n, a, m, b, e1, e2, hk⟩ | hs
      case inr => exact slow_ok ho hs
      rw [hx'] at e1
      rw [hy'] at e2
      obtain ⟨h1, h2⟩ := brec_ok hk
      rw [forceN_eq, forceN_eq] at h2
      refine ⟨_, key env st n a m b _ e1 e2 ?_, h2⟩
      unfold aText
      simp only [h1, forceN_eq]
    all_goals
      cases h
      intro env st k hk
      rcases twoT_ok hk with ⟨n, a, m, b, e1, e2, hk⟩ | hs
      case inr => exact slow_ok ho hs
      rw [hx'] at e1
      rw [hy'] at e2
      exact ⟨_, key env st n a m b _ e1 e2 rfl, hk⟩

/-- The i-th of a list. -/
def nthK (l : List AVal) (i : Nat) : (AVal → Bool) → Bool :=
  List.rec (motive := fun _ => Nat → (AVal → Bool) → Bool) (fun _ _ => false) (fun v _ ih i k => Nat.rec (motive := fun _ => Bool) (k v) (fun j _ => ih j k) i) l i
theorem nthK_ok : ∀ {l : List AVal} {i : Nat} {k : AVal → Bool}, nthK l i k = true → ∃ v, l[i]? = some v ∧ k v = true
  | [], i, k, h => Bool.noConfusion h
  | v :: l, 0, k, h => ⟨v, rfl, h⟩
  | v :: l, i + 1, k, h => by
    have h' : nthK l i k = true := h
    obtain ⟨u, e, hk⟩ := nthK_ok h'
    exact ⟨u, by simpa using e, hk⟩

/-- A list behind its first n; the first n. -/
def dropF (n : Nat) : List AVal → List AVal := Nat.rec (motive := fun _ => List AVal → List AVal) (fun l => l) (fun _ ih l => List.rec [] (fun _ t _ => ih t) l) n
theorem dropF_eq : ∀ (n : Nat) (l : List AVal), dropF n l = l.drop n
  | 0, l => rfl
  | n + 1, [] => by show ([] : List AVal) = _; simp
  | n + 1, _ :: l => by show dropF n l = _; rw [dropF_eq n l]; simp
def takeF (n : Nat) : List AVal → List AVal := Nat.rec (motive := fun _ => List AVal → List AVal) (fun _ => []) (fun _ ih l => List.rec [] (fun v t _ => v :: ih t) l) n
theorem takeF_eq : ∀ (n : Nat) (l : List AVal), takeF n l = l.take n
  | 0, l => by show ([] : List AVal) = _; simp
  | n + 1, [] => by show ([] : List AVal) = _; simp
  | n + 1, v :: l => by show v :: takeF n l = _; rw [takeF_eq n l]; simp

def natK (i : Int) (f : Nat → Bool) : Bool := Int.rec (motive := fun _ => (Nat → Bool) → Bool) (fun n f => f n) (fun _ _ => false) i f
theorem natK_ok {i : Int} {f : Nat → Bool} (h : natK i f = true) : ∃ n, i = .ofNat n ∧ f n = true := by
  cases i with
  | ofNat n => exact ⟨n, rfl, h⟩
  | negSucc n => exact Bool.noConfusion h

def boolD : TypeDesc → Nat
  | .int _ => 1
  | .string => 2
  | _ => 0

/-! ### Aggregates -/
def lenL (l : List AVal) : Nat := List.rec (motive := fun _ => Nat) 0 (fun _ _ n => Nat.succ n) l
theorem lenL_eq : ∀ l : List AVal, lenL l = l.length
  | [] => rfl
  | _ :: l => by show Nat.succ (lenL l) = _; rw [lenL_eq l]; rfl

def appL (a b : List AVal) : List AVal := List.rec (motive := fun _ => List AVal → List AVal) (fun b => b) (fun v _ ih b => v :: ih b) a b
theorem appL_eq : ∀ a b : List AVal, appL a b = a ++ b
  | [], _ => rfl
  | v :: a, b => by show v :: appL a b = _; rw [appL_eq a b]; rfl

/-- Cells are laid into a list, from a place on. -/
def segF (off : Nat) : List AVal → List AVal → List AVal :=
  Nat.rec (motive := fun _ => List AVal → List AVal → List AVal) (fun cs l => appL cs (dropF (lenL cs) l)) (fun _ ih cs l => List.rec (motive := fun _ => List AVal) cs (fun h t _ => h :: ih cs t) l) off
theorem segF_eq : ∀ (off : Nat) (cs l : List AVal), segF off cs l = seg off cs l
  | 0, cs, l => by
    show appL cs (dropF (lenL cs) l) = _
    rw [appL_eq, dropF_eq, lenL_eq]
    simp [seg]
  | off + 1, cs, [] => by show cs = _; simp [seg]
  | off + 1, cs, h :: t => by
    show h :: segF off cs t = _
    rw [segF_eq off cs t]
    have : off + 1 + cs.length = (off + cs.length) + 1 := by omega
    simp [seg, this]

def setL (off : Nat) : AVal → List AVal → List AVal :=
  Nat.rec (motive := fun _ => AVal → List AVal → List AVal) (fun v l => List.rec (motive := fun _ => List AVal) [v] (fun _ t _ => v :: t) l) (fun _ ih v l => List.rec (motive := fun _ => List AVal) [v] (fun h t _ => h :: ih v t) l) off
theorem setL_eq : ∀ (off : Nat) (v : AVal) (l : List AVal), setL off v l = seg off [v] l
  | 0, v, [] => by show [v] = _; simp [seg]
  | 0, v, _ :: t => by show v :: t = _; simp [seg]
  | off + 1, v, [] => by show [v] = _; simp [seg]
  | off + 1, v, h :: t => by
    show h :: setL off v t = _
    rw [setL_eq off v t]
    simp [seg]

theorem seg_length {off : Nat} {cs l : List AVal} (h : off + cs.length ≤ l.length) : (seg off cs l).length = l.length := by
  unfold seg
  simp only [List.length_append, List.length_take, List.length_drop]
  omega

inductive Bf | mk (f : Env → List AVal → (List AVal → Bool) → Bool)
def Bf.fn : Bf → Env → List AVal → (List AVal → Bool) → Bool | .mk f => f

def cFill (place : Nat → Option (Nat × Nat)) (n : Nat) : List (Nat × Operand) → Bf
  | [] => .mk fun _ cells k => k cells
  | (i, x) :: rest => match place i, bx x, cFill place n rest with
    | some (off, size), .mk fx, .mk g => match Nat.ble (Nat.add off size) n, Nat.beq size 1 with
      | true, true => forceN off fun off => .mk fun env cells k => vOne (fx env) fun v => g env (setL off v cells) k
      | true, false => forceN off fun off => forceN size fun size => .mk fun env cells k => vAgg (fx env) fun cs => Bool.rec false (g env (segF off cs cells) k) (Nat.beq (lenL cs) size)
      | _, _ => .mk fun _ _ _ => false
    | _, _, _ => .mk fun _ _ _ => false

theorem cFill_ok {place : Nat → Option (Nat × Nat)} {n : Nat} : ∀ {ps : List (Nat × Operand)} {env : Env} {cells : List AVal} {k : List AVal → Bool}, cells.length = n → (cFill place n ps).fn env cells k = true → ∃ cs, aFill place (aev env) cells ps = some cs ∧ k cs = true
  | [], env, cells, k, _, h => ⟨cells, rfl, h⟩
  | (i, x) :: rest, env, cells, k, hn, h => by
    unfold cFill at h
    have hx := bx_eq x
    split at h <;> first | (exact Bool.noConfusion h) | skip
    rename_i off size fx g hp hfx hg
    rw [hfx] at hx
    have hx' : ∀ env, fx env = aev env x := hx
    unfold aFill
    split at h <;> first | (exact Bool.noConfusion h) | skip
    · rename_i hle hs
      have hs' := Nat.eq_of_beq_eq_true hs
      subst hs'
      rw [forceN_eq] at h
      obtain ⟨c, hc, h2⟩ := vOne_ok (show vOne (fx env) _ = true from h)
      rw [hx'] at hc
      have hle' : off + 1 ≤ n := Nat.le_of_ble_eq_true hle
      have hlen : (seg off [c] cells).length = n := by rw [seg_length (by simp; omega)]; exact hn
      rw [setL_eq] at h2
      obtain ⟨cs, h3, h4⟩ := cFill_ok (ps := rest) hlen (by rw [hg]; exact h2)
      refine ⟨cs, ?_, h4⟩
      have bl : Nat.beq ([c] : List AVal).length 1 = true := rfl
      rw [hn]
      simp only [hp, hc, bl, hle]
      exact h3
    · rename_i hle hs
      rw [forceN_eq, forceN_eq] at h
      obtain ⟨cs0, hc, h2⟩ := vAgg_ok (show vAgg (fx env) _ = true from h)
      rw [hx'] at hc
      obtain ⟨hl, h2⟩ := brec_ok h2
      rw [lenL_eq] at hl
      have hl' := Nat.eq_of_beq_eq_true hl
      have hle' : off + size ≤ n := Nat.le_of_ble_eq_true hle
      have hlen : (seg off cs0 cells).length = n := by rw [seg_length (by omega)]; exact hn
      rw [segF_eq] at h2
      obtain ⟨cs, h3, h4⟩ := cFill_ok (ps := rest) hlen (by rw [hg]; exact h2)
      refine ⟨cs, ?_, h4⟩
      rw [hn]
      have hac : acells (.agg cs0) = some cs0 := rfl
      simp only [hp, hc, hac, hl, hle]
      exact h3

def cBuild (P : Program) (t : TypeId) (ps : List (Nat × Operand)) : CV :=
  match zeroL P t, P.underlying t with
  | some z, some (.struct fields) => match places P fields.toList with
    | some pl => match cFill (fun i => pl[i]?) z.length ps with
      | .mk f => .yes fun env _ k => f env z fun cs => k (.agg cs)
    | none => .no
  | some z, some (.array _ elem) => match P.info? elem with
    | some e => match cFill (fun i => some (Nat.mul i e.size, e.size)) z.length ps with
      | .mk f => .yes fun env _ k => f env z fun cs => k (.agg cs)
    | none => .no
  | _, _ => .no

theorem cBuild_ok {P : Program} {o : Oper} {t : TypeId} {ps : Array (Nat × Operand)} {f : Env → St → (AVal → Bool) → Bool} (hop : o.op = .build t ps) (h : cBuild P t ps.toList = .yes f) : VOK P o f := by
  have fin : ∀ env (st : St) cs, aBuild P t ps (aev env) = some cs → aop P o (aev env) st.H st.nx = some (.val (.agg cs) st.H st.nx) := by
    intro env st cs hcs
    unfold aop; rw [hop]
    show opBuild P t ps (aev env) st.H st.nx = _
    unfold opBuild
    simp only [hcs]
  unfold cBuild at h
  split at h <;> first | (cases h; done) | skip
  · rename_i z fields hz hu
    split at h <;> first | (cases h; done) | skip
    rename_i pl hpl
    cases ef : cFill (fun i => pl[i]?) z.length ps.toList with | mk g =>
      rw [ef] at h
      cases h
      intro env st k hk
      obtain ⟨cs, hcs, hk⟩ := cFill_ok (place := fun i => pl[i]?) (n := z.length) (ps := ps.toList) (env := env) (cells := z) (k := fun cs => k (.agg cs)) rfl (by rw [ef]; exact hk)
      exact ⟨_, fin env st cs (by unfold aBuild; simp only [hz, hu, hpl]; exact hcs), hk⟩
  · rename_i z n elem hz hu
    split at h <;> first | (cases h; done) | skip
    rename_i e he
    cases ef : cFill (fun i => some (Nat.mul i e.size, e.size)) z.length ps.toList with | mk g =>
      rw [ef] at h
      cases h
      intro env st k hk
      obtain ⟨cs, hcs, hk⟩ := cFill_ok (place := fun i => some (Nat.mul i e.size, e.size)) (n := z.length) (ps := ps.toList) (env := env) (cells := z) (k := fun cs => k (.agg cs)) rfl (by rw [ef]; exact hk)
      exact ⟨_, fin env st cs (by unfold aBuild; simp only [hz, hu, he]; exact hcs), hk⟩

/-- An operation that only reads, as a closed function. -/
def cVal (P : Program) (o : Op) : CV :=
  match o with
  | .move x => match bx x with | .mk fx => .yes fun env _ k => k (fx env)
  | .assign x => match bx x with | .mk fx => .yes fun env _ k => k (fx env)
  | .pick c a b => match bx c, bx a, bx b with | .mk c, .mk a, .mk b => .yes fun env _ k => vBool (c env) (k (a env)) (k (b env))
  | .load t a => match P.underlying t, P.info? t, bx a with
    | some d, some i, .mk fa => match aggD d with
      | false => .yes fun env st k => vPtrG (fa env) (fun b off => hCell (hget b st.H) off k) (fun g off => gCell (GTab.tab g) off k)
      | true => forceN i.size fun sz => .yes fun env st k => vPtrG (fa env) (fun b off => hSlab (hget b st.H) off sz k) (fun _ _ => oK (opLoad P t a (aev env) st.H st.nx) k)
    | _, _, _ => .no
  | .nilCheck x => match bx x with | .mk fx => .yes fun env _ k => vChk (fx env) k
  | .binOp op t x y _ => match P.underlying t with
    | some (.int _) => match binI P op t x y (bx x) (bx y) with
      | .yes f => .yes f
      | .no => gen (opBin P op t x y)
    | some .string => match binT P op t x y (bx x) (bx y) with
      | .yes f => .yes f
      | .no => gen (opBin P op t x y)
    | _ => gen (opBin P op t x y)
  | .unOp .not _ x => match bx x with | .mk fx => .yes fun env _ k => vBool (fx env) (k (.bool false)) (k (.bool true))
  | .unOp op _ x => gen (opUn op x)
  | .convert s d x => match P.underlying s, P.underlying d, bx x with
    | some _, some (.int j), .mk fx => .yes fun env st k => vIntS (fx env) (fun _ n => forceI (awrap j n) fun r => k (.int j r)) (oK (opConv P s d x (aev env) st.H st.nx) k)
    | _, _, _ => gen (opConv P s d x)
  | .fieldAddr s x f => match P.underlying s with
    | some (.struct fields) => match fields[f]? with
      | some fd => match P.info? fd.type, bx x with
        | some i, .mk fx => match Nat.beq i.size 0 with
          | false => forceN fd.offset fun q => .yes fun env _ k => vPtrG (fx env) (fun b off => k (.ptr b (Nat.add off q))) (fun g off => k (.gptr g (Nat.add off q)))
          | true => .no
        | _, _ => .no
      | none => .no
    | _ => .no
  | .field t x f => match P.underlying t with
    | some (.struct fields) => match fields[f]? with
      | some fd => match P.underlying fd.type, P.info? fd.type, bx x with
        | some d, some i, .mk fx => match aggD d with
          | false => forceN fd.offset fun q => .yes fun env _ k => vAgg (fx env) fun cs => nthK cs q k
          | true => forceN fd.offset fun q => forceN i.size fun sz => .yes fun env _ k => vAgg (fx env) fun cs => k (.agg (takeF sz (dropF q cs)))
        | _, _, _ => .no
      | none => .no
    | _ => .no
  | .indexAddr t x i => match P.underlying t with
    | some (.slice elem) => match P.info? elem, bx x, bx i with
      | some e, .mk fx, .mk fi => forceN e.size fun sz => .yes fun env _ k => vInt (fi env) fun _ i => natK i fun n => vSl (fx env) fun b off len => Bool.rec false (k (.ptr b (Nat.add off (Nat.mul n sz)))) (Nat.ble (Nat.succ n) len)
      | _, _, _ => .no
    | _ => gen (opIndexAddr P t x i)
  | .index t x i => match P.underlying t, bx x, bx i with
    | some .string, .mk fx, .mk fi => .yes fun env _ k => vInt (fi env) fun _ i => natK i fun n => vStr (fx env) fun l z => Bool.rec false (forceN (cutX l z n (Nat.succ n)) fun c => k (.int .u8 (.ofNat c))) (Nat.ble (Nat.succ n) l)
    | _, _, _ => gen (opIndex P t x i)
  | .extract t i => match bx t with | .mk ft => .yes fun env _ k => vTup (ft env) fun vs => nthK vs i k
  | .makeInterface t x => gen (opMakeInterface P t x)
  | .makeFunc fn a b => gen (opMakeFunc fn a b)
  | .slice t x lo hi mx => gen (opSlice P t x lo hi mx)
  | .typeAssert x _ a ok => gen (opAssert P x a ok)
  | .lookup t x i ok => gen (opLookup P t x i ok)
  | .build t ps => match cBuild P t ps.toList with
    | .yes f => .yes f
    | .no => gen (opBuild P t ps)
  | .call c => match c.callee with
    | .builtin .len => match c.argTypes.toList, c.args.toList with
      | [t], [x] => match P.underlying t, bx x with
        | some .string, .mk fx => .yes fun env _ k => vLenT (fx env) fun n => k (.int .i64 (.ofNat n))
        | some (.slice _), .mk fx => .yes fun env _ k => vLenS (fx env) fun n => k (.int .i64 (.ofNat n))
        | _, _ => gen (opCall P c)
      | _, _ => .no
    | .builtin .max => gen (opCall P c)
    | .builtin .min => gen (opCall P c)
    | _ => .no
  | _ => .no

theorem aop_op {P : Program} {o : Oper} {op : Op} (h : o.op = op) : aop P o = aop P { o with op := op } := by rw [← h]

theorem cVal_ok {P : Program} {o : Oper} {f : Env → St → (AVal → Bool) → Bool} (h : cVal P o.op = .yes f) : VOK P o f := by
  unfold cVal at h
  split at h
  · rename_i x hop
    have hx := bx_eq x
    cases e : bx x with | mk fx =>
      rw [e] at h hx; cases h
      intro env st k hk
      refine ⟨fx env, ?_, hk⟩
      unfold aop; rw [hop]
      have : fx env = aev env x := hx env
      rw [this]; rfl
  · rename_i x hop
    have hx := bx_eq x
    cases e : bx x with | mk fx =>
      rw [e] at h hx; cases h
      intro env st k hk
      refine ⟨fx env, ?_, hk⟩
      unfold aop; rw [hop]
      have : fx env = aev env x := hx env
      rw [this]; rfl
  · rename_i c a b hop
    have hc := bx_eq c; have ha := bx_eq a; have hb := bx_eq b
    cases ec : bx c with | mk fc => cases ea : bx a with | mk fa => cases eb : bx b with | mk fb =>
      rw [ec] at h hc; rw [ea] at h ha; rw [eb] at h hb; cases h
      intro env st k hk
      have hc' : fc env = aev env c := hc env
      have ha' : fa env = aev env a := ha env
      have hb' : fb env = aev env b := hb env
      have hk' : vBool (fc env) (k (fa env)) (k (fb env)) = true := hk
      unfold aop; rw [hop]
      show ∃ v, opPick c a b (aev env) st.H st.nx = _ ∧ _
      rcases vBool_ok hk' with ⟨e, hh⟩ | ⟨e, hh⟩
      · rw [hc'] at e; rw [ha'] at hh
        exact ⟨_, by unfold opPick; rw [e], hh⟩
      · rw [hc'] at e; rw [hb'] at hh
        exact ⟨_, by unfold opPick; rw [e], hh⟩
  · rename_i t a hop
    split at h <;> first | (cases h; done) | skip
    rename_i d i fa hd hi ha
    have hx := bx_eq a; rw [ha] at hx
    have hx' : ∀ env, fa env = aev env a := hx
    split at h
    · rename_i hagg
      cases h
      intro env st k hk
      rcases vPtrG_ok hk with ⟨b, off, e, hk⟩ | ⟨g, off, e, hk⟩
      · obtain ⟨n, ct, olds, s, e2, e3, hk⟩ := hCell_ok hk
        rw [hget_eq] at e2
        refine ⟨_, ?_, hk⟩
        unfold aop; rw [hop]
        show opLoad P t a (aev env) st.H st.nx = _
        rw [hx'] at e
        simp only [opLoad, aLoad, e, e2, hd, hi, hagg, e3]
      · obtain ⟨l, v, e2, e3, hk⟩ := gCell_ok hk
        refine ⟨v, ?_, hk⟩
        unfold aop; rw [hop]
        show opLoad P t a (aev env) st.H st.nx = _
        rw [hx'] at e
        simp only [opLoad, aLoad, e, e2, hd, hi, hagg, e3]
    · rename_i hagg
      rw [forceN_eq] at h
      cases h
      intro env st k hk
      rcases vPtrG_ok hk with ⟨b, off, e, hk⟩ | ⟨g, off, e, hk⟩
      · obtain ⟨n, ct, olds, s, e2, e3, hk⟩ := hSlab_ok hk
        rw [hget_eq] at e2
        refine ⟨_, ?_, hk⟩
        unfold aop; rw [hop]
        show opLoad P t a (aev env) st.H st.nx = _
        rw [hx'] at e
        simp only [opLoad, aLoad, e, e2, hd, hi, hagg, e3]
      · exact gen_ok (by funext ρ H nx; unfold aop; rw [hop]) (by rw [hop]; rfl) env st k hk
  · rename_i x hop
    have hx := bx_eq x
    cases e : bx x with | mk fx =>
      rw [e] at h hx; cases h
      intro env st k hk
      have hx' : fx env = aev env x := hx env
      obtain ⟨e2, hk⟩ := vChk_ok hk
      rw [hx'] at e2 hk
      refine ⟨_, ?_, hk⟩
      unfold aop; rw [hop]
      show opNilCheck x (aev env) st.H st.nx = _
      rcases e2 with ⟨b, off, e2⟩ | ⟨t, u, e2⟩ | ⟨g, off, e2⟩ <;> simp only [opNilCheck, e2]
  · rename_i op t x y u hop
    have g : ∀ {f}, gen (opBin P op t x y) = .yes f → VOK P o f := fun {f} h => by
      cases h
      exact gen_ok (by funext ρ H nx; unfold aop; rw [hop]) (by rw [hop]; rfl)
    split at h
    · split at h
      · rename_i hb; cases h; exact binI_ok hop hb
      · exact g h
    · split at h
      · rename_i hb; cases h; exact binT_ok hop hb
      · exact g h
    · exact g h
  · rename_i t x hop
    have hx := bx_eq x
    cases e : bx x with | mk fx =>
      rw [e] at h hx; cases h
      intro env st k hk
      have hx' : fx env = aev env x := hx env
      have hk' : vBool (fx env) (k (.bool false)) (k (.bool true)) = true := hk
      unfold aop; rw [hop]
      show ∃ v, opUn .not x (aev env) st.H st.nx = _ ∧ _
      rcases vBool_ok hk' with ⟨e, hh⟩ | ⟨e, hh⟩
      · rw [hx'] at e
        exact ⟨_, by unfold opUn; rw [e]; rfl, hh⟩
      · rw [hx'] at e
        exact ⟨_, by unfold opUn; rw [e]; rfl, hh⟩
  · rename_i op t x hne hop
    cases h
    exact gen_ok (by funext ρ H nx; unfold aop; rw [hop]) (by rw [hop]; rfl)
  · rename_i s d x hop
    split at h
    · rename_i ds j fx hs hd hx0
      have hx := bx_eq x; rw [hx0] at hx
      have hx' : ∀ env, fx env = aev env x := hx
      cases h
      intro env st k hk
      rcases vIntS_ok hk with ⟨kd, n, e, hk⟩ | hk
      case inr => exact gen_ok (P := P) (o := o) (g := opConv P s d x) (by funext ρ H nx; unfold aop; rw [hop]) (by rw [hop]; rfl) env st k hk
      rw [forceI_eq] at hk
      rw [hx'] at e
      refine ⟨_, ?_, hk⟩
      unfold aop; rw [hop]
      show opConv P s d x (aev env) st.H st.nx = _
      unfold opConv
      rw [hs, hd, e]
      simp only [forceI_eq]
    · cases h
      exact gen_ok (by funext ρ H nx; unfold aop; rw [hop]) (by rw [hop]; rfl)
  · rename_i s x f' hop
    split at h <;> first | (cases h; done) | skip
    rename_i fields hs
    split at h <;> first | (cases h; done) | skip
    rename_i fd hf
    split at h <;> first | (cases h; done) | skip
    rename_i i fx hi hx0
    have hx := bx_eq x; rw [hx0] at hx
    have hx' : ∀ env, fx env = aev env x := hx
    split at h <;> first | (cases h; done) | skip
    rename_i hz
    rw [forceN_eq] at h
    cases h
    intro env st k hk
    rcases vPtrG_ok hk with ⟨b, off, e, hk⟩ | ⟨b, off, e, hk⟩ <;> rw [hx'] at e
    all_goals
      refine ⟨_, ?_, hk⟩
      unfold aop; rw [hop]
      show opFieldAddr P s x f' (aev env) st.H st.nx = _
      unfold opFieldAddr
      simp only [hs, hf, hi, hz, e]
  · rename_i t x f' hop
    split at h <;> first | (cases h; done) | skip
    rename_i fields hs
    split at h <;> first | (cases h; done) | skip
    rename_i fd hf
    split at h <;> first | (cases h; done) | skip
    rename_i d i fx hd hi hx0
    have hx := bx_eq x; rw [hx0] at hx
    have hx' : ∀ env, fx env = aev env x := hx
    split at h
    · rename_i hagg
      rw [forceN_eq] at h
      cases h
      intro env st k hk
      obtain ⟨cs, e, hk⟩ := vAgg_ok hk
      rw [hx'] at e
      obtain ⟨v, hv, hk⟩ := nthK_ok hk
      refine ⟨v, ?_, hk⟩
      unfold aop; rw [hop]
      show opField P t x f' (aev env) st.H st.nx = _
      unfold opField aPart
      have hdrop : ∃ r, List.drop fd.offset cs = v :: r := by
        obtain ⟨hlt, hv'⟩ := List.getElem?_eq_some_iff.1 hv
        exact ⟨_, by rw [List.drop_eq_getElem_cons hlt, hv']⟩
      obtain ⟨r, hdrop⟩ := hdrop
      simp only [hs, hf, e, hd, hi, hagg, hdrop]
    · rename_i hagg
      rw [forceN_eq, forceN_eq] at h
      cases h
      intro env st k hk
      obtain ⟨cs, e, hk⟩ := vAgg_ok hk
      rw [hx'] at e
      rw [takeF_eq, dropF_eq] at hk
      refine ⟨_, ?_, hk⟩
      unfold aop; rw [hop]
      show opField P t x f' (aev env) st.H st.nx = _
      unfold opField aPart
      simp only [hs, hf, e, hd, hi, hagg]
  · rename_i t x i hop
    split at h
    · rename_i elem hs
      split at h <;> first | (cases h; done) | skip
      rename_i e fx fi he hx0 hi0
      have hx := bx_eq x; rw [hx0] at hx
      have hx' : ∀ env, fx env = aev env x := hx
      have hi := bx_eq i; rw [hi0] at hi
      have hi' : ∀ env, fi env = aev env i := hi
      rw [forceN_eq] at h
      cases h
      intro env st k hk
      obtain ⟨kd, n, e1, hk⟩ := vInt_ok hk
      obtain ⟨m, rfl, hk⟩ := natK_ok hk
      obtain ⟨b, off, len, esz, full, e2, hk⟩ := vSl_ok hk
      obtain ⟨h1, hk⟩ := brec_ok hk
      rw [hi'] at e1
      rw [hx'] at e2
      refine ⟨_, ?_, hk⟩
      unfold aop; rw [hop]
      show opIndexAddr P t x i (aev env) st.H st.nx = _
      unfold opIndexAddr
      simp only [e1, asNat, hs, e2, h1, he]
    · cases h
      exact gen_ok (by funext ρ H nx; unfold aop; rw [hop]) (by rw [hop]; rfl)
  · rename_i t x i hop
    split at h
    · rename_i fx fi hs hx0 hi0
      have hx := bx_eq x; rw [hx0] at hx
      have hx' : ∀ env, fx env = aev env x := hx
      have hi := bx_eq i; rw [hi0] at hi
      have hi' : ∀ env, fi env = aev env i := hi
      cases h
      intro env st k hk
      obtain ⟨kd, n, e1, hk⟩ := vInt_ok hk
      obtain ⟨m, rfl, hk⟩ := natK_ok hk
      obtain ⟨l, z, e2, hk⟩ := vStr_ok hk
      obtain ⟨h1, hk⟩ := brec_ok hk
      rw [forceN_eq] at hk
      rw [hi'] at e1
      rw [hx'] at e2
      refine ⟨_, ?_, hk⟩
      unfold aop; rw [hop]
      show opIndex P t x i (aev env) st.H st.nx = _
      unfold opIndex
      simp only [e1, asNat, hs, e2, h1, forceN_eq]
    · cases h
      exact gen_ok (by funext ρ H nx; unfold aop; rw [hop]) (by rw [hop]; rfl)
  · rename_i t i hop
    have hx := bx_eq t
    cases e : bx t with | mk fx =>
      rw [e] at h hx; cases h
      intro env st k hk
      have hx' : fx env = aev env t := hx env
      obtain ⟨vs, e2, hk⟩ := vTup_ok hk
      obtain ⟨v, hv, hk⟩ := nthK_ok hk
      rw [hx'] at e2
      refine ⟨v, ?_, hk⟩
      unfold aop; rw [hop]
      show opExtract t i (aev env) st.H st.nx = _
      unfold opExtract
      simp only [e2, hv]
  · rename_i hop; cases h; exact gen_ok (by funext ρ H nx; unfold aop; rw [hop]) (by rw [hop]; rfl)
  · rename_i hop; cases h; exact gen_ok (by funext ρ H nx; unfold aop; rw [hop]) (by rw [hop]; rfl)
  · rename_i hop; cases h; exact gen_ok (by funext ρ H nx; unfold aop; rw [hop]) (by rw [hop]; rfl)
  · rename_i hop; cases h; exact gen_ok (by funext ρ H nx; unfold aop; rw [hop]) (by rw [hop]; rfl)
  · rename_i hop; cases h; exact gen_ok (by funext ρ H nx; unfold aop; rw [hop]) (by rw [hop]; rfl)
  · rename_i hop
    split at h
    · rename_i hb; cases h; exact cBuild_ok hop hb
    · cases h; exact gen_ok (by funext ρ H nx; unfold aop; rw [hop]) (by rw [hop]; rfl)
  · rename_i c hop
    have g : cls (.call c) = 0 → ∀ {f}, gen (opCall P c) = .yes f → VOK P o f := fun hc {f} h => by
      cases h
      exact gen_ok (by funext ρ H nx; unfold aop; rw [hop]) (by rw [hop]; exact hc)
    split at h
    · rename_i hcal
      have hcl : cls (.call c) = 0 := by unfold cls; simp only [hcal]
      split at h <;> first | (cases h; done) | skip
      rename_i t x ht hx1
      split at h
      · rename_i fx hs hx0
        have hx := bx_eq x; rw [hx0] at hx
        have hx' : ∀ env, fx env = aev env x := hx
        cases h
        intro env st k hk
        obtain ⟨n, z, e, hk⟩ := vLenT_ok hk
        rw [hx'] at e
        refine ⟨_, ?_, hk⟩
        unfold aop; rw [hop]
        show opCall P c (aev env) st.H st.nx = _
        unfold opCall
        simp only [hcal, opBuiltin0, ht, hx1, lenOfA, hs, e]
      · rename_i el fx hs hx0
        have hx := bx_eq x; rw [hx0] at hx
        have hx' : ∀ env, fx env = aev env x := hx
        cases h
        intro env st k hk
        rcases vLenS_ok hk with ⟨b, off, n, esz, full, e, hk⟩ | ⟨e, hk⟩
        · rw [hx'] at e
          refine ⟨_, ?_, hk⟩
          unfold aop; rw [hop]
          show opCall P c (aev env) st.H st.nx = _
          unfold opCall
          simp only [hcal, opBuiltin0, ht, hx1, lenOfA, hs, e]
        · rw [hx'] at e
          refine ⟨_, ?_, hk⟩
          unfold aop; rw [hop]
          show opCall P c (aev env) st.H st.nx = _
          unfold opCall
          simp only [hcal, opBuiltin0, ht, hx1, lenOfA, hs, e]
      · exact g hcl h
    · rename_i hcal
      exact g (by unfold cls; simp only [hcal]) h
    · rename_i hcal
      exact g (by unfold cls; simp only [hcal]) h
    · cases h
  · cases h

end
end Go.Ev
