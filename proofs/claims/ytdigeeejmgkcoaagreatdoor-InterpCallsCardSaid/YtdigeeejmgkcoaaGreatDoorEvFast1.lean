/-
  Own work. The evaluator once more, made so that the kernel has little to do: operations are turned into closed functions first. Part 1: values.
-/
import Derived.Test.YtdigeeejmgkcoaaGreatDoorEvDrawn1
import Derived.Test.YtdigeeejmgkcoaaGreatDoorEvMono
namespace Go.Ev
variable [GTab]
set_option linter.unusedSectionVars false
noncomputable section

/-- What code runs over, but for the temporaries. -/
structure St where
  call : CallK
  H : Heap
  nx : Nat
  dfs : Dfs
  rc : Option AMode

abbrev FK := Env → St → Bool
abbrev FX := AExit → Env → St → Bool

def St.with2 (st : St) (H : Heap) (nx : Nat) : St := St.rec (motive := fun _ => Heap → Nat → St) (fun c _ _ d r H nx => .mk c H nx d r) st H nx
theorem St.with2_eq (st : St) (H : Heap) (nx : Nat) : st.with2 H nx = ⟨st.call, H, nx, st.dfs, st.rc⟩ := by cases st; rfl
def St.withD (st : St) (dfs : Dfs) : St := St.rec (motive := fun _ => Dfs → St) (fun c H nx _ r d => .mk c H nx d r) st dfs
theorem St.withD_eq (st : St) (dfs : Dfs) : st.withD dfs = ⟨st.call, st.H, st.nx, dfs, st.rc⟩ := by cases st; rfl
def St.withR (st : St) (rc : Option AMode) : St := St.rec (motive := fun _ => Option AMode → St) (fun c H nx d _ r => .mk c H nx d r) st rc
theorem St.withR_eq (st : St) (rc : Option AMode) : st.withR rc = ⟨st.call, st.H, st.nx, st.dfs, rc⟩ := by cases st; rfl

def unc (c : CallK) (k : FK) : Env → Heap → Nat → Dfs → Option AMode → Bool := fun env H nx dfs rc => k env ⟨c, H, nx, dfs, rc⟩
def uncX (c : CallK) (K : FX) : Kont := fun e env H nx dfs rc => K e env ⟨c, H, nx, dfs, rc⟩

/-! ### Values taken apart -/
/-- A bool decides. -/
def vBool (v : AVal) : Bool → Bool → Bool :=
  AVal.rec (motive_1 := fun _ => Bool → Bool → Bool) (motive_2 := fun _ => Unit) (fun _ _ => false) (fun b yes no => Bool.rec no yes b) (fun _ _ _ _ => false) (fun _ _ _ _ => false) (fun _ _ _ _ => false) (fun _ _ => false) (fun _ _ _ _ _ _ _ => false) (fun _ _ => false) (fun _ _ _ => false) (fun _ _ => false) (fun _ _ _ _ _ _ _ => false) (fun _ _ => false) (fun _ _ _ _ _ => false) (fun _ _ => false) (fun _ _ _ _ => false) (fun _ _ _ _ => false) (fun _ _ _ _ _ => false) (fun _ _ => false) (fun _ _ _ _ => false) (fun _ _ _ => false) () (fun _ _ _ _ => ()) v

/-- A bool decides; one that is not known: both ways. -/
def vFork (v : AVal) : Bool → Bool → Bool :=
  AVal.rec (motive_1 := fun _ => Bool → Bool → Bool) (motive_2 := fun _ => Unit) (fun _ _ => false) (fun b yes no => Bool.rec no yes b) (fun _ _ _ _ => false) (fun _ _ _ _ => false) (fun _ _ _ _ => false) (fun _ _ => false) (fun _ _ _ _ _ _ _ => false) (fun _ _ => false) (fun _ _ _ => false) (fun _ _ => false) (fun _ _ _ _ _ _ _ => false) (fun _ _ => false) (fun _ _ _ _ _ => false) (fun _ _ => false) (fun _ _ _ _ => false) (fun _ _ _ _ => false) (fun _ _ _ _ _ => false) (fun yes no => Bool.rec false no yes) (fun _ _ _ _ => false) (fun _ _ _ => false) () (fun _ _ _ _ => ()) v

/-- A number. -/
def vInt (v : AVal) : (IntKind → Int → Bool) → Bool :=
  AVal.rec (motive_1 := fun _ => (IntKind → Int → Bool) → Bool) (motive_2 := fun _ => Unit) (fun _ => false) (fun _ _ => false) (fun k n f => f k n) (fun _ _ _ => false) (fun _ _ _ => false) (fun _ => false) (fun _ _ _ _ _ _ => false) (fun _ => false) (fun _ _ => false) (fun _ => false) (fun _ _ _ _ _ _ => false) (fun _ => false) (fun _ _ _ _ => false) (fun _ => false) (fun _ _ _ => false) (fun _ _ _ => false) (fun _ _ _ _ => false) (fun _ => false) (fun _ _ _ => false) (fun _ _ => false) () (fun _ _ _ _ => ()) v

/-- A number; one that is not known: otherwise. -/
def vIntS (v : AVal) : (IntKind → Int → Bool) → Bool → Bool :=
  AVal.rec (motive_1 := fun _ => (IntKind → Int → Bool) → Bool → Bool) (motive_2 := fun _ => Unit) (fun _ _ => false) (fun _ _ _ => false) (fun k n f _ => f k n) (fun _ _ _ _ => false) (fun _ _ _ _ => false) (fun _ _ => false) (fun _ _ _ _ _ _ _ => false) (fun _ _ => false) (fun _ _ _ => false) (fun _ _ => false) (fun _ _ _ _ _ _ _ => false) (fun _ _ => false) (fun _ _ _ _ _ => false) (fun _ _ => false) (fun _ _ _ _ => false) (fun _ _ _ _ => false) (fun _ _ _ _ s => s) (fun _ _ => false) (fun _ _ _ _ => false) (fun _ _ _ => false) () (fun _ _ _ _ => ()) v

/-- A text; one that is not known: otherwise. -/
def vStrS (v : AVal) : (Nat → Nat → Bool) → Bool → Bool :=
  AVal.rec (motive_1 := fun _ => (Nat → Nat → Bool) → Bool → Bool) (motive_2 := fun _ => Unit) (fun _ _ => false) (fun _ _ _ => false) (fun _ _ _ _ => false) (fun n x f _ => f n x) (fun _ _ _ _ => false) (fun _ _ => false) (fun _ _ _ _ _ _ _ => false) (fun _ _ => false) (fun _ _ _ => false) (fun _ _ => false) (fun _ _ _ _ _ _ _ => false) (fun _ _ => false) (fun _ _ _ _ _ => false) (fun _ _ => false) (fun _ _ _ _ => false) (fun _ _ _ _ => false) (fun _ _ _ _ _ => false) (fun _ _ => false) (fun _ _ _ _ => false) (fun _ _ s => s) () (fun _ _ _ _ => ()) v

/-- A text. -/
def vStr (v : AVal) : (Nat → Nat → Bool) → Bool :=
  AVal.rec (motive_1 := fun _ => (Nat → Nat → Bool) → Bool) (motive_2 := fun _ => Unit) (fun _ => false) (fun _ _ => false) (fun _ _ _ => false) (fun n x f => f n x) (fun _ _ _ => false) (fun _ => false) (fun _ _ _ _ _ _ => false) (fun _ => false) (fun _ _ => false) (fun _ => false) (fun _ _ _ _ _ _ => false) (fun _ => false) (fun _ _ _ _ => false) (fun _ => false) (fun _ _ _ => false) (fun _ _ _ => false) (fun _ _ _ _ => false) (fun _ => false) (fun _ _ _ => false) (fun _ _ => false) () (fun _ _ _ _ => ()) v

/-- A pointer. -/
def vPtr (v : AVal) : (Nat → Nat → Bool) → Bool :=
  AVal.rec (motive_1 := fun _ => (Nat → Nat → Bool) → Bool) (motive_2 := fun _ => Unit) (fun _ => false) (fun _ _ => false) (fun _ _ _ => false) (fun _ _ _ => false) (fun b off f => f b off) (fun _ => false) (fun _ _ _ _ _ _ => false) (fun _ => false) (fun _ _ => false) (fun _ => false) (fun _ _ _ _ _ _ => false) (fun _ => false) (fun _ _ _ _ => false) (fun _ => false) (fun _ _ _ => false) (fun _ _ _ => false) (fun _ _ _ _ => false) (fun _ => false) (fun _ _ _ => false) (fun _ _ => false) () (fun _ _ _ _ => ()) v

/-- A pointer, or the place of a package-level variable. -/
def vPtrG (v : AVal) : (Nat → Nat → Bool) → (Nat → Nat → Bool) → Bool :=
  AVal.rec (motive_1 := fun _ => (Nat → Nat → Bool) → (Nat → Nat → Bool) → Bool) (motive_2 := fun _ => Unit) (fun _ _ => false) (fun _ _ _ => false) (fun _ _ _ _ => false) (fun _ _ _ _ => false) (fun b off f _ => f b off) (fun _ _ => false) (fun _ _ _ _ _ _ _ => false) (fun _ _ => false) (fun _ _ _ => false) (fun _ _ => false) (fun _ _ _ _ _ _ _ => false) (fun _ _ => false) (fun _ _ _ _ _ => false) (fun _ _ => false) (fun _ _ _ _ => false) (fun _ _ _ _ => false) (fun _ _ _ _ _ => false) (fun _ _ => false) (fun g off _ f => f g off) (fun _ _ _ => false) () (fun _ _ _ _ => ()) v

/-- A slice that is not nil. -/
def vSl (v : AVal) : (Nat → Nat → Nat → Bool) → Bool :=
  AVal.rec (motive_1 := fun _ => (Nat → Nat → Nat → Bool) → Bool) (motive_2 := fun _ => Unit) (fun _ => false) (fun _ _ => false) (fun _ _ _ => false) (fun _ _ _ => false) (fun _ _ _ => false) (fun _ => false) (fun b off n _ _ f => f b off n) (fun _ => false) (fun _ _ => false) (fun _ => false) (fun _ _ _ _ _ _ => false) (fun _ => false) (fun _ _ _ _ => false) (fun _ => false) (fun _ _ _ => false) (fun _ _ _ => false) (fun _ _ _ _ => false) (fun _ => false) (fun _ _ _ => false) (fun _ _ => false) () (fun _ _ _ _ => ()) v

/-- A text's length. -/
def vLenT (v : AVal) : (Nat → Bool) → Bool :=
  AVal.rec (motive_1 := fun _ => (Nat → Bool) → Bool) (motive_2 := fun _ => Unit) (fun _ => false) (fun _ _ => false) (fun _ _ _ => false) (fun n _ f => f n) (fun _ _ _ => false) (fun _ => false) (fun _ _ _ _ _ _ => false) (fun _ => false) (fun _ _ => false) (fun _ => false) (fun _ _ _ _ _ _ => false) (fun _ => false) (fun _ _ _ _ => false) (fun _ => false) (fun _ _ _ => false) (fun _ _ _ => false) (fun _ _ _ _ => false) (fun _ => false) (fun _ _ _ => false) (fun _ _ => false) () (fun _ _ _ _ => ()) v

/-- A slice's length. -/
def vLenS (v : AVal) : (Nat → Bool) → Bool :=
  AVal.rec (motive_1 := fun _ => (Nat → Bool) → Bool) (motive_2 := fun _ => Unit) (fun _ => false) (fun _ _ => false) (fun _ _ _ => false) (fun _ _ _ => false) (fun _ _ _ => false) (fun _ => false) (fun _ _ n _ _ f => f n) (fun f => f 0) (fun _ _ => false) (fun _ => false) (fun _ _ _ _ _ _ => false) (fun _ => false) (fun _ _ _ _ => false) (fun _ => false) (fun _ _ _ => false) (fun _ _ _ => false) (fun _ _ _ _ => false) (fun _ => false) (fun _ _ _ => false) (fun _ _ => false) () (fun _ _ _ _ => ()) v

/-- Cells. -/
def vAgg (v : AVal) : (List AVal → Bool) → Bool :=
  AVal.rec (motive_1 := fun _ => (List AVal → Bool) → Bool) (motive_2 := fun _ => Unit) (fun _ => false) (fun _ _ => false) (fun _ _ _ => false) (fun _ _ _ => false) (fun _ _ _ => false) (fun _ => false) (fun _ _ _ _ _ _ => false) (fun _ => false) (fun _ _ => false) (fun _ => false) (fun _ _ _ _ _ _ => false) (fun _ => false) (fun _ _ _ _ => false) (fun _ => false) (fun cs _ f => f cs) (fun _ _ _ => false) (fun _ _ _ _ => false) (fun _ => false) (fun _ _ _ => false) (fun _ _ => false) () (fun _ _ _ _ => ()) v

/-- Several results. -/
def vTup (v : AVal) : (List AVal → Bool) → Bool :=
  AVal.rec (motive_1 := fun _ => (List AVal → Bool) → Bool) (motive_2 := fun _ => Unit) (fun _ => false) (fun _ _ => false) (fun _ _ _ => false) (fun _ _ _ => false) (fun _ _ _ => false) (fun _ => false) (fun _ _ _ _ _ _ => false) (fun _ => false) (fun _ _ => false) (fun _ => false) (fun _ _ _ _ _ _ => false) (fun _ => false) (fun _ _ _ _ => false) (fun _ => false) (fun _ _ _ => false) (fun cs _ f => f cs) (fun _ _ _ _ => false) (fun _ => false) (fun _ _ _ => false) (fun _ _ => false) () (fun _ _ _ _ => ()) v

/-- A pointer or an interface value that is not nil. -/
def vChk (v : AVal) : (AVal → Bool) → Bool :=
  AVal.rec (motive_1 := fun _ => (AVal → Bool) → Bool) (motive_2 := fun _ => Unit) (fun _ => false) (fun _ _ => false) (fun _ _ _ => false) (fun _ _ _ => false) (fun b off f => f (.ptr b off)) (fun _ => false) (fun _ _ _ _ _ _ => false) (fun _ => false) (fun _ _ => false) (fun _ => false) (fun _ _ _ _ _ _ => false) (fun _ => false) (fun t v _ f => f (.iface t v)) (fun _ => false) (fun _ _ _ => false) (fun _ _ _ => false) (fun _ _ _ _ => false) (fun _ => false) (fun g off f => f (.gptr g off)) (fun _ _ => false) () (fun _ _ _ _ => ()) v

/-- What lies in one cell, and is no aggregate. -/
def vCell (v : AVal) : (AVal → Bool) → Bool :=
  AVal.rec (motive_1 := fun _ => (AVal → Bool) → Bool) (motive_2 := fun _ => Unit) (fun _ => false) (fun x0 f => f (.bool x0)) (fun x0 x1 f => f (.int x0 x1)) (fun x0 x1 f => f (.str x0 x1)) (fun x0 x1 f => f (.ptr x0 x1)) (fun f => f .nilPtr) (fun x0 x1 x2 x3 x4 f => f (.slice x0 x1 x2 x3 x4)) (fun f => f .nilSlice) (fun x0 f => f (.map x0)) (fun f => f .nilMap) (fun x0 x1 x2 _ _ f => f (.func x0 x1 x2)) (fun f => f .nilFunc) (fun x0 x1 _ f => f (.iface x0 x1)) (fun f => f .nilIface) (fun _ _ _ => false) (fun _ _ _ => false) (fun x0 x1 x2 f => f (.anyInt x0 x1 x2)) (fun f => f .anyBool) (fun x0 x1 f => f (.gptr x0 x1)) (fun x0 f => f (.anyStr x0)) () (fun _ _ _ _ => ()) v

/-- What lies in one cell. -/
def vOne (v : AVal) : (AVal → Bool) → Bool :=
  AVal.rec (motive_1 := fun _ => (AVal → Bool) → Bool) (motive_2 := fun _ => Unit) (fun _ => false) (fun x0 f => f (.bool x0)) (fun x0 x1 f => f (.int x0 x1)) (fun x0 x1 f => f (.str x0 x1)) (fun x0 x1 f => f (.ptr x0 x1)) (fun f => f .nilPtr) (fun x0 x1 x2 x3 x4 f => f (.slice x0 x1 x2 x3 x4)) (fun f => f .nilSlice) (fun x0 f => f (.map x0)) (fun f => f .nilMap) (fun x0 x1 x2 _ _ f => f (.func x0 x1 x2)) (fun f => f .nilFunc) (fun x0 x1 _ f => f (.iface x0 x1)) (fun f => f .nilIface) (fun l _ f => List.rec (motive := fun _ => (AVal → Bool) → Bool) (fun _ => false) (fun v t _ f => List.rec (f v) (fun _ _ _ => false) t) l f) (fun _ _ _ => false) (fun x0 x1 x2 f => f (.anyInt x0 x1 x2)) (fun f => f .anyBool) (fun x0 x1 f => f (.gptr x0 x1)) (fun x0 f => f (.anyStr x0)) () (fun _ _ _ _ => ()) v

/-- Is it wanted? -/
def vGuard (v : AVal) : Bool → Bool → Bool → Bool :=
  AVal.rec (motive_1 := fun _ => Bool → Bool → Bool → Bool) (motive_2 := fun _ => Unit) (fun _ _ _ => false) (fun b want yes no => Bool.rec (Bool.rec yes no want) (Bool.rec no yes want) b) (fun _ _ _ _ _ => false) (fun _ _ _ _ _ => false) (fun _ _ _ _ _ => false) (fun _ _ _ => false) (fun _ _ _ _ _ _ _ _ => false) (fun _ _ _ => false) (fun _ _ _ _ => false) (fun _ _ _ => false) (fun _ _ _ _ _ _ _ _ => false) (fun _ _ _ => false) (fun _ _ _ _ _ _ => false) (fun _ _ _ => false) (fun _ _ _ _ _ => false) (fun l _ _ _ no => List.rec no (fun _ _ _ => false) l) (fun _ _ _ _ _ _ => false) (fun _ _ _ => false) (fun _ _ _ _ _ => false) (fun _ _ _ _ => false) () (fun _ _ _ _ => ()) v

theorem vBool_ok {v : AVal} {yes no : Bool} (h : vBool v yes no = true) : (v = .bool true ∧ yes = true) ∨ (v = .bool false ∧ no = true) := by
  cases v <;> first | exact Bool.noConfusion h | skip
  rename_i b
  cases b
  · exact .inr ⟨rfl, h⟩
  · exact .inl ⟨rfl, h⟩
theorem vFork_ok {v : AVal} {yes no : Bool} (h : vFork v yes no = true) : (v = .bool true ∧ yes = true) ∨ (v = .bool false ∧ no = true) ∨ (v = .anyBool ∧ yes = true ∧ no = true) := by
  cases v <;> first | exact Bool.noConfusion h | skip
  · rename_i b
    cases b
    · exact .inr (.inl ⟨rfl, h⟩)
    · exact .inl ⟨rfl, h⟩
  · cases yes with
    | false => exact Bool.noConfusion h
    | true => exact .inr (.inr ⟨rfl, rfl, h⟩)
theorem vInt_ok {v : AVal} {f : IntKind → Int → Bool} (h : vInt v f = true) : ∃ k n, v = .int k n ∧ f k n = true := by
  cases v <;> first | exact Bool.noConfusion h | exact ⟨_, _, rfl, h⟩
theorem vIntS_ok {v : AVal} {f : IntKind → Int → Bool} {s : Bool} (h : vIntS v f s = true) : (∃ k n, v = .int k n ∧ f k n = true) ∨ s = true := by
  cases v <;> first | exact Bool.noConfusion h | exact .inl ⟨_, _, rfl, h⟩ | exact .inr h
theorem vStrS_ok {v : AVal} {f : Nat → Nat → Bool} {s : Bool} (h : vStrS v f s = true) : (∃ n x, v = .str n x ∧ f n x = true) ∨ s = true := by
  cases v <;> first | exact Bool.noConfusion h | exact .inl ⟨_, _, rfl, h⟩ | exact .inr h
theorem vStr_ok {v : AVal} {f : Nat → Nat → Bool} (h : vStr v f = true) : ∃ n x, v = .str n x ∧ f n x = true := by
  cases v <;> first | exact Bool.noConfusion h | exact ⟨_, _, rfl, h⟩
theorem vPtr_ok {v : AVal} {f : Nat → Nat → Bool} (h : vPtr v f = true) : ∃ b off, v = .ptr b off ∧ f b off = true := by
  cases v <;> first | exact Bool.noConfusion h | exact ⟨_, _, rfl, h⟩
theorem vPtrG_ok {v : AVal} {f g : Nat → Nat → Bool} (h : vPtrG v f g = true) : (∃ b off, v = .ptr b off ∧ f b off = true) ∨ (∃ b off, v = .gptr b off ∧ g b off = true) := by
  cases v <;> first | exact Bool.noConfusion h | exact .inl ⟨_, _, rfl, h⟩ | exact .inr ⟨_, _, rfl, h⟩
theorem vSl_ok {v : AVal} {f : Nat → Nat → Nat → Bool} (h : vSl v f = true) : ∃ b off n esz full, v = .slice b off n esz full ∧ f b off n = true := by
  cases v <;> first | exact Bool.noConfusion h | exact ⟨_, _, _, _, _, rfl, h⟩
theorem vLenT_ok {v : AVal} {f : Nat → Bool} (h : vLenT v f = true) : ∃ n x, v = .str n x ∧ f n = true := by
  cases v <;> first | exact Bool.noConfusion h | exact ⟨_, _, rfl, h⟩
theorem vLenS_ok {v : AVal} {f : Nat → Bool} (h : vLenS v f = true) : (∃ b off n esz full, v = .slice b off n esz full ∧ f n = true) ∨ (v = .nilSlice ∧ f 0 = true) := by
  cases v <;> first | exact Bool.noConfusion h | exact .inl ⟨_, _, _, _, _, rfl, h⟩ | exact .inr ⟨rfl, h⟩
theorem vAgg_ok {v : AVal} {f : List AVal → Bool} (h : vAgg v f = true) : ∃ cs, v = .agg cs ∧ f cs = true := by
  cases v <;> first | exact Bool.noConfusion h | exact ⟨_, rfl, h⟩
theorem vTup_ok {v : AVal} {f : List AVal → Bool} (h : vTup v f = true) : ∃ cs, v = .tuple cs ∧ f cs = true := by
  cases v <;> first | exact Bool.noConfusion h | exact ⟨_, rfl, h⟩
theorem vChk_ok {v : AVal} {f : AVal → Bool} (h : vChk v f = true) : ((∃ b off, v = .ptr b off) ∨ (∃ t u, v = .iface t u) ∨ ∃ g off, v = .gptr g off) ∧ f v = true := by
  cases v <;> first | exact Bool.noConfusion h | exact ⟨.inl ⟨_, _, rfl⟩, h⟩ | exact ⟨.inr (.inl ⟨_, _, rfl⟩), h⟩ | exact ⟨.inr (.inr ⟨_, _, rfl⟩), h⟩
theorem vCell_ok {v : AVal} {f : AVal → Bool} (h : vCell v f = true) : acells v = some [v] ∧ cellv v = true ∧ f v = true := by
  cases v <;> first | exact Bool.noConfusion h | exact ⟨rfl, rfl, h⟩
theorem vOne_ok {v : AVal} {f : AVal → Bool} (h : vOne v f = true) : ∃ c, acells v = some [c] ∧ f c = true := by
  cases v <;> first | exact Bool.noConfusion h | exact ⟨_, rfl, h⟩ | skip
  rename_i l
  cases l with
  | nil => exact Bool.noConfusion h
  | cons c l =>
    cases l with
    | nil => exact ⟨c, rfl, h⟩
    | cons d l => exact Bool.noConfusion h
theorem vGuard_ok {v : AVal} {want yes no : Bool} (h : vGuard v want yes no = true) : (∃ b, v = .bool b ∧ ((b = want ∧ yes = true) ∨ (b ≠ want ∧ no = true))) ∨ (v = .tuple [] ∧ no = true) := by
  cases v <;> first | exact Bool.noConfusion h | skip
  · rename_i b
    refine .inl ⟨b, rfl, ?_⟩
    cases b <;> cases want <;> first | exact .inl ⟨rfl, h⟩ | exact .inr ⟨(by decide), h⟩
  · rename_i l
    cases l with
    | nil => exact .inr ⟨rfl, h⟩
    | cons a l => exact Bool.noConfusion h

/-! ### Places of temporaries -/
inductive SelR | mk (f : Env → N16 AVal)
inductive SelA | mk (f : N16 AVal → AVal)
inductive PutR | mk (f : N16 AVal → Env → Env)
inductive PutA | mk (f : AVal → N16 AVal → N16 AVal)
inductive Acc | mk (f : Env → AVal)
inductive Dst | mk (f : AVal → Env → Env)
inductive Ars | mk (f : Env → List AVal)
inductive Gd | mk (f : Env → Bool → Bool → Bool)
def SelR.fn : SelR → Env → N16 AVal | .mk f => f
def SelA.fn : SelA → N16 AVal → AVal | .mk f => f
def PutR.fn : PutR → N16 AVal → Env → Env | .mk f => f
def PutA.fn : PutA → AVal → N16 AVal → N16 AVal | .mk f => f
def Acc.fn : Acc → Env → AVal | .mk f => f
def Dst.fn : Dst → AVal → Env → Env | .mk f => f
def Ars.fn : Ars → Env → List AVal | .mk f => f
def Gd.fn : Gd → Env → Bool → Bool → Bool | .mk f => f
def selR (i : Ix) : SelR := Ix.rec (motive := fun _ => SelR) (.mk N16.f0) (.mk N16.f1) (.mk N16.f2) (.mk N16.f3) (.mk N16.f4) (.mk N16.f5) (.mk N16.f6) (.mk N16.f7) (.mk N16.f8) (.mk N16.f9) (.mk N16.f10) (.mk N16.f11) (.mk N16.f12) (.mk N16.f13) (.mk N16.f14) (.mk N16.f15) i
def selA (i : Ix) : SelA := Ix.rec (motive := fun _ => SelA) (.mk N16.f0) (.mk N16.f1) (.mk N16.f2) (.mk N16.f3) (.mk N16.f4) (.mk N16.f5) (.mk N16.f6) (.mk N16.f7) (.mk N16.f8) (.mk N16.f9) (.mk N16.f10) (.mk N16.f11) (.mk N16.f12) (.mk N16.f13) (.mk N16.f14) (.mk N16.f15) i
def putR (i : Ix) : PutR := Ix.rec (motive := fun _ => PutR) (.mk sA2_0) (.mk sA2_1) (.mk sA2_2) (.mk sA2_3) (.mk sA2_4) (.mk sA2_5) (.mk sA2_6) (.mk sA2_7) (.mk sA2_8) (.mk sA2_9) (.mk sA2_10) (.mk sA2_11) (.mk sA2_12) (.mk sA2_13) (.mk sA2_14) (.mk sA2_15) i
def putA (i : Ix) : PutA := Ix.rec (motive := fun _ => PutA) (.mk sA1_0) (.mk sA1_1) (.mk sA1_2) (.mk sA1_3) (.mk sA1_4) (.mk sA1_5) (.mk sA1_6) (.mk sA1_7) (.mk sA1_8) (.mk sA1_9) (.mk sA1_10) (.mk sA1_11) (.mk sA1_12) (.mk sA1_13) (.mk sA1_14) (.mk sA1_15) i
theorem selR_eq (i : Ix) : (selR i).fn = N16.get i := by cases i <;> rfl
theorem selA_eq (i : Ix) : (selA i).fn = N16.get i := by cases i <;> rfl
theorem putR_eq (i : Ix) : (putR i).fn = N16.set i := by cases i <;> rfl
theorem putA_eq (i : Ix) : (putA i).fn = N16.set i := by cases i <;> rfl

def accOf (t : Nat) : Acc := match selR (dg 4 t), selA (dg 0 t) with | .mk r, .mk a => .mk fun env => a (r env)
theorem accOf_eq (t : Nat) : (accOf t).fn = get2 t := by
  unfold accOf
  have h1 := selR_eq (dg 4 t)
  have h2 := selA_eq (dg 0 t)
  cases e1 : selR (dg 4 t) with | mk r => cases e2 : selA (dg 0 t) with | mk a =>
    rw [e1] at h1; rw [e2] at h2
    have h1' : r = N16.get (dg 4 t) := h1
    have h2' : a = N16.get (dg 0 t) := h2
    subst h1' h2'
    rfl

def dstOf (t : Nat) : Dst := match selR (dg 4 t), putA (dg 0 t), putR (dg 4 t) with | .mk r, .mk a, .mk p => .mk fun v env => p (a v (r env)) env
theorem dstOf_eq (t : Nat) : (dstOf t).fn = set2 t := by
  unfold dstOf
  have h1 := selR_eq (dg 4 t)
  have h2 := putA_eq (dg 0 t)
  have h3 := putR_eq (dg 4 t)
  cases e1 : selR (dg 4 t) with | mk r => cases e2 : putA (dg 0 t) with | mk a => cases e3 : putR (dg 4 t) with | mk p =>
    rw [e1] at h1; rw [e2] at h2; rw [e3] at h3
    have h1' : r = N16.get (dg 4 t) := h1
    have h2' : a = N16.set (dg 0 t) := h2
    have h3' : p = N16.set (dg 4 t) := h3
    subst h1' h2' h3'
    rfl

def bx (x : Operand) : Acc :=
  match x with
  | .tmp t => match Nat.ble t 255 with
    | true => accOf t
    | false => .mk fun _ => .und
  | .const v => .mk fun _ => ofVal v
  | .global g => .mk fun _ => .gptr g 0
  | .func f => .mk fun _ => .func (.func f) [] []
theorem bx_eq (x : Operand) (env : Env) : (bx x).fn env = aev env x := by
  cases x with
  | tmp t =>
    show (match Nat.ble t 255 with | true => accOf t | false => .mk fun _ => .und : Acc).fn env = Bool.rec .und (get2 t env) (Nat.ble t 255)
    cases Nat.ble t 255
    · rfl
    · show (accOf t).fn env = get2 t env
      rw [accOf_eq]
  | const v => rfl
  | global g => rfl
  | func f => rfl

def bd (d : Option Nat) : Dst := match d with
  | none => .mk fun _ env => env
  | some d => dstOf d
theorem bd_eq (d : Option Nat) (v : AVal) (env : Env) : (bd d).fn v env = put d v env := by
  cases d with
  | none => rfl
  | some d => show (dstOf d).fn v env = set2 d v env; rw [dstOf_eq]

def bas (l : List Operand) : Ars := match l with
  | [] => .mk fun _ => []
  | x :: l => match bx x, bas l with | .mk f, .mk g => .mk fun env => f env :: g env
theorem bas_eq : ∀ (l : List Operand) (env : Env), (bas l).fn env = l.map (aev env)
  | [], _ => rfl
  | x :: l, env => by
    have h1 := bx_eq x env
    have h2 := bas_eq l env
    unfold bas
    cases e1 : bx x with | mk f => cases e2 : bas l with | mk g =>
      rw [e1] at h1; rw [e2] at h2
      show f env :: g env = aev env x :: l.map (aev env)
      rw [← h1, ← h2]; rfl

/-- Is the operation wanted? -/
def bg (ops : Array Oper) (g : Nat × Bool) : Gd :=
  match (ops[g.1]?).bind (·.dst) with
  | some t => match Nat.ble t 255 with
    | true => match accOf t with | .mk f => (match g.2 with
      | true => .mk fun env yes no => vGuard (f env) true yes no
      | false => .mk fun env yes no => vGuard (f env) false yes no)
    | false => .mk fun _ _ _ => false
  | none => .mk fun _ _ no => no
theorem bg_ok {ops : Array Oper} {g : Nat × Bool} {env : Env} {yes no : Bool} (h : (bg ops g).fn env yes no = true) :
    (wantedA ops (some g) env = some true ∧ yes = true) ∨ (wantedA ops (some g) env = some false ∧ no = true) := by
  obtain ⟨j, want⟩ := g
  unfold bg at h
  unfold wantedA
  simp only at h ⊢
  cases e : (ops[j]?).bind (·.dst) with
  | none => rw [e] at h; exact .inr ⟨rfl, h⟩
  | some t =>
    simp only [e] at h ⊢
    cases ht : Nat.ble t 255 with
    | false => simp only [ht] at h; exact Bool.noConfusion h
    | true =>
      simp only [ht] at h ⊢
      have ha := accOf_eq t
      cases ea : accOf t with | mk f =>
        rw [ea] at ha
        have ha' : f = get2 t := ha
        subst ha'
        simp only [ea] at h
        have h' : vGuard (get2 t env) want yes no = true := by cases want <;> exact h
        rcases vGuard_ok h' with ⟨b, hb, hh⟩ | ⟨hb, hh⟩
        · rw [hb]
          rcases hh with ⟨rfl, hy⟩ | ⟨hne, hn⟩
          · exact .inl ⟨(by cases b <;> rfl), hy⟩
          · refine .inr ⟨?_, hn⟩
            cases b <;> cases want <;> first | rfl | exact absurd rfl hne
        · rw [hb]; exact .inr ⟨rfl, hh⟩

end
end Go.Ev
