/-
  Own work. Texts of a proof,laid together; no condition.
-/
import Derived.Laws.World
import Derived.Laws.Cells
import Derived.Orders
import Derived.Recover
import GoSem.Dispatch
import Derived.Laws.Strings
import Derived.Laws.Concat
import Derived.Lib.Strings
import Derived.IntWalk
import Derived.Laws.BytesString
import Derived.Laws.Append
import Derived.MapKept
import Derived.LoopN
import Derived.Tactics
set_option linter.unusedSectionVars false
set_option linter.unusedVariables false
set_option linter.unusedSimpArgs false
set_option maxRecDepth 1000000
section
namespace Go.Ev
structure N16 (α : Type) where
 (f0 f1 f2 f3 f4 f5 f6 f7 f8 f9 f10 f11 f12 f13 f14 f15 : α)
inductive Ix | i0 | i1 | i2 | i3 | i4 | i5 | i6 | i7 | i8 | i9 | i10 | i11 | i12 | i13 | i14 | i15
namespace N16
variable {α : Type}
noncomputable def set0 (v : α) (e : N16 α) : N16 α := N16.rec (motive := fun _ => α → N16 α) (fun _ a1 a2 a3 a4 a5 a6 a7 a8 a9 a10 a11 a12 a13 a14 a15 v => N16.mk v a1 a2 a3 a4 a5 a6 a7 a8 a9 a10 a11 a12 a13 a14 a15) e v
noncomputable def set1 (v : α) (e : N16 α) : N16 α := N16.rec (motive := fun _ => α → N16 α) (fun a0 _ a2 a3 a4 a5 a6 a7 a8 a9 a10 a11 a12 a13 a14 a15 v => N16.mk a0 v a2 a3 a4 a5 a6 a7 a8 a9 a10 a11 a12 a13 a14 a15) e v
noncomputable def set2 (v : α) (e : N16 α) : N16 α := N16.rec (motive := fun _ => α → N16 α) (fun a0 a1 _ a3 a4 a5 a6 a7 a8 a9 a10 a11 a12 a13 a14 a15 v => N16.mk a0 a1 v a3 a4 a5 a6 a7 a8 a9 a10 a11 a12 a13 a14 a15) e v
noncomputable def set3 (v : α) (e : N16 α) : N16 α := N16.rec (motive := fun _ => α → N16 α) (fun a0 a1 a2 _ a4 a5 a6 a7 a8 a9 a10 a11 a12 a13 a14 a15 v => N16.mk a0 a1 a2 v a4 a5 a6 a7 a8 a9 a10 a11 a12 a13 a14 a15) e v
noncomputable def set4 (v : α) (e : N16 α) : N16 α := N16.rec (motive := fun _ => α → N16 α) (fun a0 a1 a2 a3 _ a5 a6 a7 a8 a9 a10 a11 a12 a13 a14 a15 v => N16.mk a0 a1 a2 a3 v a5 a6 a7 a8 a9 a10 a11 a12 a13 a14 a15) e v
noncomputable def set5 (v : α) (e : N16 α) : N16 α := N16.rec (motive := fun _ => α → N16 α) (fun a0 a1 a2 a3 a4 _ a6 a7 a8 a9 a10 a11 a12 a13 a14 a15 v => N16.mk a0 a1 a2 a3 a4 v a6 a7 a8 a9 a10 a11 a12 a13 a14 a15) e v
noncomputable def set6 (v : α) (e : N16 α) : N16 α := N16.rec (motive := fun _ => α → N16 α) (fun a0 a1 a2 a3 a4 a5 _ a7 a8 a9 a10 a11 a12 a13 a14 a15 v => N16.mk a0 a1 a2 a3 a4 a5 v a7 a8 a9 a10 a11 a12 a13 a14 a15) e v
noncomputable def set7 (v : α) (e : N16 α) : N16 α := N16.rec (motive := fun _ => α → N16 α) (fun a0 a1 a2 a3 a4 a5 a6 _ a8 a9 a10 a11 a12 a13 a14 a15 v => N16.mk a0 a1 a2 a3 a4 a5 a6 v a8 a9 a10 a11 a12 a13 a14 a15) e v
noncomputable def set8 (v : α) (e : N16 α) : N16 α := N16.rec (motive := fun _ => α → N16 α) (fun a0 a1 a2 a3 a4 a5 a6 a7 _ a9 a10 a11 a12 a13 a14 a15 v => N16.mk a0 a1 a2 a3 a4 a5 a6 a7 v a9 a10 a11 a12 a13 a14 a15) e v
noncomputable def set9 (v : α) (e : N16 α) : N16 α := N16.rec (motive := fun _ => α → N16 α) (fun a0 a1 a2 a3 a4 a5 a6 a7 a8 _ a10 a11 a12 a13 a14 a15 v => N16.mk a0 a1 a2 a3 a4 a5 a6 a7 a8 v a10 a11 a12 a13 a14 a15) e v
noncomputable def qix (v : α) (e : N16 α) : N16 α := N16.rec (motive := fun _ => α → N16 α) (fun a0 a1 a2 a3 a4 a5 a6 a7 a8 a9 _ a11 a12 a13 a14 a15 v => N16.mk a0 a1 a2 a3 a4 a5 a6 a7 a8 a9 v a11 a12 a13 a14 a15) e v
noncomputable def qht (v : α) (e : N16 α) : N16 α := N16.rec (motive := fun _ => α → N16 α) (fun a0 a1 a2 a3 a4 a5 a6 a7 a8 a9 a10 _ a12 a13 a14 a15 v => N16.mk a0 a1 a2 a3 a4 a5 a6 a7 a8 a9 a10 v a12 a13 a14 a15) e v
noncomputable def qik (v : α) (e : N16 α) : N16 α := N16.rec (motive := fun _ => α → N16 α) (fun a0 a1 a2 a3 a4 a5 a6 a7 a8 a9 a10 a11 _ a13 a14 a15 v => N16.mk a0 a1 a2 a3 a4 a5 a6 a7 a8 a9 a10 a11 v a13 a14 a15) e v
noncomputable def qi0 (v : α) (e : N16 α) : N16 α := N16.rec (motive := fun _ => α → N16 α) (fun a0 a1 a2 a3 a4 a5 a6 a7 a8 a9 a10 a11 a12 _ a14 a15 v => N16.mk a0 a1 a2 a3 a4 a5 a6 a7 a8 a9 a10 a11 a12 v a14 a15) e v
noncomputable def qil (v : α) (e : N16 α) : N16 α := N16.rec (motive := fun _ => α → N16 α) (fun a0 a1 a2 a3 a4 a5 a6 a7 a8 a9 a10 a11 a12 a13 _ a15 v => N16.mk a0 a1 a2 a3 a4 a5 a6 a7 a8 a9 a10 a11 a12 a13 v a15) e v
noncomputable def qi3 (v : α) (e : N16 α) : N16 α := N16.rec (motive := fun _ => α → N16 α) (fun a0 a1 a2 a3 a4 a5 a6 a7 a8 a9 a10 a11 a12 a13 a14 _ v => N16.mk a0 a1 a2 a3 a4 a5 a6 a7 a8 a9 a10 a11 a12 a13 a14 v) e v
noncomputable def get (i : Ix) : N16 α → α := Ix.rec f0 f1 f2 f3 f4 f5 f6 f7 f8 f9 f10 f11 f12 f13 f14 f15 i
noncomputable def set (i : Ix) : α → N16 α → N16 α := Ix.rec set0 set1 set2 set3 set4 set5 set6 set7 set8 set9 qix qht qik qi0 qil qi3 i
def all (v : α) : N16 α := ⟨v,v,v,v,v,v,v,v,v,v,v,v,v,v,v,v⟩
theorem get_all (v : α) (i : Ix) : get i (all v) = v := by cases i <;> rfl
theorem get_set_same (i : Ix) (v : α) (e : N16 α) : get i (set i v e) = v := by cases e; cases i <;> rfl
theorem get_set_ne (i j : Ix) (v : α) (e : N16 α) (h : i ≠ j) : get j (set i v e) = get j e := by
 cases e; cases i <;> cases j <;> first | rfl | exact absurd rfl h
end N16
noncomputable def ix (n : Nat) : Ix :=
 (Bool.rec (Bool.rec (Bool.rec (Bool.rec .i15 .i14 (Nat.ble (Nat.succ n) 15)) (Bool.rec .i13 .i12 (Nat.ble (Nat.succ n) 13)) (Nat.ble (Nat.succ n) 14)) (Bool.rec (Bool.rec .i11 .i10 (Nat.ble (Nat.succ n) 11)) (Bool.rec .i9 .i8 (Nat.ble (Nat.succ n) 9)) (Nat.ble (Nat.succ n) 10)) (Nat.ble (Nat.succ n) 12)) (Bool.rec (Bool.rec (Bool.rec .i7 .i6 (Nat.ble (Nat.succ n) 7)) (Bool.rec .i5 .i4 (Nat.ble (Nat.succ n) 5)) (Nat.ble (Nat.succ n) 6)) (Bool.rec (Bool.rec .i3 .i2 (Nat.ble (Nat.succ n) 3)) (Bool.rec .i1 .i0 (Nat.ble (Nat.succ n) 1)) (Nat.ble (Nat.succ n) 2)) (Nat.ble (Nat.succ n) 4)) (Nat.ble (Nat.succ n) 8))
theorem qfq {a b : Nat} (ha : a < 16) (hb : b < 16) (h : ix a = ix b) : a = b := by
 have key : ∀ a : Fin 16,∀ b : Fin 16,ix a.val = ix b.val → a = b := by
  intro a b
  match a,b with
  | ⟨a,ha⟩,⟨b,hb⟩ =>
   intro h
   have : a = 0 ∨ a = 1 ∨ a = 2 ∨ a = 3 ∨ a = 4 ∨ a = 5 ∨ a = 6 ∨ a = 7 ∨ a = 8 ∨ a = 9 ∨ a = 10 ∨ a = 11 ∨ a = 12 ∨ a = 13 ∨ a = 14 ∨ a = 15 := by omega
   have : b = 0 ∨ b = 1 ∨ b = 2 ∨ b = 3 ∨ b = 4 ∨ b = 5 ∨ b = 6 ∨ b = 7 ∨ b = 8 ∨ b = 9 ∨ b = 10 ∨ b = 11 ∨ b = 12 ∨ b = 13 ∨ b = 14 ∨ b = 15 := by omega
   rcases ‹a = 0 ∨ _› with rfl | rfl | rfl | rfl | rfl | rfl | rfl | rfl | rfl | rfl | rfl | rfl | rfl | rfl | rfl | rfl <;>
   rcases ‹b = 0 ∨ _› with rfl | rfl | rfl | rfl | rfl | rfl | rfl | rfl | rfl | rfl | rfl | rfl | rfl | rfl | rfl | rfl <;>
   first | rfl | (simp [ix] at h)
 have := key ⟨a,ha⟩ ⟨b,hb⟩ h
 exact Fin.mk.inj this
noncomputable def dg (k n : Nat) : Ix := ix (Nat.mod (Nat.shiftRight n k) 16)
theorem wF (k n : Nat) : dg k n = ix (n / 2 ^ k % 16) := by
 show ix ((n >>> k) % 16) = _
 rw [Nat.shiftRight_eq_div_pow]
theorem Zr {k a b : Nat} (h : dg k a = dg k b) : a / 2 ^ k % 16 = b / 2 ^ k % 16 := by
 rw [wF,wF] at h
 exact qfq (Nat.mod_lt _ (by decide)) (Nat.mod_lt _ (by decide)) h
section
variable {α : Type}
abbrev T2 (α : Type) := N16 (N16 α)
abbrev T3 (α : Type) := N16 (T2 α)
abbrev T5 (α : Type) := N16 (N16 (T3 α))
noncomputable def get2 (n : Nat) (t : T2 α) : α := N16.get (dg 0 n) (N16.get (dg 4 n) t)
noncomputable def set2 (n : Nat) (v : α) (t : T2 α) : T2 α := N16.set (dg 4 n) (N16.set (dg 0 n) v (N16.get (dg 4 n) t)) t
noncomputable def get3 (n : Nat) (t : T3 α) : α := get2 n (N16.get (dg 8 n) t)
noncomputable def set3 (n : Nat) (v : α) (t : T3 α) : T3 α := N16.set (dg 8 n) (set2 n v (N16.get (dg 8 n) t)) t
noncomputable def get5 (n : Nat) (t : T5 α) : α := get3 n (N16.get (dg 12 n) (N16.get (dg 16 n) t))
noncomputable def set5 (n : Nat) (v : α) (t : T5 α) : T5 α :=
 N16.set (dg 16 n) (N16.set (dg 12 n) (set3 n v (N16.get (dg 12 n) (N16.get (dg 16 n) t))) (N16.get (dg 16 n) t)) t
def all2 (v : α) : T2 α := .all (.all v)
def all3 (v : α) : T3 α := .all (all2 v)
def all5 (v : α) : T5 α := .all (.all (all3 v))
theorem Jz (n : Nat) (v : α) : get2 n (all2 v) = v := by simp [get2,all2,N16.get_all]
theorem zX (n : Nat) (v : α) (t : T2 α) : get2 n (set2 n v t) = v := by simp [get2,set2,N16.get_set_same]
theorem yg (n : Nat) (v : α) (t : T3 α) : get3 n (set3 n v t) = v := by simp [get3,set3,N16.get_set_same,zX]
theorem qg (n : Nat) (v : α) (t : T5 α) : get5 n (set5 n v t) = v := by simp [get5,set5,N16.get_set_same,yg]
theorem kz (n m : Nat) (v : α) (t : T2 α) (h : n % 256 ≠ m % 256) : get2 m (set2 n v t) = get2 m t := by
 unfold get2 set2
 by_cases h1 : dg 4 n = dg 4 m
 ·rw [← h1,N16.get_set_same,N16.get_set_ne]
  intro h0
  have e1 := Zr h1
  have e0 := Zr h0
  simp at e0 e1
  omega
 ·rw [N16.get_set_ne _ _ _ _ h1]
theorem QB (n m : Nat) (v : α) (t : T3 α) (h : n % 4096 ≠ m % 4096) : get3 m (set3 n v t) = get3 m t := by
 unfold get3 set3
 by_cases h1 : dg 8 n = dg 8 m
 ·rw [← h1,N16.get_set_same,kz]
  have e1 := Zr h1
  simp at e1
  omega
 ·rw [N16.get_set_ne _ _ _ _ h1]
theorem KF (n m : Nat) (v : α) (t : T5 α) (h : n % 1048576 ≠ m % 1048576) : get5 m (set5 n v t) = get5 m t := by
 unfold get5 set5
 by_cases h2 : dg 16 n = dg 16 m
 ·rw [← h2,N16.get_set_same]
  by_cases h1 : dg 12 n = dg 12 m
  ·rw [← h1,N16.get_set_same,QB]
   have e1 := Zr h1
   have e2 := Zr h2
   simp at e1 e2
   omega
  ·rw [N16.get_set_ne _ _ _ _ h1]
 ·rw [N16.get_set_ne _ _ _ _ h2]
end
end Go.Ev
end
section
namespace Go.Ev
def digs : Nat → Nat → List UInt8
 | 0,_ => []
 | n + 1,x => UInt8.ofNat (x / 256 ^ n) :: digs n x
theorem jK : ∀ (n x : Nat),(digs n x).length = n
 | 0,_ => rfl
 | n + 1,x => by simp [digs,jK n x]
theorem Zz {a b : Nat} (h : a % 256 = b % 256) : UInt8.ofNat a = UInt8.ofNat b := by
 apply UInt8.toNat_inj.1
 simp [UInt8.toNat_ofNat',h]
theorem J4 {a b : Nat} (h : UInt8.ofNat a = UInt8.ofNat b) : a % 256 = b % 256 := by
 have := congrArg UInt8.toNat h
 simpa [UInt8.toNat_ofNat'] using this
theorem wM (n : Nat) : 0 < 256 ^ n := Nat.pow_pos (by decide)
theorem yb : ∀ (n a x : Nat),digs n (a * 256 ^ n + x) = digs n x := by
 intro n
 induction n with
 | zero => intro a x; rfl
 | succ n ih =>
  intro a x
  simp only [digs]
  have e : a * 256 ^ (n + 1) + x = (a * 256) * 256 ^ n + x := by rw [Nat.pow_succ,Nat.mul_comm (256 ^ n) 256,Nat.mul_assoc]
  rw [e,ih]
  congr 1
  apply Zz
  rw [Nat.add_comm,Nat.add_mul_div_right _ _ (wM n)]
  omega
theorem qbu (n x : Nat) : digs n (x % 256 ^ n) = digs n x := by
 conv => rhs; rw [← Nat.mod_add_div x (256 ^ n)]
 rw [Nat.add_comm,Nat.mul_comm,yb]
theorem yn (n m x y : Nat) (h : y < 256 ^ m) : digs (n + m) (x * 256 ^ m + y) = digs n x ++ digs m y := by
 induction n with
 | zero => rw [Nat.zero_add,yb]; rfl
 | succ n ih =>
  have e : n + 1 + m = (n + m) + 1 := by omega
  rw [e]
  simp only [digs,List.cons_append,ih]
  congr 2
  rw [Nat.pow_add,Nat.mul_comm (256 ^ n),← Nat.div_div_eq_div_mul,Nat.add_comm,Nat.add_mul_div_right _ _ (wM m),Nat.div_eq_of_lt h,Nat.zero_add]
theorem Xx : ∀ (a n x : Nat),(digs n x).drop a = digs (n - a) x := by
 intro a
 induction a with
 | zero => intro n x; rfl
 | succ a ih =>
  intro n x
  cases n with
  | zero => simp [digs]
  | succ n => simp only [digs,List.drop_succ_cons,ih]; congr 1; omega
theorem XH : ∀ (b n x : Nat),b ≤ n → (digs n x).take b = digs b (x / 256 ^ (n - b)) := by
 intro b n
 induction n generalizing b with
 | zero =>
  intro x h; have : b = 0 := by omega
  subst this; simp [digs]
 | succ n ih =>
  intro x h
  cases b with
  | zero => simp [digs]
  | succ b =>
   simp only [digs,List.take_succ_cons]
   rw [ih b x (by omega)]
   have e1 : n + 1 - (b + 1) = n - b := by omega
   rw [e1]
   congr 2
   rw [Nat.div_div_eq_div_mul,← Nat.pow_add]
   congr 2
   omega
theorem V5 (n x a b : Nat) (hb : b ≤ n) (hab : a ≤ b) :
  ((digs n x).drop a).take (b - a) = digs (b - a) (x / 256 ^ (n - b) % 256 ^ (b - a)) := by
 rw [Xx,XH _ _ _ (by omega),qbu]
 congr 3
 omega
theorem JP : ∀ (n x i : Nat),i < n → (digs n x)[i]? = some (UInt8.ofNat (x / 256 ^ (n - 1 - i))) := by
 intro n
 induction n with
 | zero => intro x i h; omega
 | succ n ih =>
  intro x i h
  cases i with
  | zero => simp [digs]
  | succ i =>
   simp only [digs,List.getElem?_cons_succ]
   rw [ih x i (by omega)]
   have : n - 1 - i = n + 1 - 1 - (i + 1) := by omega
   rw [this]
theorem YG : ∀ (n x y : Nat),digs n x = digs n y → x % 256 ^ n = y % 256 ^ n := by
 intro n
 induction n with
 | zero => intro x y _; simp [Nat.mod_one]
 | succ n ih =>
  intro x y h
  simp only [digs,List.cons.injEq] at h
  have h1 := J4 h.1
  have h2 := ih x y h.2
  rw [Nat.pow_succ,Nat.mod_mul,Nat.mod_mul,h2,h1]
theorem qdk {n m x y : Nat} (hx : x < 256 ^ n) (hy : y < 256 ^ m) : digs n x = digs m y ↔ n = m ∧ x = y := by
 constructor
 ·intro h
  have hl := congrArg List.length h
  rw [jK,jK] at hl
  subst hl
  refine ⟨rfl,?_⟩
  have := YG n x y h
  rwa [Nat.mod_eq_of_lt hx,Nat.mod_eq_of_lt hy] at this
 ·rintro ⟨rfl,rfl⟩; rfl
def numL : Nat → List UInt8 → Nat
 | acc,[] => acc
 | acc,b :: l => numL (acc * 256 + b.toNat) l
theorem WE : ∀ (l : List UInt8) (acc : Nat),numL acc l = acc * 256 ^ l.length + numL 0 l := by
 intro l
 induction l with
 | nil => intro acc; simp [numL]
 | cons b l ih =>
  intro acc
  simp only [numL,List.length_cons]
  rw [ih,ih (0 * 256 + b.toNat),Nat.pow_succ,Nat.zero_mul,Nat.zero_add,Nat.add_mul,Nat.mul_assoc,Nat.mul_comm 256,Nat.add_assoc]
theorem Kl : ∀ (l : List UInt8),numL 0 l < 256 ^ l.length := by
 intro l
 induction l with
 | nil => simp [numL]
 | cons b l ih =>
  simp only [numL,List.length_cons,Nat.zero_mul,Nat.zero_add]
  rw [WE,Nat.pow_succ]
  have hb := b.toNat_lt
  have : b.toNat * 256 ^ l.length + 256 ^ l.length ≤ 256 ^ l.length * 256 := by
   rw [← Nat.succ_mul,Nat.mul_comm]
   exact Nat.mul_le_mul_left _ (by omega)
  omega
theorem JZ : ∀ (l : List UInt8),digs l.length (numL 0 l) = l := by
 intro l
 induction l with
 | nil => rfl
 | cons b l ih =>
  simp only [numL,List.length_cons,digs,Nat.zero_mul,Nat.zero_add]
  rw [WE,yb,ih]
  congr 1
  rw [Nat.add_comm,Nat.add_mul_div_right _ _ (wM _),Nat.div_eq_of_lt (Kl l),Nat.zero_add]
  exact UInt8.ofNat_toNat
def dec (n x : Nat) : ByteArray := ⟨(digs n x).toArray⟩
theorem kW (n x : Nat) : (dec n x).size = n := by
 show (digs n x).toArray.size = n
 simp [jK]
theorem Qu (n x : Nat) : (dec n x).data.toList = digs n x := rfl
theorem Yf (b : ByteArray) : dec b.data.toList.length (numL 0 b.data.toList) = b := by
 unfold dec
 rw [JZ]
end Go.Ev
end
section
namespace Go.Ev
inductive AVal where
 | und
 | bool (b : Bool)
 | int (k : IntKind) (n : Int)
 | str (len x : Nat)
 | ptr (b off : Nat)
 | nilPtr
 | slice (b off len esz : Nat) (full : Bool)
 | nilSlice
 | map (b : Nat)
 | nilMap
 | func (fn : Fn) (first captured : List AVal)
 | nilFunc
 | iface (t : TypeId) (v : AVal)
 | nilIface
 | agg (cs : List AVal)
 | tuple (vs : List AVal)
 | anyInt (k : IntKind) (m i : Nat)
 | anyBool
 | gptr (g off : Nat)
 | anyStr (i : Nat)
def qj5 (n : Int) (m : Nat) : Int := if n.tmod m < 0 then n.tmod m + m else n.tmod m
def qF (a b : Int) : Prop := ∃ q : Int,a = b + q * 18446744073709551616
class GTab where
 tab : Nat → Option (List AVal)
 val : Nat → Int := fun _ => 0
 blk : Nat → Option Obj := fun _ => none
 txt : Nat → ByteArray := fun _ => .empty
 cat : Nat → Nat → Nat → Option Nat := fun _ _ _ => none
 catL : Nat → Nat → Nat → Option Nat := fun _ _ _ => none
 con : Int → Option Nat := fun _ => none
 lit : Nat → Option Int := fun _ => none
 add : Nat → Nat → Option Nat := fun _ _ => none
 sub : Nat → Nat → Option Nat := fun _ _ => none
 mul : Nat → Nat → Option Nat := fun _ _ => none
 quo : Nat → Nat → Option Nat := fun _ _ => none
 rem : Nat → Nat → Option Nat := fun _ _ => none
 eq : Nat → Nat → Option Bool := fun _ _ => none
 lt : Nat → Nat → Option Bool := fun _ _ => none
 catOK : ∀ i n x r,cat i n x = some r → txt r = txt i ++ dec n x ∧ (txt i).size + n ≤ 9223372036854775807 := by intro i n x r h; cases h
 catLOK : ∀ n x i r,catL n x i = some r → txt r = dec n x ++ txt i ∧ n + (txt i).size ≤ 9223372036854775807 := by intro i n x r h; cases h
 conOK : ∀ n i,con n = some i → qF n (val i) := by intro n i h; cases h
 litOK : ∀ i n,lit i = some n → qF n (val i) := by intro i n h; cases h
 addOK : ∀ i j r,add i j = some r → qF (val i + val j) (val r) := by intro i j r h; cases h
 subOK : ∀ i j r,sub i j = some r → qF (val i - val j) (val r) := by intro i j r h; cases h
 mulOK : ∀ i j r,mul i j = some r → qF (val i * val j) (val r) := by intro i j r h; cases h
 quoOK : ∀ i j r,quo i j = some r → IntKind.i64.wrap (val j) ≠ 0 ∧ qF ((IntKind.i64.wrap (val i)).tdiv (IntKind.i64.wrap (val j))) (val r) := by intro i j r h; cases h
 remOK : ∀ i j r,rem i j = some r → IntKind.i64.wrap (val j) ≠ 0 ∧ qF ((IntKind.i64.wrap (val i)).tmod (IntKind.i64.wrap (val j))) (val r) := by intro i j r h; cases h
 eqOK : ∀ i j b,eq i j = some b → (b = true ↔ qF (val i) (val j)) := by intro i j b h; cases h
 ltOK : ∀ i j b,lt i j = some b → b = decide (IntKind.i64.wrap (val i) < IntKind.i64.wrap (val j)) := by intro i j b h; cases h
variable [GTab]
def vM (k : IntKind) (m i : Nat) (n : Int) : Prop := if m = 65536 then n = k.wrap (GTab.val i) else (m ≠ 0 → qj5 n m = (i : Int))
abbrev Sg := Nat → Option (Nat × Nat)
mutual
inductive Den (σ : Sg) : AVal → Value → Prop
 | und (v : Value) : Den σ .und v
 | bool (b : Bool) : Den σ (.bool b) (.bool b)
 | int (k : IntKind) (n : Int) : Den σ (.int k n) (.int k n)
 | str (n x : Nat) (h : x < 256 ^ n) : Den σ (.str n x) (.string (dec n x))
 | ptr {b off cb sz : Nat} (h : σ b = some (cb,sz)) : Den σ (.ptr b off) (.pointer (some ⟨cb,off,none⟩))
 | nilPtr : Den σ .nilPtr (.pointer none)
 | slice {b off len esz cb sz cap : Nat} {full : Bool} (h : σ b = some (cb,sz)) (h1 : len ≤ cap) (h2 : off + cap * esz ≤ sz) (h3 : full = true → cap = len) :
   Den σ (.slice b off len esz full) (.slice (some ⟨cb,off,none⟩) len cap)
 | slice0 {b off off' esz cb sz : Nat} {full : Bool} (h : σ b = some (cb,sz)) : Den σ (.slice b off 0 esz full) (.slice (some ⟨cb,off',none⟩) 0 0)
 | nilSlice : Den σ .nilSlice (.slice none 0 0)
 | map {b cb sz : Nat} (h : σ b = some (cb,sz)) : Den σ (.map b) (.map (some cb))
 | nilMap : Den σ .nilMap (.map none)
 | func {fn : Fn} {a b : List AVal} {a' b' : List Value} (h1 : DenL σ a a') (h2 : DenL σ b b') : Den σ (.func fn a b) (.func fn ⟨a'⟩ ⟨b'⟩)
 | nilFunc : Den σ .nilFunc .nilFunc
 | iface {t : TypeId} {v : AVal} {v' : Value} (h : Den σ v v') : Den σ (.iface t v) (.iface t v')
 | nilIface : Den σ .nilIface .nilIface
 | agg {a : List AVal} {a' : List Value} (h : DenL σ a a') : Den σ (.agg a) (.agg ⟨a'⟩)
 | tuple {a : List AVal} {a' : List Value} (h : DenL σ a a') : Den σ (.tuple a) (.tuple ⟨a'⟩)
 | anyInt (k : IntKind) (m i : Nat) (n : Int) (h : vM k m i n) : Den σ (.anyInt k m i) (.int k n)
 | anyBool (b : Bool) : Den σ .anyBool (.bool b)
 | gptr (g off : Nat) : Den σ (.gptr g off) (.pointer (some ⟨g,off,none⟩))
 | anyStr (i : Nat) : Den σ (.anyStr i) (.string (GTab.txt i))
inductive DenL (σ : Sg) : List AVal → List Value → Prop
 | nil : DenL σ [] []
 | cons {v : AVal} {v' : Value} {l : List AVal} {l' : List Value} (h : Den σ v v') (t : DenL σ l l') : DenL σ (v :: l) (v' :: l')
end
mutual
theorem Den.mono {σ σ' : Sg} (hs : ∀ b p,σ b = some p → σ' b = some p) : ∀ {v : AVal} {v' : Value},Den σ v v' → Den σ' v v'
 | _,_,.und v => .und v
 | _,_,.bool b => .bool b
 | _,_,.int k n => .int k n
 | _,_,.str n x h => .str n x h
 | _,_,.ptr h => .ptr (hs _ _ h)
 | _,_,.nilPtr => .nilPtr
 | _,_,.slice h h1 h2 h3 => .slice (hs _ _ h) h1 h2 h3
 | _,_,.slice0 h => .slice0 (hs _ _ h)
 | _,_,.nilSlice => .nilSlice
 | _,_,.map h => .map (hs _ _ h)
 | _,_,.nilMap => .nilMap
 | _,_,.func h1 h2 => .func (DenL.mono hs h1) (DenL.mono hs h2)
 | _,_,.nilFunc => .nilFunc
 | _,_,.iface h => .iface (Den.mono hs h)
 | _,_,.nilIface => .nilIface
 | _,_,.agg h => .agg (DenL.mono hs h)
 | _,_,.tuple h => .tuple (DenL.mono hs h)
 | _,_,.anyInt k m i n h => .anyInt k m i n h
 | _,_,.anyBool b => .anyBool b
 | _,_,.gptr g off => .gptr g off
 | _,_,.anyStr i => .anyStr i
theorem DenL.mono {σ σ' : Sg} (hs : ∀ b p,σ b = some p → σ' b = some p) : ∀ {v : List AVal} {v' : List Value},DenL σ v v' → DenL σ' v v'
 | _,_,.nil => .nil
 | _,_,.cons h t => .cons (Den.mono hs h) (DenL.mono hs t)
end
theorem DenL.length {σ : Sg} : ∀ {l : List AVal} {l' : List Value},DenL σ l l' → l.length = l'.length
 | _,_,.nil => rfl
 | _,_,.cons _ t => by simp [DenL.length t]
theorem DenL.append {σ : Sg} : ∀ {l : List AVal} {l' : List Value} {m : List AVal} {m' : List Value},DenL σ l l' → DenL σ m m' → DenL σ (l ++ m) (l' ++ m')
 | _,_,_,_,.nil,h => h
 | _,_,_,_,.cons h t,h' => .cons h (DenL.append t h')
theorem DenL.get {σ : Sg} : ∀ {l : List AVal} {l' : List Value},DenL σ l l' → ∀ (i : Nat) (v : AVal),l[i]? = some v → ∃ v',l'[i]? = some v' ∧ Den σ v v'
 | _,_,.nil,i,v,h => by simp at h
 | _,_,.cons h t,0,v,e => by simp at e; subst e; exact ⟨_,by simp,h⟩
 | _,_,.cons h t,i + 1,v,e => by simp at e; simpa using DenL.get t i v e
theorem DenL.drop {σ : Sg} : ∀ {l : List AVal} {l' : List Value},DenL σ l l' → ∀ n,DenL σ (l.drop n) (l'.drop n)
 | _,_,.nil,n => by simp; exact .nil
 | _,_,.cons h t,0 => .cons h t
 | _,_,.cons h t,n + 1 => by simpa using DenL.drop t n
theorem DenL.take {σ : Sg} : ∀ {l : List AVal} {l' : List Value},DenL σ l l' → ∀ n,DenL σ (l.take n) (l'.take n)
 | _,_,.nil,n => by simp; exact .nil
 | _,_,.cons h t,0 => by simp; exact .nil
 | _,_,.cons h t,n + 1 => by simpa using DenL.cons h (DenL.take t n)
theorem DenL.of_get {σ : Sg} : ∀ {l : List AVal} {l' : List Value},l.length = l'.length → (∀ (i : Nat) (v : AVal) (v' : Value),l[i]? = some v → l'[i]? = some v' → Den σ v v') → DenL σ l l'
 | [],[],_,_ => .nil
 | [],_ :: _,h,_ => by simp at h
 | _ :: _,[],h,_ => by simp at h
 | _ :: l,_ :: l',h,hh => .cons (hh 0 _ _ (by simp) (by simp)) (DenL.of_get (by simpa using h) fun i v v' e e' => hh (i + 1) v v' (by simpa using e) (by simpa using e'))
inductive CT where
 | c1 (t : N16 AVal)
 | c2 (t : T2 AVal)
 | c3 (t : T3 AVal)
namespace CT
def cap : CT → Nat
 | .c1 _ => 16
 | .c2 _ => 256
 | .c3 _ => 4096
noncomputable def get (i : Nat) (c : CT) : AVal :=
 CT.rec (fun t i => N16.get (dg 0 i) t) (fun t i => get2 i t) (fun t i => get3 i t) c i
noncomputable def set (i : Nat) (v : AVal) (c : CT) : CT :=
 CT.rec (fun t i v => .c1 (N16.set (dg 0 i) v t)) (fun t i v => .c2 (set2 i v t)) (fun t i v => .c3 (set3 i v t)) c i v
theorem wV (i : Nat) (v : AVal) (c : CT) : (set i v c).cap = c.cap := by cases c <;> rfl
theorem get_set_same (i : Nat) (v : AVal) (c : CT) : get i (set i v c) = v := by
 cases c with
 | c1 t => exact N16.get_set_same _ _ _
 | c2 t => exact zX _ _ _
 | c3 t => exact yg _ _ _
theorem get_set_ne (i j : Nat) (v : AVal) (c : CT) (h : i ≠ j) (hi : i < c.cap) (hj : j < c.cap) : get j (set i v c) = get j c := by
 cases c with
 | c1 t =>
  refine N16.get_set_ne _ _ _ _ (fun e => h ?_)
  have := Zr e
  simp [cap] at *
  omega
 | c2 t => exact kz _ _ _ _ (by simp [cap] at *; omega)
 | c3 t => exact QB _ _ _ _ (by simp [cap] at *; omega)
noncomputable def nth (l : List AVal) : Nat → AVal := List.rec (fun _ => .und) (fun v _ ih i => Nat.rec v (fun j _ => ih j) i) l
theorem qbq : ∀ (l : List AVal) (i : Nat),nth l i = l.getD i .und
 | [],_ => by simp [nth]
 | v :: l,0 => rfl
 | v :: l,i + 1 => by
  show nth l i = _
  rw [qbq l i]; simp
noncomputable def rest (l : List AVal) (n : Nat) : List AVal := Nat.rec (fun l => l) (fun _ ih l => List.rec [] (fun _ t _ => ih t) l) n l
theorem Ko : ∀ (n : Nat) (l : List AVal),rest l n = l.drop n
 | 0,l => rfl
 | n + 1,[] => by simp [rest]
 | n + 1,_ :: l => by
  show rest l n = _
  rw [Ko n l]; simp
noncomputable def of1 (l : List AVal) : N16 AVal :=
 ⟨nth l 0,nth l 1,nth l 2,nth l 3,nth l 4,nth l 5,nth l 6,nth l 7,nth l 8,nth l 9,nth l 10,nth l 11,nth l 12,nth l 13,nth l 14,nth l 15⟩
noncomputable def of2 (l : List AVal) : T2 AVal :=
 ⟨of1 l,of1 (rest l 16),of1 (rest l 32),of1 (rest l 48),of1 (rest l 64),of1 (rest l 80),of1 (rest l 96),of1 (rest l 112),of1 (rest l 128),of1 (rest l 144),of1 (rest l 160),of1 (rest l 176),of1 (rest l 192),of1 (rest l 208),of1 (rest l 224),of1 (rest l 240)⟩
noncomputable def of3 (l : List AVal) : T3 AVal :=
 ⟨of2 l,of2 (rest l 256),of2 (rest l 512),of2 (rest l 768),of2 (rest l 1024),of2 (rest l 1280),of2 (rest l 1536),of2 (rest l 1792),of2 (rest l 2048),of2 (rest l 2304),of2 (rest l 2560),of2 (rest l 2816),of2 (rest l 3072),of2 (rest l 3328),of2 (rest l 3584),of2 (rest l 3840)⟩
theorem Jk {a : Nat} (h : a < 16) (p : Nat → Prop) (h0 : p 0) (h1 : p 1) (h2 : p 2) (h3 : p 3) (h4 : p 4) (h5 : p 5) (h6 : p 6) (h7 : p 7) (h8 : p 8) (h9 : p 9) (h10 : p 10) (h11 : p 11) (h12 : p 12) (h13 : p 13) (h14 : p 14) (h15 : p 15) : p a := by
 have : a = 0 ∨ a = 1 ∨ a = 2 ∨ a = 3 ∨ a = 4 ∨ a = 5 ∨ a = 6 ∨ a = 7 ∨ a = 8 ∨ a = 9 ∨ a = 10 ∨ a = 11 ∨ a = 12 ∨ a = 13 ∨ a = 14 ∨ a = 15 := by omega
 rcases this with rfl | rfl | rfl | rfl | rfl | rfl | rfl | rfl | rfl | rfl | rfl | rfl | rfl | rfl | rfl | rfl <;> assumption
theorem Kv (l : List AVal) (a : Nat) (h : a < 16) : N16.get (ix a) (of1 l) = l.getD a .und := by
 refine Jk h (fun a => N16.get (ix a) (of1 l) = l.getD a .und) ?_ ?_ ?_ ?_ ?_ ?_ ?_ ?_ ?_ ?_ ?_ ?_ ?_ ?_ ?_ ?_ <;> exact qbq l _
theorem JT (l : List AVal) (n i : Nat) : (l.drop n).getD i .und = l.getD (n + i) .und := by simp [List.getD]
theorem WR (l : List AVal) (i : Nat) (h : i < 256) : get2 i (of2 l) = l.getD i .und := by
 unfold get2
 rw [wF 0,wF 4]
 have ha : i / 2 ^ 4 % 16 < 16 := Nat.mod_lt _ (by decide)
 have hb : i / 2 ^ 0 % 16 < 16 := Nat.mod_lt _ (by decide)
 have key : ∀ a,a < 16 → N16.get (ix (i / 2 ^ 0 % 16)) (N16.get (ix a) (of2 l)) = l.getD (a * 16 + i / 2 ^ 0 % 16) .und := by
  intro a ha
  refine Jk ha (fun a => N16.get (ix (i / 2 ^ 0 % 16)) (N16.get (ix a) (of2 l)) = l.getD (a * 16 + i / 2 ^ 0 % 16) .und) ?_ ?_ ?_ ?_ ?_ ?_ ?_ ?_ ?_ ?_ ?_ ?_ ?_ ?_ ?_ ?_
  ·rw [Nat.zero_mul,Nat.zero_add]; exact Kv l _ hb
  all_goals (refine (Kv (rest l _) _ hb).trans ?_; rw [Ko,JT])
 rw [key _ ha]
 congr 1
 omega
theorem qd0 (l : List AVal) (i : Nat) (h : i < 4096) : get3 i (of3 l) = l.getD i .und := by
 unfold get3
 rw [wF 8]
 have ha : i / 2 ^ 8 % 16 < 16 := Nat.mod_lt _ (by decide)
 have hm : ∀ m : List AVal,get2 i (of2 m) = m.getD (i % 256) .und := by
  intro m
  have e : ∀ t : T2 AVal,get2 i t = get2 (i % 256) t := by
   intro t
   unfold get2
   rw [wF 0,wF 4,wF 0,wF 4]
   have e1 : i / 2 ^ 4 % 16 = i % 256 / 2 ^ 4 % 16 := by omega
   have e2 : i / 2 ^ 0 % 16 = i % 256 / 2 ^ 0 % 16 := by omega
   rw [e1,e2]
  rw [e]
  exact WR m _ (Nat.mod_lt _ (by decide))
 have key : ∀ a,a < 16 → get2 i (N16.get (ix a) (of3 l)) = l.getD (a * 256 + i % 256) .und := by
  intro a ha
  refine Jk ha (fun a => get2 i (N16.get (ix a) (of3 l)) = l.getD (a * 256 + i % 256) .und) ?_ ?_ ?_ ?_ ?_ ?_ ?_ ?_ ?_ ?_ ?_ ?_ ?_ ?_ ?_ ?_
  ·rw [Nat.zero_mul,Nat.zero_add]; exact hm l
  all_goals (refine (hm (rest l _)).trans ?_; rw [Ko,JT])
 rw [key _ ha]
 congr 1
 omega
noncomputable def ofL (n : Nat) (l : List AVal) : CT := Bool.rec (Bool.rec (.c3 (of3 l)) (.c2 (of2 l)) (Nat.ble n 256)) (.c1 (of1 l)) (Nat.ble n 16)
theorem ofL_cap (n : Nat) (l : List AVal) (h : n ≤ 4096) : n ≤ (ofL n l).cap := by
 unfold ofL
 cases h1 : Nat.ble n 16 with
 | true => exact Nat.le_of_ble_eq_true h1
 | false =>
  cases h2 : Nat.ble n 256 with
  | true => exact Nat.le_of_ble_eq_true h2
  | false => exact h
theorem get_ofL (n : Nat) (l : List AVal) (i : Nat) (h : n ≤ 4096) (hi : i < n) : get i (ofL n l) = l.getD i .und := by
 unfold ofL
 cases h1 : Nat.ble n 16 with
 | true =>
  have := Nat.le_of_ble_eq_true h1
  show N16.get (dg 0 i) (of1 l) = _
  rw [wF]
  have e : i / 2 ^ 0 % 16 = i := by omega
  rw [e]
  exact Kv l i (by omega)
 | false =>
  cases h2 : Nat.ble n 256 with
  | true =>
   have := Nat.le_of_ble_eq_true h2
   exact WR l i (by omega)
  | false => exact qd0 l i (by omega)
noncomputable def slab (c : CT) (n : Nat) : Nat → List AVal := Nat.rec (fun _ => []) (fun _ ih i => get i c :: ih (Nat.succ i)) n
theorem QU (c : CT) (n i : Nat) : slab c (n + 1) i = get i c :: slab c n (i + 1) := rfl
theorem slab_length (c : CT) : ∀ (n i : Nat),(slab c n i).length = n
 | 0,_ => rfl
 | n + 1,i => by rw [QU,List.length_cons,slab_length c n]
theorem slab_get (c : CT) : ∀ (n i j : Nat),j < n → (slab c n i)[j]? = some (get (i + j) c)
 | 0,_,_,h => by omega
 | n + 1,i,0,_ => by simp [QU]
 | n + 1,i,j + 1,h => by
  rw [QU,List.getElem?_cons_succ,slab_get c n (i + 1) j (by omega)]
  congr 2
  omega
noncomputable def lay (l : List AVal) : Nat → CT → CT := List.rec (fun _ c => c) (fun v _ ih i c => ih (Nat.succ i) (set i v c)) l
theorem wE (v : AVal) (l : List AVal) (i : Nat) (c : CT) : lay (v :: l) i c = lay l (i + 1) (set i v c) := rfl
theorem lay_cap : ∀ (l : List AVal) (i : Nat) (c : CT),(lay l i c).cap = c.cap
 | [],_,_ => rfl
 | v :: l,i,c => by rw [wE,lay_cap l,wV]
theorem lay_get : ∀ (l : List AVal) (i : Nat) (c : CT) (j : Nat),i + l.length ≤ c.cap → j < c.cap →
  get j (lay l i c) = if i ≤ j ∧ j < i + l.length then l.getD (j - i) .und else get j c
 | [],i,c,j,_,_ => by
  have : ¬ (i ≤ j ∧ j < i + ([] : List AVal).length) := by simp
  rw [if_neg this]; rfl
 | v :: l,i,c,j,h,hj => by
  simp only [List.length_cons] at h
  rw [wE,lay_get l (i + 1) (set i v c) j (by rw [wV]; omega) (by rw [wV]; exact hj)]
  by_cases h1 : i = j
  ·subst h1
   rw [if_neg (by omega),get_set_same,if_pos (by simp)]
   simp
  ·by_cases h2 : i + 1 ≤ j ∧ j < i + 1 + l.length
   ·rw [if_pos h2,if_pos (by simp; omega)]
    have e : j - i = (j - (i + 1)) + 1 := by omega
    rw [e]; simp
   ·rw [if_neg h2,get_set_ne _ _ _ _ h1 (by omega) hj,if_neg (by simp; omega)]
noncomputable def widen (n : Nat) (c : CT) : CT :=
 Bool.rec (CT.rec (fun t => Bool.rec (.c3 (.set .i0 (.set .i0 t (.all (.all .und))) (all3 .und))) (.c2 (.set .i0 t (.all (.all .und)))) (Nat.ble n 256)) (fun t => .c3 (.set .i0 t (all3 .und))) (fun t => .c3 t) c) c (Nat.ble n (cap c))
theorem widen_cap (n : Nat) (c : CT) (h : n ≤ 4096) : n ≤ (widen n c).cap := by
 unfold widen
 cases h1 : Nat.ble n (cap c) with
 | true => exact Nat.le_of_ble_eq_true h1
 | false =>
  cases c with
  | c1 t =>
   show n ≤ (Bool.rec (motive := fun _ => CT) _ _ (Nat.ble n 256) : CT).cap
   cases h2 : Nat.ble n 256 with
   | true => exact Nat.le_of_ble_eq_true h2
   | false => exact h
  | c2 t => exact h
  | c3 t => exact h
theorem widen_get (n : Nat) (c : CT) (i : Nat) (hi : i < c.cap) : get i (widen n c) = get i c := by
 unfold widen
 cases h1 : Nat.ble n (cap c) with
 | true => rfl
 | false =>
  have e0 : ix 0 = .i0 := rfl
  cases c with
  | c1 t =>
   simp only [cap] at hi
   have a1 : dg 4 i = .i0 := by rw [wF,← e0]; congr 1; omega
   have a2 : dg 8 i = .i0 := by rw [wF,← e0]; congr 1; omega
   show get i (Bool.rec (motive := fun _ => CT) _ _ (Nat.ble n 256) : CT) = _
   cases h2 : Nat.ble n 256 with
   | true =>
    show get2 i (N16.set .i0 t (.all (.all .und))) = N16.get (dg 0 i) t
    unfold get2
    rw [a1,N16.get_set_same]
   | false =>
    show get3 i (N16.set .i0 (N16.set .i0 t (.all (.all .und))) (all3 .und)) = N16.get (dg 0 i) t
    unfold get3 get2
    rw [a2,N16.get_set_same,a1,N16.get_set_same]
  | c2 t =>
   simp only [cap] at hi
   have a2 : dg 8 i = .i0 := by rw [wF,← e0]; congr 1; omega
   show get3 i (N16.set .i0 t (all3 .und)) = get2 i t
   unfold get3
   rw [a2,N16.get_set_same]
  | c3 t => rfl
end CT
end Go.Ev
end
section
namespace Go.Ev
variable [GTab]
structure AEnt where
 key : AVal
 val : AVal
 born : Nat
inductive AObj where
 | cells (n : Nat) (ct : CT) (olds : List Nat) (sup : Bool)
 | map (es : List AEnt) (clock : Nat)
def AObj.olds : AObj → List Nat
 | .cells _ _ o _ => o
 | .map _ _ => []
def AObj.sup : AObj → Bool
 | .cells _ _ _ s => s
 | .map _ _ => false
abbrev Heap := T5 (Option AObj)
inductive DenE (σ : Sg) : List AEnt → List MapEntry → Prop
 | nil : DenE σ [] []
 | cons {e : AEnt} {e' : MapEntry} {l : List AEnt} {l' : List MapEntry} (hk : Den σ e.key e'.key) (hv : Den σ e.val e'.val) (hb : e'.born = e.born) (t : DenE σ l l') : DenE σ (e :: l) (e' :: l')
theorem DenE.mono {σ σ' : Sg} (hs : ∀ b p,σ b = some p → σ' b = some p) : ∀ {l : List AEnt} {l' : List MapEntry},DenE σ l l' → DenE σ' l l'
 | _,_,.nil => .nil
 | _,_,.cons hk hv hb t => .cons (hk.mono hs) (hv.mono hs) hb (DenE.mono hs t)
abbrev at' (cb i : Nat) : Addr := ⟨cb,i,none⟩
def ORel (σ : Sg) (o : AObj) (cb sz : Nat) (w : World) : Prop :=
 match o with
 | .cells n ct _ _ => n ≤ sz ∧ n ≤ ct.cap ∧ (∀ i,i < sz → w.frozen? (at' cb i) = false ∧ ∃ v,w.cell? (at' cb i) = some v) ∧
   (∀ i,i < n → ∃ v',w.cell? (at' cb i) = some v' ∧ Den σ (ct.get i) v')
 | .map es clock => ∃ es' : Array MapEntry,w.heap[cb]? = some (.map es' clock) ∧ DenE σ es es'.toList
structure Glob (σ : Sg) (w : World) : Prop where
 var : ∀ g l,GTab.tab g = some l → g < w.heap.size ∧ (∀ b sz,σ b ≠ some (g,sz)) ∧ ∀ (i : Nat) (v : AVal),l[i]? = some v → ∃ v',w.cell? (at' g i) = some v' ∧ ∀ τ : Sg,Den τ v v'
 blk : ∀ g o,GTab.blk g = some o → g < w.heap.size ∧ (∀ b sz,σ b ≠ some (g,sz)) ∧ w.heap[g]? = some o
theorem Glob.of {σ σ' : Sg} {w w' : World} (h : Glob σ w) (hs : w.heap.size ≤ w'.heap.size) (hb : ∀ i,i < w.heap.size → (∀ b sz,σ b ≠ some (i,sz)) → w'.heap[i]? = w.heap[i]?)
  (hr : ∀ b cb sz,σ' b = some (cb,sz) → cb < w.heap.size → ∃ b' sz',σ b' = some (cb,sz')) : Glob σ' w' := by
 refine ⟨fun g l hg => ?_,fun g o hg => ?_⟩
 ·obtain ⟨h1,h2,h3⟩ := h.var g l hg
  refine ⟨Nat.lt_of_lt_of_le h1 hs,?_,?_⟩
  ·intro b sz e
   obtain ⟨b',sz',e'⟩ := hr b g sz e h1
   exact h2 b' sz' e'
  ·intro i v hv
   obtain ⟨v',e,d⟩ := h3 i v hv
   exact ⟨v',by simpa [World.cell?,hb g h1 h2] using e,d⟩
 ·obtain ⟨h1,h2,h3⟩ := h.blk g o hg
  refine ⟨Nat.lt_of_lt_of_le h1 hs,?_,?_⟩
  ·intro b sz e
   obtain ⟨b',sz',e'⟩ := hr b g sz e h1
   exact h2 b' sz' e'
  ·rw [hb g h1 h2,h3]
structure Rel (σ : Sg) (H : Heap) (nx : Nat) (w : World) : Prop where
 lim : nx ≤ 1048576
 dom : ∀ b cb sz,σ b = some (cb,sz) → b < nx ∧ cb < w.heap.size
 obj : ∀ b o cb sz,get5 b H = some o → σ b = some (cb,sz) → ORel σ o cb sz w
 sep : ∀ b b' o o' cb sz sz',get5 b H = some o → get5 b' H = some o' → σ b = some (cb,sz) → σ b' = some (cb,sz') → b = b' ∨ b ∈ o'.olds ∨ b' ∈ o.olds
 sup : ∀ b b' o o' p,get5 b H = some o → get5 b' H = some o' → σ b' = some p → b ∈ o'.olds → o.sup = true
 old : ∀ b o p,get5 b H = some o → σ b = some p → ∀ b',b' ∈ o.olds → ∃ p',σ b' = some p'
 glob : Glob σ w
structure Ext (σ σ' : Sg) (H H' : Heap) (nx nx' : Nat) (w w' : World) : Prop where
 sub : ∀ b p,σ b = some p → σ' b = some p
 rng : ∀ b cb sz,σ' b = some (cb,sz) → cb < w.heap.size → ∃ b' sz',σ b' = some (cb,sz')
 pend : ∀ b,b < nx → σ b = none → σ' b = none ∧ get5 b H' = get5 b H
 le : nx ≤ nx'
 os : w'.os = w.os
 tape : w'.tape = w.tape
 output : w'.output = w.output
 size : w.heap.size ≤ w'.heap.size
 frame : ∀ i,i < w.heap.size → (∀ b sz,σ b ≠ some (i,sz)) → w'.heap[i]? = w.heap[i]?
theorem Ext.refl (σ : Sg) (H : Heap) (nx : Nat) (w : World) : Ext σ σ H H nx nx w w :=
 ⟨fun _ _ h => h,fun b _ sz h _ => ⟨b,sz,h⟩,fun _ _ h => ⟨h,rfl⟩,Nat.le_refl _,rfl,rfl,rfl,Nat.le_refl _,fun _ _ _ => rfl⟩
theorem Ext.trans {σ₁ σ₂ σ₃ : Sg} {H₁ H₂ H₃ : Heap} {n₁ n₂ n₃ : Nat} {w₁ w₂ w₃ : World} (a : Ext σ₁ σ₂ H₁ H₂ n₁ n₂ w₁ w₂) (b : Ext σ₂ σ₃ H₂ H₃ n₂ n₃ w₂ w₃) :
  Ext σ₁ σ₃ H₁ H₃ n₁ n₃ w₁ w₃ where
 sub := fun x p h => b.sub x p (a.sub x p h)
 rng := fun x cb sz h hlt => by
  obtain ⟨b',sz',h'⟩ := b.rng x cb sz h (Nat.lt_of_lt_of_le hlt a.size)
  exact a.rng b' cb sz' h' hlt
 pend := fun x hx h => by
  obtain ⟨h1,h2⟩ := a.pend x hx h
  obtain ⟨h3,h4⟩ := b.pend x (Nat.lt_of_lt_of_le hx a.le) h1
  exact ⟨h3,h4.trans h2⟩
 le := Nat.le_trans a.le b.le
 os := b.os.trans a.os
 tape := b.tape.trans a.tape
 output := b.output.trans a.output
 size := Nat.le_trans a.size b.size
 frame := fun i hi h => by
  rw [b.frame i (Nat.lt_of_lt_of_le hi a.size),a.frame i hi h]
  intro x sz e
  obtain ⟨b',sz',h'⟩ := a.rng x i sz e hi
  exact h b' sz' h'
theorem ORel.mono {σ σ' : Sg} {o : AObj} {cb sz : Nat} {w : World} (hs : ∀ b p,σ b = some p → σ' b = some p) (h : ORel σ o cb sz w) : ORel σ' o cb sz w := by
 cases o with
 | cells n ct olds sup =>
  obtain ⟨h1,h2,h3,h4⟩ := h
  exact ⟨h1,h2,h3,fun i hi => let ⟨v',e,d⟩ := h4 i hi; ⟨v',e,d.mono hs⟩⟩
 | map es clock =>
  obtain ⟨es',h1,h2⟩ := h
  exact ⟨es',h1,h2.mono hs⟩
theorem ORel.of_block {σ : Sg} {o : AObj} {cb sz : Nat} {w w' : World} (e : w'.heap[cb]? = w.heap[cb]?) (h : ORel σ o cb sz w) : ORel σ o cb sz w' := by
 have e1 : ∀ i,w'.cell? (at' cb i) = w.cell? (at' cb i) := fun i => by simp [World.cell?,e]
 have e2 : ∀ i,w'.frozen? (at' cb i) = w.frozen? (at' cb i) := fun i => by simp [World.frozen?,e]
 cases o with
 | cells n ct olds sup =>
  obtain ⟨h1,h2,h3,h4⟩ := h
  exact ⟨h1,h2,fun i hi => by rw [e1,e2]; exact h3 i hi,fun i hi => by rw [e1]; exact h4 i hi⟩
 | map es clock =>
  obtain ⟨es',h1,h2⟩ := h
  exact ⟨es',e.trans h1,h2⟩
theorem Rel.drew {σ : Sg} {H : Heap} {nx : Nat} {w : World} (h : Rel σ H nx w) : Rel σ H nx { w with drawn := w.drawn + 1 } :=
 ⟨h.lim,h.dom,fun b o cb sz e1 e2 => (h.obj b o cb sz e1 e2).of_block rfl,h.sep,h.sup,h.old,h.glob.of (Nat.le_refl _) (fun _ _ _ => rfl) fun b _ sz e _ => ⟨b,sz,e⟩⟩
theorem Ext.drew (σ : Sg) (H : Heap) (nx : Nat) (w : World) : Ext σ σ H H nx nx w { w with drawn := w.drawn + 1 } :=
 ⟨fun _ _ h => h,fun b _ sz h _ => ⟨b,sz,h⟩,fun _ _ h => ⟨h,rfl⟩,Nat.le_refl _,rfl,rfl,rfl,Nat.le_refl _,fun _ _ _ => rfl⟩
theorem qr {H : Heap} {b b' : Nat} {x : Option AObj} (h : b ≠ b') (hb : b < 1048576) (hb' : b' < 1048576) : get5 b' (set5 b x H) = get5 b' H :=
 KF b b' x H (by rw [Nat.mod_eq_of_lt hb,Nat.mod_eq_of_lt hb']; exact h)
theorem Rel.pend {σ : Sg} {H : Heap} {nx nx' b : Nat} {w : World} {x : Option AObj} (h : Rel σ H nx w) (hb : σ b = none) (hn : nx ≤ nx') (hl : nx' ≤ 1048576) (hb2 : b < 1048576) :
  Rel σ (set5 b x H) nx' w := by
 have ne : ∀ {c p},σ c = some p → get5 c (set5 b x H) = get5 c H := by
  intro c p hc
  obtain ⟨cb,sz⟩ := p
  have := (h.dom c cb sz hc).1
  have := h.lim
  exact qr (fun e => by subst e; rw [hb] at hc; cases hc) hb2 (by omega)
 refine ⟨hl,fun c cb sz hc => ⟨Nat.lt_of_lt_of_le (h.dom c cb sz hc).1 hn,(h.dom c cb sz hc).2⟩,?_,?_,?_,?_,h.glob⟩
 ·intro c o cb sz e1 e2; rw [ne e2] at e1; exact h.obj c o cb sz e1 e2
 ·intro c c' o o' cb sz sz' e1 e2 e3 e4; rw [ne e3] at e1; rw [ne e4] at e2; exact h.sep c c' o o' cb sz sz' e1 e2 e3 e4
 ·intro c c' o o' p e1 e2 e3 e4
  rw [ne e3] at e2
  obtain ⟨p',hp'⟩ := h.old c' o' p e2 e3 c e4
  rw [ne hp'] at e1
  exact h.sup c c' o o' p e1 e2 e3 e4
 ·intro c o p e1 e2 c' e3; rw [ne e2] at e1; exact h.old c o p e1 e2 c' e3
theorem Rel.forget {σ : Sg} {H : Heap} {nx b : Nat} {w : World} (h : Rel σ H nx w) (hb2 : b < 1048576) : Rel σ (set5 b none H) nx w := by
 have key : ∀ c o,c < 1048576 → get5 c (set5 b none H) = some o → get5 c H = some o := by
  intro c o hc e
  by_cases hcb : b = c
  ·subst hcb; rw [qg] at e; cases e
  ·rwa [qr hcb hb2 hc] at e
 have lt : ∀ {c p},σ c = some p → c < 1048576 := fun {c p} hc => by obtain ⟨cb,sz⟩ := p; have := (h.dom c cb sz hc).1; have := h.lim; omega
 refine ⟨h.lim,h.dom,?_,?_,?_,?_,h.glob⟩
 ·intro c o cb sz e1 e2; exact h.obj c o cb sz (key c o (lt e2) e1) e2
 ·intro c c' o o' cb sz sz' e1 e2 e3 e4; exact h.sep c c' o o' cb sz sz' (key _ _ (lt e3) e1) (key _ _ (lt e4) e2) e3 e4
 ·intro c c' o o' p e1 e2 e3 e4
  have e2' := key _ _ (lt e3) e2
  obtain ⟨p',hp'⟩ := h.old c' o' p e2' e3 c e4
  exact h.sup c c' o o' p (key _ _ (lt hp') e1) e2' e3 e4
 ·intro c o p e1 e2 c' e3; exact h.old c o p (key _ _ (lt e2) e1) e2 c' e3
noncomputable def dels (l : List Nat) : Heap → Heap := List.rec (fun H => H) (fun b _ ih H => ih (set5 b none H)) l
theorem yO (b : Nat) (l : List Nat) (H : Heap) : dels (b :: l) H = dels l (set5 b none H) := rfl
theorem zd : ∀ (l : List Nat) (H : Heap) (c : Nat),(∀ b,b ∈ l → b < 1048576) → c < 1048576 → get5 c (dels l H) = if c ∈ l then none else get5 c H
 | [],H,c,_,_ => by rw [if_neg (by simp)]; rfl
 | b :: l,H,c,hl,hc => by
  rw [yO,zd l _ c (fun x hx => hl x (List.mem_cons_of_mem _ hx)) hc]
  by_cases h1 : c ∈ l
  ·rw [if_pos h1,if_pos (List.mem_cons_of_mem _ h1)]
  ·rw [if_neg h1]
   by_cases h2 : b = c
   ·subst h2; rw [qg,if_pos (List.mem_cons_self ..)]
   ·rw [qr h2 (hl b (List.mem_cons_self ..)) hc,if_neg (by simp [h1]; exact fun e => h2 e.symm)]
def upd (σ : Sg) (b : Nat) (p : Nat × Nat) : Sg := fun c => if c = b then some p else σ c
theorem jk {σ : Sg} {b : Nat} {p : Nat × Nat} (hb : σ b = none) : ∀ c q,σ c = some q → upd σ b p c = some q := by
 intro c q hc
 unfold upd
 rw [if_neg (fun e => by subst e; rw [hb] at hc; cases hc)]
 exact hc
theorem qv {σ : Sg} {b c : Nat} {p q : Nat × Nat} (h : upd σ b p c = some q) : (c = b ∧ q = p) ∨ (c ≠ b ∧ σ c = some q) := by
 unfold upd at h
 by_cases e : c = b
 ·rw [if_pos e] at h; exact .inl ⟨e,(Option.some.inj h).symm⟩
 ·rw [if_neg e] at h; exact .inr ⟨e,h⟩
theorem Rel.alloc_at {σ : Sg} {H : Heap} {nx b n sz : Nat} {w : World} {ct : CT} {c : Array Value} {t : TypeId} {fz : Nat × Nat} (h : Rel σ H nx w) (hb : σ b = none) (hlt : b < nx)
  (ho : get5 b H = some (.cells n ct [] false)) (hn : n ≤ ct.cap) (hsz : sz = c.size) (hnc : n ≤ sz) (hfz : ∀ i,i < sz → ¬ (fz.1 ≤ i ∧ i < fz.2))
  (hd : ∀ i,i < n → ∃ v',c[i]? = some v' ∧ Den σ (ct.get i) v') :
  Rel (upd σ b (w.heap.size,sz)) H nx (w.alloc (.cells c t fz)) := by
 have sub := jk (p := (w.heap.size,sz)) hb
 have blk : ∀ i,i < w.heap.size → (w.alloc (.cells c t fz)).heap[i]? = w.heap[i]? := by
  intro i hi
  show (w.heap.push _)[i]? = _
  rw [Array.getElem?_push,if_neg (by omega)]
 have newb : (w.alloc (.cells c t fz)).heap[w.heap.size]? = some (.cells c t fz) := by
  show (w.heap.push _)[w.heap.size]? = _
  simp
 have newc : ∀ i,(w.alloc (.cells c t fz)).cell? (at' w.heap.size i) = c[i]? := by
  intro i
  unfold World.cell?
  rw [newb]
  rfl
 have hglob : Glob (upd σ b (w.heap.size,sz)) (w.alloc (.cells c t fz)) := by
  refine h.glob.of (by simp) (fun i hi _ => blk i hi) fun x cb s e hlt => ?_
  rcases qv e with ⟨rfl,q⟩ | ⟨_,q⟩
  ·cases q; omega
  ·exact ⟨x,s,q⟩
 refine ⟨h.lim,?_,?_,?_,?_,?_,hglob⟩
 ·intro x cb s e
  rcases qv e with ⟨rfl,q⟩ | ⟨_,q⟩
  ·cases q; exact ⟨hlt,by simp⟩
  ·have := h.dom x cb s q
   exact ⟨this.1,by simp; omega⟩
 ·intro x o cb s e1 e2
  rcases qv e2 with ⟨rfl,e⟩ | ⟨_,e⟩
  ·cases e
   rw [ho] at e1
   cases e1
   refine ⟨hnc,hn,?_,?_⟩
   ·intro i hi
    refine ⟨?_,?_⟩
    ·have := hfz i hi
     simp only [World.frozen?,newb]
     simp
     intro h1
     have : ¬ (fz.1 ≤ i ∧ i < fz.2) := this
     omega
    ·refine ⟨c[i]'(by omega),?_⟩
     rw [newc,Array.getElem?_eq_getElem]
   ·intro i hi
    obtain ⟨v',e,d⟩ := hd i hi
    exact ⟨v',by rw [newc,e],d.mono sub⟩
  ·have hlt' := (h.dom x cb s e).2
   exact (ORel.mono sub (h.obj x o cb s e1 e)).of_block (blk cb hlt')
 ·intro x x' o o' cb s s' e1 e2 e3 e4
  rcases qv e3 with ⟨rfl,e⟩ | ⟨_,e⟩
  ·cases e
   rcases qv e4 with ⟨rfl,_⟩ | ⟨_,e'⟩
   ·exact .inl rfl
   ·have := (h.dom x' _ s' e').2; omega
  ·rcases qv e4 with ⟨rfl,e'⟩ | ⟨_,e'⟩
   ·cases e'; have := (h.dom x _ s e).2; omega
   ·exact h.sep x x' o o' cb s s' e1 e2 e e'
 ·intro x x' o o' p e1 e2 e3 e4
  rcases qv e3 with ⟨rfl,e⟩ | ⟨_,e⟩
  ·rw [ho] at e2; cases e2; simp [AObj.olds] at e4
  ·exact h.sup x x' o o' p e1 e2 e e4
 ·intro x o p e1 e2 x' e3
  rcases qv e2 with ⟨rfl,e⟩ | ⟨_,e⟩
  ·rw [ho] at e1; cases e1; simp [AObj.olds] at e3
  ·obtain ⟨p',hp'⟩ := h.old x o p e1 e x' e3
   exact ⟨p',sub _ _ hp'⟩
theorem Ext.alloc_at {σ : Sg} {H : Heap} {nx b sz : Nat} {w : World} (o : Obj) (_h : Rel σ H nx w) (hb : σ b = none) :
  (∀ c,c ≠ b → c < nx → σ c = none → upd σ b (w.heap.size,sz) c = none) ∧
  (∀ c p,σ c = some p → upd σ b (w.heap.size,sz) c = some p) ∧
  (∀ c cb s,upd σ b (w.heap.size,sz) c = some (cb,s) → cb < w.heap.size → ∃ b' sz',σ b' = some (cb,sz')) ∧
  (∀ i,i < w.heap.size → (w.alloc o).heap[i]? = w.heap[i]?) := by
 refine ⟨?_,jk hb,?_,?_⟩
 ·intro c hc _ hn
  unfold upd; rw [if_neg hc]; exact hn
 ·intro c cb s e hlt
  rcases qv e with ⟨rfl,q⟩ | ⟨_,q⟩
  ·cases q; omega
  ·exact ⟨c,s,q⟩
 ·intro i hi
  show (w.heap.push _)[i]? = _
  rw [Array.getElem?_push,if_neg (by omega)]
theorem Rel.alloc {σ : Sg} {H : Heap} {nx n sz : Nat} {w : World} {ct : CT} {c : Array Value} {t : TypeId} {fz : Nat × Nat} (h : Rel σ H nx w) (hx : nx < 1048576)
  (hn : n ≤ ct.cap) (hsz : sz = c.size) (hnc : n ≤ sz) (hfz : ∀ i,i < sz → ¬ (fz.1 ≤ i ∧ i < fz.2)) (hd : ∀ i,i < n → ∃ v',c[i]? = some v' ∧ Den σ (ct.get i) v') :
  Rel (upd σ nx (w.heap.size,sz)) (set5 nx (some (.cells n ct [] false)) H) (nx + 1) (w.alloc (.cells c t fz)) ∧
  Ext σ (upd σ nx (w.heap.size,sz)) H (set5 nx (some (.cells n ct [] false)) H) nx (nx + 1) w (w.alloc (.cells c t fz)) := by
 have hb : σ nx = none := by
  cases e : σ nx with
  | none => rfl
  | some p => obtain ⟨cb,s⟩ := p; have := (h.dom nx cb s e).1; omega
 have h1 : Rel σ (set5 nx (some (.cells n ct [] false)) H) (nx + 1) w := h.pend hb (by omega) (by omega) hx
 obtain ⟨e1,e2,e3,e4⟩ := Ext.alloc_at (sz := sz) (.cells c t fz) h hb
 refine ⟨h1.alloc_at hb (by omega) (qg _ _ _) hn hsz hnc hfz hd,⟨e2,e3,?_,by omega,rfl,rfl,rfl,by simp,fun i hi _ => e4 i hi⟩⟩
 intro c hc hn
 exact ⟨e1 c (by omega) hc hn,qr (by omega) hx (by omega)⟩
def qE (w : World) (cb : Nat) : Nat → List Value → World
 | _,[] => w
 | i,v :: l => qE (w.setCell (at' cb i) v) cb (i + 1) l
theorem qO : ∀ (l : List Value) (w : World) (cb i k : Nat),k ≠ cb → (qE w cb i l).heap[k]? = w.heap[k]?
 | [],_,_,_,_,_ => rfl
 | v :: l,w,cb,i,k,h => by
  show (qE (w.setCell (at' cb i) v) cb (i + 1) l).heap[k]? = _
  rw [qO l _ cb (i + 1) k h]
  simp only [World.setCell,Array.getElem?_modify]
  rw [if_neg (fun e => h e.symm)]
theorem zq : ∀ (l : List Value) (w : World) (cb i : Nat),(qE w cb i l).os = w.os ∧ (qE w cb i l).tape = w.tape ∧ (qE w cb i l).output = w.output ∧ (qE w cb i l).heap.size = w.heap.size
 | [],_,_,_ => ⟨rfl,rfl,rfl,rfl⟩
 | v :: l,w,cb,i => by
  obtain ⟨h1,h2,h3,h4⟩ := zq l (w.setCell (at' cb i) v) cb (i + 1)
  exact ⟨h1,h2,h3,h4.trans (by simp)⟩
theorem zc : ∀ (l : List Value) (w : World) (cb i : Nat) (a : Addr),(qE w cb i l).frozen? a = w.frozen? a
 | [],_,_,_,_ => rfl
 | v :: l,w,cb,i,a => by
  show (qE (w.setCell (at' cb i) v) cb (i + 1) l).frozen? a = _
  rw [zc l,World.frozen?_setCell]
theorem zr : ∀ (l : List Value) (w : World) (cb i j : Nat),(∀ k,i ≤ k → k < i + l.length → ∃ v,w.cell? (at' cb k) = some v) →
  (qE w cb i l).cell? (at' cb j) = if i ≤ j ∧ j < i + l.length then l[j - i]? else w.cell? (at' cb j)
 | [],w,cb,i,j,_ => by
  have : ¬ (i ≤ j ∧ j < i + ([] : List Value).length) := by simp
  rw [if_neg this]; rfl
 | v :: l,w,cb,i,j,h => by
  show (qE (w.setCell (at' cb i) v) cb (i + 1) l).cell? (at' cb j) = _
  obtain ⟨u,hu⟩ := h i (Nat.le_refl _) (by simp)
  have same : (w.setCell (at' cb i) v).cell? (at' cb i) = some v := World.cell?_setCell_same (w := w) (a := at' cb i) (v := v) (u := u) hu
  have other : ∀ k,k ≠ i → (w.setCell (at' cb i) v).cell? (at' cb k) = w.cell? (at' cb k) := fun k hk =>
   World.cell?_setCell_other (w := w) (a := at' cb i) (b := at' cb k) (v := v) (fun e => hk (by cases e; rfl))
  rw [zr l _ cb (i + 1) j]
  ·by_cases h1 : j = i
   ·subst h1
    rw [if_neg (by omega),same,if_pos (by simp)]
    simp
   ·rw [other j h1]
    by_cases h2 : i + 1 ≤ j ∧ j < i + 1 + l.length
    ·rw [if_pos h2,if_pos (by simp; omega)]
     have e : j - i = (j - (i + 1)) + 1 := by omega
     rw [e]; simp
    ·rw [if_neg h2,if_neg (by simp; omega)]
  ·intro k hk1 hk2
   rw [other k (by omega)]
   exact h k (by omega) (by simp; omega)
theorem qM (cb i n : Nat) : Addr.add (at' cb i) n = at' cb (i + n) := by
 unfold Addr.add
 split
 ·rename_i h; subst h; rfl
 ·rfl
theorem qQ {P : Program} : ∀ (l : List Value) (w : World) (cb off i : Nat),(∀ v,v ∈ l → v.oneCell' = true) →
  (∀ k,off + i ≤ k → k < off + i + l.length → w.frozen? (at' cb k) = false ∧ ∃ v,w.cell? (at' cb k) = some v) →
  (storeCells (at' cb off) l i).run P w = .ok () (qE w cb (off + i) l)
 | [],w,cb,off,i,_,_ => rfl
 | v :: l,w,cb,off,i,h1,h2 => by
  obtain ⟨hf,u,hu⟩ := h2 (off + i) (Nat.le_refl _) (by simp)
  have hs : (store (Addr.add (at' cb off) i) v).run P w = .ok () (w.setCell (at' cb (off + i)) v) := by
   rw [run_store P w _ v .plain (h1 v (List.mem_cons_self ..)),qM,hu]
   simp [hf]
  have ih := qQ (P := P) l (w.setCell (at' cb (off + i)) v) cb off (i + 1) (fun x hx => h1 x (List.mem_cons_of_mem _ hx)) (by
   intro k hk1 hk2
   have := h2 k (by omega) (by simp; omega)
   rw [World.frozen?_setCell,World.cell?_setCell_other]
   ·exact this
   ·intro e; have := congrArg Addr.off e; simp at this; omega)
  simp only [storeCells,Sem.run_bind,hs,Result.andThen_ok,ih]
  rfl
theorem Rel.store {σ : Sg} {H : Heap} {nx b n off cb sz : Nat} {w : World} {ct : CT} {olds : List Nat} {l : List AVal} {l' : List Value} (h : Rel σ H nx w)
  (hb : σ b = some (cb,sz)) (ho : get5 b H = some (.cells n ct olds false)) (hoff : off + l.length ≤ n) (hd : DenL σ l l') :
  Rel σ (set5 b (some (.cells n (CT.lay l off ct) [] false)) (dels olds H)) nx (qE w cb off l') ∧
  Ext σ σ H (set5 b (some (.cells n (CT.lay l off ct) [] false)) (dels olds H)) nx nx w (qE w cb off l') := by
 have hlim := h.lim
 have lt : ∀ {c p},σ c = some p → c < 1048576 := fun {c p} hc => by obtain ⟨cb,sz⟩ := p; have := (h.dom c cb sz hc).1; omega
 have hold : ∀ c,c ∈ olds → ∃ p',σ c = some p' := fun c hc => h.old b _ _ ho hb c hc
 have holt : ∀ c,c ∈ olds → c < 1048576 := fun c hc => let ⟨_,e⟩ := hold c hc; lt e
 obtain ⟨r1,r2,r3,r4⟩ := zq l' w cb off
 obtain ⟨o1,o2,o3,o4⟩ := h.obj b _ cb sz ho hb
 have hlen : l.length = l'.length := hd.length
 have bn : b < 1048576 := lt hb
 have key : ∀ c o,c ≠ b → c < 1048576 → get5 c (set5 b (some (.cells n (CT.lay l off ct) [] false)) (dels olds H)) = some o → get5 c H = some o ∧ c ∉ olds := by
  intro c o hcb hc e
  rw [qr (fun e => hcb e.symm) bn hc,zd olds H c holt hc] at e
  by_cases hm : c ∈ olds
  ·rw [if_pos hm] at e; cases e
  ·rw [if_neg hm] at e; exact ⟨e,hm⟩
 have keyb : get5 b (set5 b (some (.cells n (CT.lay l off ct) [] false)) (dels olds H)) = some (.cells n (CT.lay l off ct) [] false) := qg _ _ _
 have alone : ∀ c o s,c ≠ b → c ∉ olds → get5 c H = some o → σ c = some (cb,s) → False := by
  intro c o s hcb hno hc hs
  rcases h.sep c b o _ cb s sz hc ho hs hb with e | e | e
  ·exact hcb e
  ·exact hno e
  ·have := h.sup b c _ o _ ho hc hs e
   simp [AObj.sup] at this
 have hglob : Glob σ (qE w cb off l') := by
  refine h.glob.of (Nat.le_of_eq r4.symm) (fun i hi hno => qO l' w cb off i (fun e => by subst e; exact hno b sz hb)) fun x cb s e _ => ⟨x,s,e⟩
 refine ⟨⟨hlim,?_,?_,?_,?_,?_,hglob⟩,⟨fun _ _ e => e,fun c _ s e _ => ⟨c,s,e⟩,?_,Nat.le_refl _,r1,r2,r3,Nat.le_of_eq r4.symm,?_⟩⟩
 ·intro c x s e; have := h.dom c x s e; rw [r4]; exact this
 ·intro c o x s e1 e2
  by_cases hcb : c = b
  ·subst hcb
   rw [hb] at e2
   cases e2
   rw [keyb] at e1
   cases e1
   have cells : ∀ k,off ≤ k → k < off + l'.length → ∃ v,w.cell? (at' cb k) = some v := fun k hk1 hk2 => (o3 k (by omega)).2
   refine ⟨o1,by rw [CT.lay_cap]; exact o2,?_,?_⟩
   ·intro i hi
    rw [zc,zr l' w cb off i cells]
    refine ⟨(o3 i hi).1,?_⟩
    by_cases hin : off ≤ i ∧ i < off + l'.length
    ·rw [if_pos hin]; exact ⟨l'[i - off]'(by omega),by simp [List.getElem?_eq_getElem (show i - off < l'.length by omega)]⟩
    ·rw [if_neg hin]; exact (o3 i hi).2
   ·intro i hi
    rw [zr l' w cb off i cells,CT.lay_get l off ct i (by omega) (by omega)]
    by_cases hin : off ≤ i ∧ i < off + l.length
    ·rw [if_pos hin,if_pos (by omega)]
     have hlt : i - off < l.length := by omega
     obtain ⟨v',e,d⟩ := hd.get (i - off) (l[i - off]) (by simp [List.getElem?_eq_getElem hlt])
     refine ⟨v',e,?_⟩
     simpa [List.getD,List.getElem?_eq_getElem hlt] using d
    ·rw [if_neg hin,if_neg (by omega)]; exact o4 i hi
  ·obtain ⟨e1',hno⟩ := key c o hcb (lt e2) e1
   refine (h.obj c o x s e1' e2).of_block (qO l' w cb off x ?_)
   intro e
   subst e
   exact alone c o s hcb hno e1' e2
 ·intro c c' o o' x s s' e1 e2 e3 e4
  by_cases h1 : c = b
  ·subst h1
   by_cases h2 : c' = c
   ·exact .inl h2.symm
   ·obtain ⟨e2',hno⟩ := key c' o' h2 (lt e4) e2
    rw [hb] at e3
    cases e3
    exact (alone c' o' s' h2 hno e2' e4).elim
  ·obtain ⟨e1',hno⟩ := key c o h1 (lt e3) e1
   by_cases h2 : c' = b
   ·subst h2
    rw [hb] at e4
    cases e4
    exact (alone c o s h1 hno e1' e3).elim
   ·obtain ⟨e2',hno'⟩ := key c' o' h2 (lt e4) e2
    exact h.sep c c' o o' x s s' e1' e2' e3 e4
 ·intro c c' o o' p e1 e2 e3 e4
  by_cases h2 : c' = b
  ·subst h2
   rw [keyb] at e2; cases e2; simp [AObj.olds] at e4
  ·obtain ⟨e2',hno'⟩ := key c' o' h2 (lt e3) e2
   obtain ⟨p',hp'⟩ := h.old c' o' p e2' e3 c e4
   by_cases h1 : c = b
   ·subst h1
    have := h.sup c c' _ o' p ho e2' e3 e4
    simp [AObj.sup] at this
   ·obtain ⟨e1',hno⟩ := key c o h1 (lt hp') e1
    exact h.sup c c' o o' p e1' e2' e3 e4
 ·intro c o p e1 e2 c' e3
  by_cases h1 : c = b
  ·subst h1
   rw [keyb] at e1; cases e1; simp [AObj.olds] at e3
  ·obtain ⟨e1',_⟩ := key c o h1 (lt e2) e1
   exact h.old c o p e1' e2 c' e3
 ·intro c hc hn
  refine ⟨hn,?_⟩
  have hcb : b ≠ c := fun e => by subst e; rw [hb] at hn; cases hn
  have hno : c ∉ olds := fun hm => by obtain ⟨_,e⟩ := hold c hm; rw [hn] at e; cases e
  rw [qr hcb bn (by omega),zd olds H c holt (by omega),if_neg hno]
 ·intro i hi hno
  exact qO l' w cb off i (fun e => by subst e; exact hno b sz hb)
end Go.Ev
end
section
namespace Go.Ev
variable [GTab]
noncomputable section
inductive ARes where
 | val (v : AVal) (H : Heap) (nx : Nat)
 | call (f : FuncId) (args : List AVal)
 | dfr (f : FuncId) (args : List AVal)
 | pan (v : AVal)
 | rcv
def DDen (σ : Sg) (f : FuncId) (args : List AVal) (d : Deferred) : Prop :=
 ∃ cap,d.target = .fn (.func f) cap ∧ DenL σ args (d.args ++ cap).toList
def OpOK (P : Program) (o : Oper) (ρ : Operand → AVal) (H : Heap) (nx : Nat) (r : ARes) : Prop :=
 ∀ (σ : Sg) (w : World) (ρ' : Operand → Value),Rel σ H nx w → (∀ x,Den σ (ρ x) (ρ' x)) →
  match r with
  | .val v H' nx' => ∃ σ' w' v',Rel σ' H' nx' w' ∧ Ext σ σ' H H' nx nx' w w' ∧ Den σ' v v' ∧
    ((execOp ρ' o).run P w = .ok (.value v') w' ∨ ((execOp ρ' o).run P w = .ok .skip w' ∧ v' = undef))
  | .call f args => ∃ args',DenL σ args args' ∧ (execOp ρ' o).run P w = .ok (.enter f ⟨args'⟩) w
  | .dfr f args => ∃ d,DDen σ f args d ∧ (execOp ρ' o).run P w = .ok (.defer d) w
  | .pan v => ∃ v',Den σ v v' ∧ (execOp ρ' o).run P w = .halt (.panic v') w
  | .rcv => (execOp ρ' o).run P w = .ok .recover w
theorem OpOK.pure {P : Program} {o : Oper} {ρ : Operand → AVal} {H : Heap} {nx : Nat} {v : AVal}
  (h : ∀ (σ : Sg) (w : World) (ρ' : Operand → Value),Rel σ H nx w → (∀ x,Den σ (ρ x) (ρ' x)) → ∃ v',Den σ v v' ∧ (execOp ρ' o).run P w = .ok (.value v') w) :
  OpOK P o ρ H nx (.val v H nx) := by
 intro σ w ρ' hr hd
 obtain ⟨v',h1,h2⟩ := h σ w ρ' hr hd
 exact ⟨σ,w,v',hr,Ext.refl _ _ _ _,h1,.inl h2⟩
theorem qa {P : Program} {w : World} {t : TypeId} {d : TypeDesc} (h : P.underlying t = some d) : (underlying t).run P w = .ok d w := by
 simp [underlying,h]
theorem qq {P : Program} {w : World} {t : TypeId} {i : TypeInfo} (h : P.info? t = some i) : (typeInfo t).run P w = .ok i w := by
 simp [typeInfo,h]
theorem qf {P : Program} {w : World} {t : TypeId} {i : TypeInfo} (h : P.info? t = some i) : (sizeOf t).run P w = .ok i.size w := by
 simp [sizeOf,qq h]
theorem qm {P : Program} {w : World} {t : TypeId} {i : TypeInfo} {v : Value} (h : P.info? t = some i) (hz : i.zero = some v) : (zeroValue t).run P w = .ok v w := by
 simp [zeroValue,qq h,hz]
def aggD : TypeDesc → Bool
 | .struct _ | .array _ _ => true
 | _ => false
theorem zg {P : Program} {w : World} {t : TypeId} {d : TypeDesc} (h : P.underlying t = some d) : (isAgg t).run P w = .ok (aggD d) w := by
 simp only [isAgg,Sem.run_bind,qa h,Result.andThen_ok]
 cases d <;> rfl
def jI : Value → AVal
 | .bool b => .bool b
 | .int k n => .int k n
 | .string s => .str s.data.toList.length (numL 0 s.data.toList)
 | .pointer none => .nilPtr
 | .slice none 0 0 => .nilSlice
 | .map none => .nilMap
 | .nilFunc => .nilFunc
 | .nilIface => .nilIface
 | _ => .und
def vR : Value → AVal
 | .agg cs => .agg (cs.toList.map jI)
 | v => jI v
theorem vC (σ : Sg) (v : Value) : Den σ (jI v) v := by
 unfold jI
 split <;> first | constructor | skip
 ·rename_i s
  have := Den.str (σ := σ) s.data.toList.length (numL 0 s.data.toList) (Kl _)
  rwa [Yf] at this
theorem qV (σ : Sg) : ∀ l : List Value,DenL σ (l.map jI) l
 | [] => .nil
 | v :: l => .cons (vC σ v) (qV σ l)
theorem kF (σ : Sg) (v : Value) : Den σ (vR v) v := by
 unfold vR
 split
 ·rename_i cs; exact Den.agg (qV σ cs.toList)
 ·exact vC σ v
def jm (x : Operand) (ρ : Operand → AVal) (H : Heap) (nx : Nat) : Option ARes := some (.val (ρ x) H nx)
theorem wo {P : Program} {o : Oper} {x : Operand} {ρ : Operand → AVal} {H : Heap} {nx : Nat} {r : ARes} (ho : o.op = .move x ∨ o.op = .assign x)
  (h : jm x ρ H nx = some r) : OpOK P o ρ H nx r := by
 cases h
 refine OpOK.pure fun σ w ρ' _ hd => ⟨ρ' x,hd x,?_⟩
 rcases ho with e | e <;> simp [execOp,e]
def jz (c a b : Operand) (ρ : Operand → AVal) (H : Heap) (nx : Nat) : Option ARes :=
 match ρ c with
 | .bool true => some (.val (ρ a) H nx)
 | .bool false => some (.val (ρ b) H nx)
 | _ => none
theorem Zh {P : Program} {o : Oper} {c a b : Operand} {ρ : Operand → AVal} {H : Heap} {nx : Nat} {r : ARes} (ho : o.op = .pick c a b)
  (h : jz c a b ρ H nx = some r) : OpOK P o ρ H nx r := by
 unfold jz at h
 split at h
 ·rename_i hc
  cases h
  refine OpOK.pure fun σ w ρ' _ hd => ⟨ρ' a,hd a,?_⟩
  have := hd c; rw [hc] at this
  cases hv : ρ' c <;> rw [hv] at this <;> cases this
  simp [execOp,ho,hv,asBool]
 ·rename_i hc
  cases h
  refine OpOK.pure fun σ w ρ' _ hd => ⟨ρ' b,hd b,?_⟩
  have := hd c; rw [hc] at this
  cases hv : ρ' c <;> rw [hv] at this <;> cases this
  simp [execOp,ho,hv,asBool]
 ·cases h
def jN (P : Program) (t : TypeId) (H : Heap) (v : AVal) : Option AVal :=
 match v with
 | .ptr b off =>
  match get5 b H with
  | some (.cells n ct _ _) =>
   match P.underlying t,P.info? t with
   | some d,some i =>
    match aggD d with
    | true => match Nat.ble (Nat.add off i.size) n with
     | true => some (.agg (CT.slab ct i.size off))
     | false => none
    | false => match Nat.ble (Nat.succ off) n with
     | true => some (CT.get off ct)
     | false => none
   | _,_ => none
  | _ => none
 | .gptr g off =>
  match GTab.tab g with
  | some l =>
   match P.underlying t,P.info? t with
   | some d,some i =>
    match aggD d with
    | true => match Nat.ble (Nat.add off i.size) l.length with
     | true => some (.agg ((l.drop off).take i.size))
     | false => none
    | false => l[off]?
   | _,_ => none
  | none => none
 | _ => none
theorem yF {σ : Sg} {w : World} {g : Nat} {l : List AVal} (h : Glob σ w) (hl : GTab.tab g = some l) (P : Program) (off k : Nat) (hk : off + k ≤ l.length) :
  ∃ l' : List Value,(∀ τ : Sg,DenL τ ((l.drop off).take k) l') ∧ (loadCells (at' g off) k).run P w = .ok ⟨l'⟩ w := by
 obtain ⟨_,_,h3⟩ := h.var g l hl
 have hf : ∀ j,j < k → ∃ v',w.cell? (at' g (off + j)) = some v' ∧ ∀ τ : Sg,Den τ (l[off + j]?.getD .und) v' := by
  intro j hj
  have hlt : off + j < l.length := by omega
  obtain ⟨v',e,d⟩ := h3 (off + j) l[off + j] (by simp [List.getElem?_eq_getElem hlt])
  exact ⟨v',e,by simpa [List.getElem?_eq_getElem hlt] using d⟩
 refine ⟨(List.range k).map fun j => (w.cell? (at' g (off + j))).getD undef,fun τ => ?_,?_⟩
 ·refine DenL.of_get (by simp; omega) ?_
  intro i v v' e1 e2
  have hi : i < k := by
   rcases Nat.lt_or_ge i k with h | h
   ·exact h
   ·rw [List.getElem?_eq_none (by simp; omega)] at e2; cases e2
  obtain ⟨u,q1,q2⟩ := hf i hi
  simp [hi,q1] at e2
  subst e2
  have hlt : off + i < l.length := by omega
  have : v = l[off + i]?.getD .und := by
   simp [hi,List.getElem?_drop,List.getElem?_eq_getElem hlt] at e1
   simp [List.getElem?_eq_getElem hlt,e1]
  rw [this]
  exact q2 τ
 ·refine run_loadCells (P := P) w (at' g off) k _ (fun j hj => ?_)
  obtain ⟨u,q1,_⟩ := hf j hj
  rw [qM,q1]
  simp
theorem zo {σ : Sg} {H : Heap} {nx b n cb sz : Nat} {w : World} {ct : CT} {olds : List Nat} {s : Bool} (h : Rel σ H nx w) (ho : get5 b H = some (.cells n ct olds s)) (hb : σ b = some (cb,sz))
  (P : Program) (off k : Nat) (hk : off + k ≤ n) : ∃ l : List Value,l.length = k ∧ DenL σ (CT.slab ct k off) l ∧ (∀ j,j < k → w.cell? (at' cb (off + j)) = l[j]?) ∧ (loadCells (at' cb off) k).run P w = .ok ⟨l⟩ w := by
 obtain ⟨_,_,_,h4⟩ := h.obj b _ cb sz ho hb
 have f : ∃ f : Nat → Value,∀ j,j < k → w.cell? (at' cb (off + j)) = some (f j) ∧ Den σ (ct.get (off + j)) (f j) := by
  refine ⟨fun j => (w.cell? (at' cb (off + j))).getD undef,fun j hj => ?_⟩
  obtain ⟨v',e,d⟩ := h4 (off + j) (by omega)
  simp only [e,Option.getD_some]
  exact ⟨trivial,d⟩
 obtain ⟨f,hf⟩ := f
 refine ⟨(List.range k).map f,by simp,?_,?_,?_⟩
 ·refine DenL.of_get (by simp [CT.slab_length]) ?_
  intro i v v' e1 e2
  have hi : i < k := by
   rcases Nat.lt_or_ge i k with h | h
   ·exact h
   ·rw [List.getElem?_eq_none (by simp [CT.slab_length]; exact h)] at e1; cases e1
  rw [CT.slab_get ct k off i hi] at e1
  cases e1
  simp [hi] at e2
  subst e2
  exact (hf i hi).2
 ·intro j hj
  rw [(hf j hj).1]
  simp [hj]
 ·exact run_loadCells (P := P) w (at' cb off) k f (fun j hj => by rw [qM]; exact (hf j hj).1)
theorem vJ {P : Program} {t : TypeId} {H : Heap} {v x : AVal} {σ : Sg} {nx : Nat} {w : World} {v' : Value} (hr : Rel σ H nx w) (hv : Den σ v v') (h : jN P t H v = some x) :
  ∃ x',Den σ x x' ∧ (Instr.loadAt t v').run P w = .ok x' w := by
 unfold jN at h
 split at h
 ·rename_i b off
  split at h
  ·rename_i n ct olds s ho
   split at h
   ·rename_i d i hd hi
    cases hv with
    | @ptr _ _ cb sz hb =>
     split at h
     ·rename_i hagg
      split at h
      ·rename_i hle
       have hle' := Nat.le_of_ble_eq_true hle
       cases h
       obtain ⟨l,_,hl,_,hrun⟩ := zo hr ho hb P off i.size hle'
       exact ⟨_,.agg hl,by simp [Instr.loadAt,Instr.sureAddr,loadVar,zg hd,hagg,qf hi,hrun]⟩
      ·cases h
     ·rename_i hagg
      split at h
      ·rename_i hle
       have hle' := Nat.le_of_ble_eq_true hle
       cases h
       obtain ⟨_,_,_,h4⟩ := hr.obj b _ cb sz ho hb
       obtain ⟨u,e,du⟩ := h4 off (by omega)
       exact ⟨u,du,by simp [Instr.loadAt,Instr.sureAddr,loadVar,zg hd,hagg,e]⟩
      ·cases h
   ·cases h
  ·cases h
 ·rename_i g off
  split at h <;> try (cases h; done)
  rename_i l hl
  split at h <;> try (cases h; done)
  rename_i d i hd hi
  cases hv
  split at h
  ·rename_i hagg
   split at h <;> try (cases h; done)
   rename_i hle
   have hle' : off + i.size ≤ l.length := Nat.le_of_ble_eq_true hle
   cases h
   obtain ⟨l',hd',hrun⟩ := yF hr.glob hl P off i.size hle'
   exact ⟨_,.agg (hd' σ),by simp [Instr.loadAt,Instr.sureAddr,loadVar,zg hd,hagg,qf hi,hrun]⟩
  ·rename_i hagg
   obtain ⟨_,_,h3⟩ := hr.glob.var g l hl
   obtain ⟨v',e,du⟩ := h3 off x h
   exact ⟨v',du σ,by simp [Instr.loadAt,Instr.sureAddr,loadVar,zg hd,hagg,e]⟩
 ·cases h
def jl (P : Program) (t : TypeId) (a : Operand) (ρ : Operand → AVal) (H : Heap) (nx : Nat) : Option ARes :=
 match jN P t H (ρ a) with
 | some v => some (.val v H nx)
 | none => none
theorem Zo {P : Program} {o : Oper} {t : TypeId} {a : Operand} {ρ : Operand → AVal} {H : Heap} {nx : Nat} {r : ARes} (ho : o.op = .load t a)
  (h : jl P t a ρ H nx = some r) : OpOK P o ρ H nx r := by
 unfold jl at h
 split at h
 ·rename_i v hv
  cases h
  refine OpOK.pure fun σ w ρ' hr hd => ?_
  obtain ⟨x',dx,hrun⟩ := vJ hr (hd a) hv
  exact ⟨x',dx,by simp [execOp,ho,hrun]⟩
 ·cases h
def kc : AVal → Option (List AVal)
 | .und => none
 | .tuple _ => none
 | .agg cs => some cs
 | v => some [v]
theorem kK {σ : Sg} {v : AVal} {v' : Value} {cs : List AVal} (h : kc v = some cs) (hd : Den σ v v') : DenL σ cs v'.cells.toList := by
 unfold kc at h
 split at h
 ·cases h
 ·cases h
 ·cases h; cases hd with | agg hl => exact hl
 ·rename_i h1 h2 h3
  cases h
  have e : v'.cells = #[v'] := by
   cases hd <;> first
    | rfl
    | exact (h1 rfl).elim
    | exact (h2 _ rfl).elim
    | exact (h3 _ rfl).elim
  rw [e]
  exact .cons hd .nil
def qx : AVal → Bool
 | .und | .agg _ | .tuple _ => false
 | _ => true
theorem Z2 {σ : Sg} {v : AVal} {v' : Value} (h : qx v = true) (hd : Den σ v v') : v'.oneCell' = true := by
 cases hd <;> first | rfl | (simp [qx] at h)
def qo : List AVal → Bool
 | [] => true
 | v :: l => match qx v with | true => qo l | false => false
theorem jo {σ : Sg} : ∀ {l : List AVal} {l' : List Value},qo l = true → DenL σ l l' → ∀ v,v ∈ l' → v.oneCell' = true
 | _,_,_,.nil,v,h => by simp at h
 | a :: l,b :: l',ha,.cons hd t,v,h => by
  unfold qo at ha
  split at ha
  ·rename_i hc
   rcases List.mem_cons.1 h with rfl | h
   ·exact Z2 hc hd
   ·exact jo ha t v h
  ·cases ha
def relay (l : List AVal) (len off n : Nat) (ct : CT) : CT :=
 match Nat.beq off 0,Nat.beq len n,Nat.ble n 4096 with
 | true,true,true => CT.ofL n l
 | _,_,_ => CT.lay l off ct
theorem QZ {l : List AVal} {off n : Nat} {ct : CT} (h : n ≤ ct.cap) : n ≤ (relay l l.length off n ct).cap := by
 unfold relay
 split
 ·rename_i h3; exact CT.ofL_cap n l (Nat.le_of_ble_eq_true h3)
 ·rw [CT.lay_cap]; exact h
theorem QQ {l : List AVal} {off n : Nat} {ct : CT} (h : n ≤ ct.cap) (_ho : off + l.length ≤ n) (i : Nat) (hi : i < n) : (relay l l.length off n ct).get i = (CT.lay l off ct).get i := by
 unfold relay
 split
 ·rename_i h1 h2 h3
  have e1 := Nat.eq_of_beq_eq_true h1
  have e2 := Nat.eq_of_beq_eq_true h2
  rw [CT.get_ofL n l i (Nat.le_of_ble_eq_true h3) hi,CT.lay_get l off ct i (by omega) (by omega),if_pos (by omega)]
  congr 1
  omega
 ·rfl
def zt (P : Program) (t : TypeId) (H : Heap) (a x : AVal) : Option Heap :=
 match a,kc x,P.info? t with
 | .ptr b off,some cs,some i =>
  match get5 b H with
  | some (.cells n ct olds false) =>
   match Nat.beq cs.length i.size,Nat.ble (Nat.add off i.size) n,qo cs with
   | true,true,true => some (set5 b (some (.cells n (relay cs i.size off n ct) [] false)) (dels olds H))
   | _,_,_ => none
  | _ => none
 | _,_,_ => none
theorem Rel.relay {σ : Sg} {H : Heap} {nx b n : Nat} {w : World} {ct ct' : CT} {olds : List Nat} {s : Bool} (h : Rel σ (set5 b (some (.cells n ct olds s)) H) nx w) (hb : ∃ p,σ b = some p)
  (hcap : n ≤ ct'.cap) (hg : ∀ i,i < n → ct'.get i = ct.get i) : Rel σ (set5 b (some (.cells n ct' olds s)) H) nx w := by
 obtain ⟨⟨cb,sz⟩,hb⟩ := hb
 have hlim := h.lim
 have lt : ∀ {c p},σ c = some p → c < 1048576 := fun {c p} hc => by obtain ⟨cb,sz⟩ := p; have := (h.dom c cb sz hc).1; omega
 have bn := lt hb
 have key : ∀ c o,c < 1048576 → get5 c (set5 b (some (.cells n ct' olds s)) H) = some o → ∃ o',get5 c (set5 b (some (.cells n ct olds s)) H) = some o' ∧ o'.olds = o.olds ∧ o'.sup = o.sup := by
  intro c o hc e
  by_cases hcb : b = c
  ·subst hcb; rw [qg] at e; cases e; exact ⟨_,qg _ _ _,rfl,rfl⟩
  ·rw [qr hcb bn hc] at e; exact ⟨o,by rw [qr hcb bn hc]; exact e,rfl,rfl⟩
 refine ⟨h.lim,h.dom,?_,?_,?_,?_,h.glob⟩
 ·intro c o x z e1 e2
  by_cases hcb : b = c
  ·subst hcb
   rw [qg] at e1
   cases e1
   obtain ⟨a1,a2,a3,a4⟩ := h.obj b _ x z (qg _ _ _) e2
   exact ⟨a1,hcap,a3,fun i hi => by rw [hg i hi]; exact a4 i hi⟩
  ·rw [qr hcb bn (lt e2)] at e1
   exact h.obj c o x z (by rw [qr hcb bn (lt e2)]; exact e1) e2
 ·intro c c' o o' x z z' e1 e2 e3 e4
  obtain ⟨p,f1,g1,_⟩ := key c o (lt e3) e1
  obtain ⟨q,f2,g2,_⟩ := key c' o' (lt e4) e2
  rw [← g1,← g2]
  exact h.sep c c' p q x z z' f1 f2 e3 e4
 ·intro c c' o o' p e1 e2 e3 e4
  obtain ⟨q,f2,g2,_⟩ := key c' o' (lt e3) e2
  rw [← g2] at e4
  obtain ⟨p',hp'⟩ := h.old c' q p f2 e3 c e4
  obtain ⟨r,f1,_,g1⟩ := key c o (lt hp') e1
  rw [← g1]
  exact h.sup c c' r q p f1 f2 e3 e4
 ·intro c o p e1 e2 c' e3
  obtain ⟨q,f1,g1,_⟩ := key c o (lt e2) e1
  rw [← g1] at e3
  exact h.old c q p f1 e2 c' e3
theorem Ext.relay {σ σ' : Sg} {H H' : Heap} {nx nx' b : Nat} {w w' : World} {x y : Option AObj} (h : Ext σ σ' H (set5 b x H') nx nx' w w') (hb : ∃ p,σ b = some p) (bn : b < 1048576) (hl : nx ≤ 1048576) :
  Ext σ σ' H (set5 b y H') nx nx' w w' := by
 obtain ⟨p,hb⟩ := hb
 refine { h with pend := fun c hc hn => ?_ }
 obtain ⟨h1,h2⟩ := h.pend c hc hn
 refine ⟨h1,?_⟩
 have hcb : b ≠ c := fun e => by subst e; rw [hb] at hn; cases hn
 rw [qr hcb bn (by omega)] at h2 ⊢
 exact h2
theorem Q4 {P : Program} {t : TypeId} {H H' : Heap} {a x : AVal} {σ : Sg} {nx : Nat} {w : World} {a' x' : Value} (hr : Rel σ H nx w) (ha : Den σ a a') (hx : Den σ x x')
  (h : zt P t H a x = some H') : ∃ w',Rel σ H' nx w' ∧ Ext σ σ H H' nx nx w w' ∧ (Instr.storeAt t a' x').run P w = .ok () w' := by
 unfold zt at h
 split at h
 ·rename_i b off cs i hcs hi
  split at h
  ·rename_i n ct olds ho
   split at h
   ·rename_i h1 h2 h3
    have e1 := Nat.eq_of_beq_eq_true h1
    have e2 := Nat.le_of_ble_eq_true h2
    cases h
    cases ha with
    | @ptr _ _ cb sz hb =>
     have hlim := hr.lim
     have bn : b < 1048576 := by have := (hr.dom b cb sz hb).1; omega
     have hl := kK hcs hx
     obtain ⟨o1,o2,o3,o4⟩ := hr.obj b _ cb sz ho hb
     have hadd : off + cs.length ≤ n := by simp at e2; omega
     obtain ⟨r1,r2⟩ := hr.store hb ho hadd hl
     rw [← e1]
     refine ⟨qE w cb off x'.cells.toList,r1.relay ⟨_,hb⟩ (QZ o2) (QQ o2 hadd),r2.relay ⟨_,hb⟩ bn hlim,?_⟩
     have hlen := hl.length
     have hrun := qQ (P := P) x'.cells.toList w cb off 0 (jo h3 hl) (fun k hk1 hk2 => o3 k (by omega))
     have hsz : x'.cells.size = i.size := by rw [← e1,hlen]; simp
     simp only [Instr.storeAt,Instr.sureAddr,storeVar,Sem.run_bind,Sem.run_pure,Result.andThen_ok,qf hi,hsz,Sem.run_ite]
     simpa using hrun
   ·cases h
  ·cases h
 ·cases h
def jr (P : Program) (t : TypeId) (a x : Operand) (ρ : Operand → AVal) (H : Heap) (nx : Nat) : Option ARes :=
 match zt P t H (ρ a) (ρ x) with
 | some H' => some (.val .und H' nx)
 | none => none
theorem y9 {P : Program} {o : Oper} {t : TypeId} {a x : Operand} {ρ : Operand → AVal} {H : Heap} {nx : Nat} {r : ARes} (ho : o.op = .store t a x)
  (h : jr P t a x ρ H nx = some r) : OpOK P o ρ H nx r := by
 unfold jr at h
 split at h
 ·rename_i H' hv
  cases h
  intro σ w ρ' hr hd
  obtain ⟨w',r1,r2,hrun⟩ := Q4 hr (hd a) (hd x) hv
  exact ⟨σ,w',undef,r1,r2,.und _,.inr ⟨by simp [execOp,ho,hrun],rfl⟩⟩
 ·cases h
end
end Go.Ev
namespace Go.Ev
variable [GTab]
noncomputable section
def qZ {β : Type} (n : Int) (k : Int → β) : β :=
 Int.rec (motive := fun _ => (Int → β) → β) (fun a k => Nat.rec (k (.ofNat 0)) (fun m _ => k (.ofNat (Nat.succ m))) a) (fun a k => Nat.rec (k (.negSucc 0)) (fun m _ => k (.negSucc (Nat.succ m))) a) n k
theorem qp {β : Type} (n : Int) (k : Int → β) : qZ n k = k n := by
 cases n with
 | ofNat a => cases a <;> rfl
 | negSucc a => cases a <;> rfl
def qn {β : Type} (n : Nat) (k : Nat → β) : β := Nat.rec (motive := fun _ => β) (k 0) (fun m _ => k (Nat.succ m)) n
theorem qb {β : Type} (n : Nat) (k : Nat → β) : qn n k = k n := by cases n <;> rfl
def fits (k : IntKind) (n : Int) : Bool :=
 Int.rec (motive := fun _ => IntKind → Bool)
  (fun a k => IntKind.rec (Nat.ble a 127) (Nat.ble a 32767) (Nat.ble a 2147483647) (Nat.ble a 9223372036854775807) (Nat.ble a 255) (Nat.ble a 65535) (Nat.ble a 4294967295) (Nat.ble a 18446744073709551615) k)
  (fun a k => IntKind.rec (Nat.ble a 127) (Nat.ble a 32767) (Nat.ble a 2147483647) (Nat.ble a 9223372036854775807) false false false false k) n k
theorem KV {k : IntKind} {n : Int} (h : fits k n = true) : k.wrap n = n := by
 have le : ∀ {a b : Nat},Nat.ble a b = true → a ≤ b := fun h => Nat.le_of_ble_eq_true h
 cases n with
 | ofNat a =>
  have e : Int.ofNat a = (a : Int) := rfl
  rw [e] at h ⊢
  cases k
  ·have := le (b := 127) h; exact IntWalk.i8_in _ (by omega)
  ·have := le (b := 32767) h; exact IntWalk.i16_in _ (by omega)
  ·have := le (b := 2147483647) h; exact IntWalk.i32_in _ (by omega)
  ·have := le (b := 9223372036854775807) h; exact IntWalk.i64_in _ (by omega)
  ·have := le (b := 255) h; exact IntWalk.u8_in _ (by omega)
  ·have := le (b := 65535) h; exact IntWalk.u16_in _ (by omega)
  ·have := le (b := 4294967295) h; exact IntWalk.u32_in _ (by omega)
  ·have := le (b := 18446744073709551615) h; exact IntWalk.u64_in _ (by omega)
 | negSucc a =>
  cases k
  ·have := le (b := 127) h; exact IntWalk.i8_in _ (by omega)
  ·have := le (b := 32767) h; exact IntWalk.i16_in _ (by omega)
  ·have := le (b := 2147483647) h; exact IntWalk.i32_in _ (by omega)
  ·have := le (b := 9223372036854775807) h; exact IntWalk.i64_in _ (by omega)
  all_goals (cases h)
def jG (k : IntKind) (n : Int) : Int := Bool.rec (k.wrap n) n (fits k n)
theorem zu (k : IntKind) (n : Int) : jG k n = k.wrap n := by
 unfold jG
 cases h : fits k n with
 | true => exact (KV h).symm
 | false => rfl
def ilt (a b : Int) : Bool := Int.rec (motive := fun _ => Int → Bool) (fun x b => Int.rec (motive := fun _ => Nat → Bool) (fun y x => Nat.ble (Nat.succ x) y) (fun _ _ => false) b x) (fun x b => Int.rec (motive := fun _ => Nat → Bool) (fun _ _ => true) (fun y x => Nat.ble (Nat.succ y) x) b x) a b
def ieq (a b : Int) : Bool := Int.rec (motive := fun _ => Int → Bool) (fun x b => Int.rec (motive := fun _ => Nat → Bool) (fun y x => Nat.beq x y) (fun _ _ => false) b x) (fun x b => Int.rec (motive := fun _ => Nat → Bool) (fun _ _ => false) (fun y x => Nat.beq x y) b x) a b
theorem zH (a b : Int) : ilt a b = decide (a < b) := by
 rw [Bool.eq_iff_iff,decide_eq_true_iff]
 cases a with
 | ofNat x => cases b with
  | ofNat y => show Nat.ble (x + 1) y = true ↔ _; rw [Nat.ble_eq]; simp; omega
  | negSucc y => show false = true ↔ _; simp; omega
 | negSucc x => cases b with
  | ofNat y => show true = true ↔ _; simp; omega
  | negSucc y => show Nat.ble (y + 1) x = true ↔ _; rw [Nat.ble_eq]; omega
theorem kJ (a b : Int) : ieq a b = (a == b) := by
 rw [Bool.eq_iff_iff,beq_iff_eq]
 cases a with
 | ofNat x => cases b with
  | ofNat y => show Nat.beq x y = true ↔ _; rw [Nat.beq_eq]; simp; omega
  | negSucc y => show false = true ↔ _; simp
 | negSucc x => cases b with
  | ofNat y => show false = true ↔ _; simp
  | negSucc y => show Nat.beq x y = true ↔ _; rw [Nat.beq_eq]; simp
def bnot (b : Bool) : Bool := Bool.rec true false b
theorem zY (b : Bool) : bnot b = !b := by cases b <;> rfl
def aInt (op : BinOp) (k : IntKind) (a b : Int) : Option AVal :=
 match op with
 | .add => qZ (jG k (Int.add a b)) fun r => some (.int k r)
 | .sub => qZ (jG k (Int.sub a b)) fun r => some (.int k r)
 | .mul => qZ (jG k (Int.mul a b)) fun r => some (.int k r)
 | .quo => match ieq b 0 with | true => none | false => qZ (jG k (Int.tdiv a b)) fun r => some (.int k r)
 | .rem => match ieq b 0 with | true => none | false => qZ (Int.tmod a b) fun r => some (.int k r)
 | .and => qZ (k.wrap (BitVec.ofInt k.bits a &&& BitVec.ofInt k.bits b).toNat) fun r => some (.int k r)
 | .or => qZ (k.wrap (BitVec.ofInt k.bits a ||| BitVec.ofInt k.bits b).toNat) fun r => some (.int k r)
 | .xor => qZ (k.wrap (BitVec.ofInt k.bits a ^^^ BitVec.ofInt k.bits b).toNat) fun r => some (.int k r)
 | .andNot => qZ (k.wrap (BitVec.ofInt k.bits a &&& ~~~BitVec.ofInt k.bits b).toNat) fun r => some (.int k r)
 | .eql => some (.bool (ieq a b))
 | .neq => some (.bool (bnot (ieq a b)))
 | .lss => some (.bool (ilt a b))
 | .leq => some (.bool (bnot (ilt b a)))
 | .gtr => some (.bool (ilt b a))
 | .geq => some (.bool (bnot (ilt a b)))
 | _ => none
def wN (op : BinOp) (k : IntKind) (a b : Int) : Option AVal :=
 match ilt b 0,op with
 | false,.shl => qZ (k.wrap (a * 2 ^ (min b.toNat k.bits))) fun r => some (.int k r)
 | false,.shr => qZ (a.fdiv (2 ^ (min b.toNat k.bits))) fun r => some (.int k r)
 | _,_ => none
theorem ZS {P : Program} {w : World} {op : BinOp} {k : IntKind} {a b : Int} {t : TypeId} {v : AVal} (σ : Sg) (h : aInt op k a b = some v) :
  ∃ v',Den σ v v' ∧ (binOp op t (.int k a) (.int k b)).run P w = .ok v' w := by
 unfold aInt at h
 split at h
 all_goals (try (cases h; done))
 all_goals (simp only [qp,zu,kJ,zH,zY] at h)
 case h_4 => split at h <;> first | (cases h; done) | (rename_i hz; cases h; exact ⟨_,.int _ _,by have : ¬ b = 0 := (by simpa using hz); simp [binOp,Op.intDiv,this]⟩)
 case h_5 => split at h <;> first | (cases h; done) | (rename_i hz; cases h; exact ⟨_,.int _ _,by have : ¬ b = 0 := (by simpa using hz); simp [binOp,Op.intDiv,this]⟩)
 all_goals (cases h)
 all_goals first
  | (refine ⟨_,.int _ _,?_⟩; simp only [binOp,ne_eq,not_true_eq_false,if_false,Op.intArith,Op.intBits]; rfl)
  | (refine ⟨_,.bool _,?_⟩; simp only [binOp,ne_eq,not_true_eq_false,if_false,Op.intCmp,Sem.run_pure]; done)
  | (refine ⟨_,.bool _,?_⟩; simp only [binOp,ne_eq,not_true_eq_false,if_false,Op.intCmp,Sem.run_pure]; rfl)
  | (refine ⟨_,.bool _,?_⟩; simp only [binOp,ne_eq,not_true_eq_false,if_false,Op.intCmp,Sem.run_pure]; congr 2; rw [Bool.eq_iff_iff]; simp)
theorem wA {P : Program} {w : World} {op : BinOp} {k k' : IntKind} {a b : Int} {t : TypeId} {v : AVal} (σ : Sg) (h : wN op k a b = some v) :
  ∃ v',Den σ v v' ∧ (binOp op t (.int k a) (.int k' b)).run P w = .ok v' w := by
 unfold wN at h
 split at h
 ·rename_i h1
  rw [zH] at h1
  have h2 : ¬ b < 0 := by simpa using h1
  rw [qp] at h
  cases h
  exact ⟨_,.int _ _,by simp [binOp,Op.shift,h2]⟩
 ·rename_i h1
  rw [zH] at h1
  have h2 : ¬ b < 0 := by simpa using h1
  rw [qp] at h
  cases h
  exact ⟨_,.int _ _,by simp [binOp,Op.shift,h2]⟩
 ·cases h
theorem Jg (n x : Nat) : (dec n x).toList = digs n x := by rw [ByteArray.toList_eq]; rfl
theorem WD (n m x y : Nat) (h : y < 256 ^ m) : dec n x ++ dec m y = dec (n + m) (x * 256 ^ m + y) := by
 unfold dec
 rw [ByteArray.mk_append_mk,yn n m x y h]
theorem Xu {n m x y : Nat} (hx : x < 256 ^ n) (hy : y < 256 ^ m) : x * 256 ^ m + y < 256 ^ (n + m) := by
 rw [Nat.pow_add]
 have : (x + 1) * 256 ^ m ≤ 256 ^ n * 256 ^ m := Nat.mul_le_mul_right _ hx
 rw [Nat.add_mul] at this
 omega
theorem Vm (n x a b : Nat) (hb : b ≤ n) (hab : a ≤ b) : (dec n x).extract a b = dec (b - a) (x / 256 ^ (n - b) % 256 ^ (b - a)) := by
 rw [Lib.extract_eq,Qu,V5 n x a b hb hab]
 rfl
theorem Kz (m : Nat) : (256 : Nat) ^ m = 2 ^ (8 * m) := by rw [Nat.pow_mul]
def cutX (n x a b : Nat) : Nat := Nat.mod (Nat.shiftRight x (Nat.mul 8 (Nat.sub n b))) (Nat.pow 2 (Nat.mul 8 (Nat.sub b a)))
theorem KT (n x a b : Nat) : cutX n x a b = x / 256 ^ (n - b) % 256 ^ (b - a) := by
 rw [Kz,Kz,← Nat.shiftRight_eq_div_pow]
 rfl
def yk (op : BinOp) (n x m y : Nat) : Option AVal :=
 match op with
 | .add => match Nat.ble (Nat.add n m) 9223372036854775807 with
  | true => qn (Nat.add n m) fun l => qn (Nat.add (Nat.shiftLeft x (Nat.mul 8 m)) y) fun z => some (.str l z)
  | false => none
 | .eql => some (.bool (Bool.rec false (Nat.beq x y) (Nat.beq n m)))
 | .neq => some (.bool (Bool.rec true (bnot (Nat.beq x y)) (Nat.beq n m)))
 | _ => none
theorem qbm {n x m y : Nat} (hx : x < 256 ^ n) (hy : y < 256 ^ m) : ((dec n x).toList == (dec m y).toList) = Bool.rec false (Nat.beq x y) (Nat.beq n m) := by
 rw [Jg,Jg,Bool.eq_iff_iff,beq_iff_eq,qdk hx hy]
 cases h : Nat.beq n m with
 | true => have := Nat.eq_of_beq_eq_true h; simp [this]
 | false =>
  have : n ≠ m := fun e => by subst e; simp at h
  simp [this]
theorem Z6 {P : Program} {w : World} {op : BinOp} {n x m y : Nat} {t : TypeId} {v : AVal} (σ : Sg) (hx : x < 256 ^ n) (hy : y < 256 ^ m) (h : yk op n x m y = some v) :
  ∃ v',Den σ v v' ∧ (binOp op t (.string (dec n x)) (.string (dec m y))).run P w = .ok v' w := by
 unfold yk at h
 split at h
 ·split at h
  ·rename_i hle
   have hle' := Nat.le_of_ble_eq_true hle
   rw [qb,qb] at h
   cases h
   have e : Nat.add (Nat.shiftLeft x (Nat.mul 8 m)) y = x * 256 ^ m + y := by
    show x <<< (8 * m) + y = _
    rw [Nat.shiftLeft_eq,Kz]
   rw [e]
   refine ⟨.string (dec (n + m) (x * 256 ^ m + y)),.str _ _ (Xu hx hy),?_⟩
   have hsz : ¬ (((dec n x).size + (dec m y).size : Nat) : Int) > IntKind.i64.max := by
    rw [kW,kW]
    have : (n + m : Nat) ≤ 9223372036854775807 := hle'
    simp [IntKind.max,IntKind.signed,IntKind.bits]
    omega
   simp only [binOp,Op.stringOp,if_neg hsz,Sem.run_pure]
   rw [WD _ _ _ _ hy]
  ·cases h
 ·cases h
  exact ⟨_,.bool _,by simp only [binOp,Op.stringOp,Sem.run_pure,qbm hx hy]⟩
 ·cases h
  refine ⟨_,.bool _,?_⟩
  simp only [binOp,Op.stringOp,Sem.run_pure,qbm hx hy]
  cases Nat.beq n m <;> simp [zY]
 ·cases h
def jC : TypeDesc → AVal → Option Bool
 | .pointer _,.ptr _ _ => some false
 | .pointer _,.nilPtr => some true
 | .slice _,.slice .. => some false
 | .slice _,.nilSlice => some true
 | .map _ _,.map _ => some false
 | .map _ _,.nilMap => some true
 | .func _ _ _,.func _ _ _ => some false
 | .func _ _ _,.nilFunc => some true
 | .interface _,.iface _ _ => some false
 | .interface _,.nilIface => some true
 | _,_ => none
def zE : Operand → Bool
 | .const _ => true
 | _ => false
def aEq (P : Program) (t : TypeId) (x y : Operand) (a b : AVal) : Option Bool :=
 match P.underlying t with
 | some .bool => match a,b with
  | .bool p,.bool q => some (Bool.rec (bnot q) q p)
  | _,_ => none
 | some d => match jC d a,jC d b with
  | some p,some q => match zE x,zE y with
   | true,_ => match p with | true => some q | false => none
   | false,true => match q with | true => some p | false => none
   | _,_ => none
  | _,_ => none
 | none => none
theorem ko {P : Program} {w : World} {op : BinOp} {t : TypeId} {x y : Operand} {a b : Value} (h : (zE x = true ∨ zE y = true) ∨ ¬ (∃ cs ds,a = .agg cs ∧ b = .agg ds) ∧ ¬ (a = .nilIface ∧ b = .nilIface)) (hagg : ¬ (∃ cs ds,a = .agg cs ∧ b = .agg ds)) :
  (eqGuard op t x y a b).run P w = .ok () w := by
 have two : op = .eql ∨ op = .neq ∨ (eqGuard op t x y a b).run P w = .ok () w := by
  cases op <;> first | exact .inl rfl | exact .inr (.inl rfl) | exact .inr (.inr rfl)
 rcases two with rfl | rfl | h'
 case inr.inr => exact h'
 all_goals
  unfold eqGuard
  rw [if_neg (by simp)]
  cases a <;> cases b <;> first
   | rfl
   | exact (hagg ⟨_,_,rfl,rfl⟩).elim
   | skip
  rcases h with (h | h) | ⟨_,h⟩
  ·cases x <;> first | (simp [zE] at h; done) | rfl
  ·cases y <;> first | (simp [zE] at h; done) | (cases x <;> rfl)
  ·exact (h ⟨rfl,rfl⟩).elim
theorem wh {P : Program} {w : World} {t : TypeId} {a b : Value} {r : Bool} (h : ∀ d,(Op.equalIn (d + 1) t a b).run P w = .ok r w) : (Op.equal t a b).run P w = .ok r w := h 9999
structure Other (a b : Value) : Prop where
 agg : ¬ (∃ cs ds,a = .agg cs ∧ b = .agg ds)
 int : ∀ k n k' n',¬ (a = .int k n ∧ b = .int k' n')
 str : ∀ s s',¬ (a = .string s ∧ b = .string s')
 flt : ∀ k n k' n',¬ (a = .float k n ∧ b = .float k' n')
 cpl : ∀ k n m k' n' m',¬ (a = .complex k n m ∧ b = .complex k' n' m')
theorem QA {P : Program} {w : World} {t : TypeId} {d : TypeDesc} {a b : AVal} {a' b' : Value} {p q : Bool} {σ : Sg} (hu : P.underlying t = some d) (hp : jC d a = some p) (hq : jC d b = some q)
  (hpq : p = true ∨ q = true) (ha : Den σ a a') (hb : Den σ b b') : (Op.equal t a' b').run P w = .ok (Bool.rec p q p) w ∧ Other a' b' := by
 unfold jC at hp
 split at hp <;> try (cases hp; done)
 all_goals (cases hp; unfold jC at hq; split at hq <;> try (cases hq; done))
 all_goals (first | contradiction | skip)
 all_goals (cases hq)
 all_goals (first | (rcases hpq with e | e <;> cases e <;> done) | skip)
 all_goals (cases ha <;> cases hb)
 all_goals (refine ⟨wh fun d => ?_,⟨?_,?_,?_,?_,?_⟩⟩)
 all_goals (first | (simp; done) | skip)
 all_goals (unfold Op.equalIn; simp only [Sem.run_bind,qa hu,Result.andThen_ok]; rfl)
theorem wj {P : Program} {w : World} {t : TypeId} {x y : Operand} {a b : AVal} {a' b' : Value} {r : Bool} {σ : Sg} (h : aEq P t x y a b = some r) (ha : Den σ a a') (hb : Den σ b b') :
  (Op.equal t a' b').run P w = .ok r w ∧ Other a' b' ∧ ((zE x = true ∨ zE y = true) ∨ ¬ (a' = .nilIface ∧ b' = .nilIface)) := by
 unfold aEq at h
 split at h
 ·rename_i hu
  split at h
  ·cases h
   cases ha
   cases hb
   rename_i p q
   refine ⟨wh fun d => ?_,⟨by simp,by simp,by simp,by simp,by simp⟩,.inr (by simp)⟩
   unfold Op.equalIn
   simp only [Sem.run_bind,qa hu,Result.andThen_ok,Sem.run_pure]
   cases p <;> cases q <;> rfl
  ·cases h
 ·rename_i d hnb hu
  split at h
  ·rename_i p q hp hq
   split at h
   ·rename_i hc
    split at h
    ·cases h
     obtain ⟨h1,h2⟩ := QA (P := P) (w := w) hu hp hq (.inl rfl) ha hb
     exact ⟨h1,h2,.inl (.inl hc)⟩
    ·cases h
   ·rename_i hc
    split at h
    ·cases h
     obtain ⟨h1,h2⟩ := QA (P := P) (w := w) hu hp hq (.inr rfl) ha hb
     refine ⟨?_,h2,.inl (.inr hc)⟩
     cases r <;> exact h1
    ·cases h
   ·cases h
  ·cases h
 ·cases h
def w64 : IntKind → Bool
 | .i64 | .u64 => true
 | _ => false
theorem qF.symm {a b : Int} (h : qF a b) : qF b a := by obtain ⟨q,h⟩ := h; exact ⟨-q,by omega⟩
theorem qF.trans {a b c : Int} (h : qF a b) (g : qF b c) : qF a c := by obtain ⟨q,h⟩ := h; obtain ⟨r,g⟩ := g; exact ⟨q + r,by omega⟩
theorem qF.add {a b c d : Int} (h : qF a b) (g : qF c d) : qF (a + c) (b + d) := by obtain ⟨q,h⟩ := h; obtain ⟨r,g⟩ := g; exact ⟨q + r,by omega⟩
theorem qF.sub {a b c d : Int} (h : qF a b) (g : qF c d) : qF (a - c) (b - d) := by obtain ⟨q,h⟩ := h; obtain ⟨r,g⟩ := g; exact ⟨q - r,by omega⟩
theorem qF.mul {a b c d : Int} (h : qF a b) (g : qF c d) : qF (a * c) (b * d) := by
 obtain ⟨q,rfl⟩ := h; obtain ⟨r,rfl⟩ := g
 refine ⟨b * r + q * d + q * r * 18446744073709551616,?_⟩
 simp only [Int.add_mul,Int.mul_add]
 have e1 : b * (r * 18446744073709551616) = b * r * 18446744073709551616 := by rw [Int.mul_assoc]
 have e2 : q * 18446744073709551616 * d = q * d * 18446744073709551616 := by rw [Int.mul_assoc,Int.mul_comm 18446744073709551616 d,← Int.mul_assoc]
 have e3 : q * 18446744073709551616 * (r * 18446744073709551616) = q * r * 18446744073709551616 * 18446744073709551616 := by
  rw [Int.mul_assoc q,← Int.mul_assoc 18446744073709551616 r,Int.mul_comm 18446744073709551616 r,Int.mul_assoc r,← Int.mul_assoc q r,Int.mul_assoc (q * r)]
 rw [e1,e2,e3]
 omega
theorem vy (n : Int) : IntKind.i64.wrap n = if n % 18446744073709551616 ≥ 9223372036854775808 then n % 18446744073709551616 - 18446744073709551616 else n % 18446744073709551616 := by
 simp [IntKind.wrap,IntKind.bits,IntKind.signed]
theorem Z3 (n : Int) : IntKind.u64.wrap n = n % 18446744073709551616 := by
 simp [IntKind.wrap,IntKind.bits,IntKind.signed]
theorem qF.mod {a b : Int} (h : qF a b) : a % 18446744073709551616 = b % 18446744073709551616 := by obtain ⟨q,h⟩ := h; omega
theorem qF.wrap {k : IntKind} (hk : w64 k = true) {a b : Int} (h : qF a b) : k.wrap a = k.wrap b := by
 cases k <;> first | cases hk | skip
 ·rw [vy,vy,h.mod]
 ·rw [Z3,Z3,h.mod]
theorem Q5 {k : IntKind} (hk : w64 k = true) (a : Int) : qF (k.wrap a) a := by
 cases k <;> first | cases hk | skip
 ·rw [vy]
  split
  ·exact ⟨-(a / 18446744073709551616) - 1,by omega⟩
  ·exact ⟨-(a / 18446744073709551616),by omega⟩
 ·rw [Z3]; exact ⟨-(a / 18446744073709551616),by omega⟩
def WU : AVal → Option (IntKind × Nat)
 | .anyInt k m i => match Nat.beq m 65536 with
  | true => some (k,i)
  | false => none
 | .int k n => match fits k n,GTab.con n with
  | true,some i => some (k,i)
  | _,_ => none
 | _ => none
theorem K0 {σ : Sg} {a : AVal} {v : Value} {k : IntKind} {i : Nat} (hk : w64 k = true) (h : WU a = some (k,i)) (hd : Den σ a v) : ∃ n,v = .int k n ∧ qF n (GTab.val i) ∧ k.wrap n = n := by
 unfold WU at h
 split at h <;> try (cases h; done)
 ·rename_i k' m i'
  split at h <;> try (cases h; done)
  rename_i hm
  cases h
  have hm' := Nat.eq_of_beq_eq_true hm
  subst hm'
  cases hd with
  | anyInt _ _ _ n hn =>
   have hn' : n = k.wrap (GTab.val i) := by unfold vM at hn; rwa [if_pos rfl] at hn
   subst hn'
   exact ⟨_,rfl,Q5 hk _,(Q5 hk _).wrap hk⟩
 ·rename_i k' n
  split at h <;> try (cases h; done)
  rename_i i' hf hc
  cases h
  cases hd
  exact ⟨n,rfl,GTab.conOK _ _ hc,KV hf⟩
def symR (k : IntKind) : Option Nat → Option AVal
 | some r => match GTab.lit r with
  | some n => qZ (jG k n) fun n => some (.int k n)
  | none => some (.anyInt k 65536 r)
 | none => none
def symB (neg : Bool) : Option Bool → Option AVal
 | some b => some (.bool (Bool.rec b (bnot b) neg))
 | none => none
def Jf : IntKind → Bool
 | .i64 => true
 | _ => false
def KL (op : BinOp) (a b : AVal) : Option AVal :=
 match WU a,WU b with
 | some (k,i),some (k',j) => match decide (k = k'),w64 k with
  | true,true => match op with
   | .add => symR k (GTab.add i j)
   | .sub => symR k (GTab.sub i j)
   | .mul => symR k (GTab.mul i j)
   | .quo => match Jf k with | true => symR k (GTab.quo i j) | false => none
   | .rem => match Jf k with | true => symR k (GTab.rem i j) | false => none
   | .eql => symB false (GTab.eq i j)
   | .neq => symB true (GTab.eq i j)
   | .lss => match Jf k with | true => symB false (GTab.lt i j) | false => none
   | .gtr => match Jf k with | true => symB false (GTab.lt j i) | false => none
   | .leq => match Jf k with | true => symB true (GTab.lt j i) | false => none
   | .geq => match Jf k with | true => symB true (GTab.lt i j) | false => none
   | _ => none
  | _,_ => none
 | _,_ => none
theorem Qt {σ : Sg} {k : IntKind} {o : Option Nat} {v : AVal} {n : Int} (hk : w64 k = true) (h : symR k o = some v) (hs : ∀ r,o = some r → qF n (GTab.val r)) : Den σ v (.int k (k.wrap n)) := by
 cases o with
 | none => cases h
 | some r =>
  have h' : (match GTab.lit r with | some n => qZ (jG k n) fun n => some (AVal.int k n) | none => some (.anyInt k 65536 r)) = some v := h
  split at h'
  ·rename_i m hm
   rw [qp,zu] at h'
   cases h'
   have e : k.wrap n = k.wrap m := ((hs r rfl).trans (GTab.litOK _ _ hm).symm).wrap hk
   rw [e]
   exact .int _ _
  ·cases h'
   exact .anyInt _ _ _ _ (by unfold vM; rw [if_pos rfl]; exact (hs r rfl).wrap hk)
theorem Ky {σ : Sg} {neg : Bool} {o : Option Bool} {v : AVal} {c : Bool} (h : symB neg o = some v) (hs : ∀ b,o = some b → c = (if neg then !b else b)) : Den σ v (.bool c) := by
 cases o with
 | none => cases h
 | some b =>
  cases h
  rw [hs b rfl]
  cases neg <;> cases b <;> exact .bool _
theorem J0 {P : Program} {w : World} {σ : Sg} {op : BinOp} {t : TypeId} {a b v : AVal} {a' b' : Value} (h : KL op a b = some v) (ha : Den σ a a') (hb : Den σ b b') :
  ∃ k x y v',a' = .int k x ∧ b' = .int k y ∧ Den σ v v' ∧ (binOp op t (.int k x) (.int k y)).run P w = .ok v' w := by
 unfold KL at h
 split at h <;> try (cases h; done)
 rename_i k i k' j h1 h2
 split at h <;> try (cases h; done)
 rename_i hkk hk
 have hkk' : k = k' := by simpa using hkk
 subst hkk'
 obtain ⟨x,rfl,sx,wx⟩ := K0 hk h1 ha
 obtain ⟨y,rfl,sy,wy⟩ := K0 hk h2 hb
 have arith : ∀ {u : AVal},aInt op k x y = some u → ∃ v',Den σ u v' ∧ (binOp op t (.int k x) (.int k y)).run P w = .ok v' w := fun hu => ZS σ hu
 have val : ∀ {n : Int},aInt op k x y = some (.int k n) → Den σ v (.int k n) → ∃ v',Den σ v v' ∧ (binOp op t (.int k x) (.int k y)).run P w = .ok v' w := by
  intro n hu hd
  obtain ⟨v',d,hr⟩ := arith hu
  cases d
  exact ⟨_,hd,hr⟩
 have valB : ∀ {n : Bool},aInt op k x y = some (.bool n) → Den σ v (.bool n) → ∃ v',Den σ v v' ∧ (binOp op t (.int k x) (.int k y)).run P w = .ok v' w := by
  intro n hu hd
  obtain ⟨v',d,hr⟩ := arith hu
  cases d
  exact ⟨_,hd,hr⟩
 have eqv : qF (GTab.val i) (GTab.val j) ↔ x = y := by
  constructor
  ·intro hs
   rw [← wx,← wy]
   exact ((sx.trans hs).trans sy.symm).wrap hk
  ·intro e; subst e; exact sx.symm.trans sy
 have i64v : Jf k = true → IntKind.i64.wrap (GTab.val i) = x ∧ IntKind.i64.wrap (GTab.val j) = y := by
  intro hi
  have : k = .i64 := by cases k <;> first | rfl | cases hi
  subst this
  exact ⟨by rw [← sx.wrap hk,wx],by rw [← sy.wrap hk,wy]⟩
 suffices ∃ v',Den σ v v' ∧ (binOp op t (.int k x) (.int k y)).run P w = .ok v' w by
  obtain ⟨v',d,hr⟩ := this
  exact ⟨k,x,y,v',rfl,rfl,d,hr⟩
 split at h <;> try (cases h; done)
 ·exact val (n := k.wrap (Int.add x y)) (by simp only [aInt,qp,zu]) (Qt hk h fun r hr => (sx.add sy).trans (GTab.addOK _ _ _ hr))
 ·exact val (n := k.wrap (Int.sub x y)) (by simp only [aInt,qp,zu]) (Qt hk h fun r hr => (sx.sub sy).trans (GTab.subOK _ _ _ hr))
 ·exact val (n := k.wrap (Int.mul x y)) (by simp only [aInt,qp,zu]) (Qt hk h fun r hr => (sx.mul sy).trans (GTab.mulOK _ _ _ hr))
 ·split at h <;> try (cases h; done)
  rename_i hi
  obtain ⟨e1,e2⟩ := i64v hi
  cases ho : GTab.quo i j with
  | none => rw [ho] at h; cases h
  | some r =>
   obtain ⟨hne,hs⟩ := GTab.quoOK _ _ _ ho
   rw [e1,e2] at hs
   rw [e2] at hne
   have hz : ieq y 0 = false := by rw [kJ]; simpa using hne
   refine val (n := k.wrap (Int.tdiv x y)) (by simp only [aInt,hz,qp,zu]) (Qt hk h fun r' hr => ?_)
   rw [ho] at hr; cases hr; exact hs
 ·split at h <;> try (cases h; done)
  rename_i hi
  obtain ⟨e1,e2⟩ := i64v hi
  cases ho : GTab.rem i j with
  | none => rw [ho] at h; cases h
  | some r =>
   obtain ⟨hne,hs⟩ := GTab.remOK _ _ _ ho
   rw [e1,e2] at hs
   rw [e2] at hne
   have hz : ieq y 0 = false := by rw [kJ]; simpa using hne
   have hk64 : k = .i64 := by cases k <;> first | rfl | cases hi
   subst hk64
   have hw : IntKind.i64.wrap (Int.tmod x y) = Int.tmod x y := by
    have hx := wx
    rw [vy] at hx
    have b1 : x.tmod y < 9223372036854775808 ∧ -9223372036854775808 ≤ x.tmod y := by
     have hxr : x < 9223372036854775808 ∧ -9223372036854775808 ≤ x := by split at hx <;> omega
     have h1 : (x.tmod y).natAbs ≤ x.natAbs := by rw [Int.natAbs_tmod]; exact Nat.mod_le _ _
     have h2 : 0 ≤ x → 0 ≤ x.tmod y := fun h => Int.tmod_nonneg y h
     have h3 : x ≤ 0 → x.tmod y ≤ 0 := fun h => by have h4 := Int.tmod_nonneg y (show 0 ≤ -x by omega); rw [Int.neg_tmod] at h4; omega
     omega
    rw [vy]
    split <;> omega
   refine val (n := Int.tmod x y) (by simp only [aInt,hz,qp]) ?_
   have := Qt (σ := σ) (n := Int.tmod x y) hk h fun r' hr => by rw [ho] at hr; cases hr; exact hs
   rwa [hw] at this
 ·refine valB (n := ieq x y) rfl (Ky h fun b hb => ?_)
  have := GTab.eqOK _ _ _ hb
  rw [eqv] at this
  rw [kJ]
  show (x == y) = b
  rw [Bool.eq_iff_iff,beq_iff_eq]; exact this.symm
 ·refine valB (n := bnot (ieq x y)) rfl (Ky h fun b hb => ?_)
  have := GTab.eqOK _ _ _ hb
  rw [eqv] at this
  rw [kJ,zY]
  show (!(x == y)) = !b
  congr 1
  rw [Bool.eq_iff_iff,beq_iff_eq]; exact this.symm
 all_goals
  split at h <;> try (cases h; done)
  rename_i hi
  obtain ⟨e1,e2⟩ := i64v hi
  refine valB rfl (Ky h fun b hb => ?_)
  have := GTab.ltOK _ _ _ hb
  rw [e1,e2] at this
  subst this
  simp only [zH,zY]
  rfl
def symT (op : BinOp) (a b : AVal) : Option AVal :=
 match op,a,b with
 | .eql,.anyStr i,.anyStr j => match Nat.beq i j with | true => some (.bool true) | false => none
 | .neq,.anyStr i,.anyStr j => match Nat.beq i j with | true => some (.bool false) | false => none
 | .add,.anyStr i,.str n x => match GTab.cat i n x with | some r => some (.anyStr r) | none => none
 | .add,.str n x,.anyStr i => match GTab.catL n x i with | some r => some (.anyStr r) | none => none
 | _,_,_ => none
theorem qdm {P : Program} {w : World} {σ : Sg} {op : BinOp} {t : TypeId} {a b v : AVal} {a' b' : Value} (h : symT op a b = some v) (ha : Den σ a a') (hb : Den σ b b') :
  ∃ s s' v',a' = .string s ∧ b' = .string s' ∧ Den σ v v' ∧ (binOp op t (.string s) (.string s')).run P w = .ok v' w := by
 unfold symT at h
 have big : ∀ {n m : Nat},n + m ≤ 9223372036854775807 → ¬ ((n + m : Nat) : Int) > IntKind.i64.max := by
  intro n m h
  simp [IntKind.max,IntKind.signed,IntKind.bits]
  omega
 split at h <;> try (cases h; done)
 case h_3 =>
  split at h <;> try (cases h; done)
  rename_i r hr
  cases h
  cases ha
  cases hb
  obtain ⟨c1,c2⟩ := GTab.catOK _ _ _ _ hr
  refine ⟨_,_,_,rfl,rfl,.anyStr r,?_⟩
  rw [c1]
  simp only [binOp,Op.stringOp]
  rw [kW,if_neg (big c2)]
  rfl
 case h_4 =>
  split at h <;> try (cases h; done)
  rename_i r hr
  cases h
  cases ha
  cases hb
  obtain ⟨c1,c2⟩ := GTab.catLOK _ _ _ _ hr
  refine ⟨_,_,_,rfl,rfl,.anyStr r,?_⟩
  rw [c1]
  simp only [binOp,Op.stringOp]
  rw [kW,if_neg (big c2)]
  rfl
 all_goals
  split at h <;> try (cases h; done)
  rename_i hij
  have hij' := Nat.eq_of_beq_eq_true hij
  subst hij'
  cases h
  cases ha
  cases hb
  exact ⟨_,_,_,rfl,rfl,.bool _,by simp [binOp,Op.stringOp]⟩
def zn (P : Program) (op : BinOp) (t : TypeId) (x y : Operand) (ρ : Operand → AVal) (H : Heap) (nx : Nat) : Option ARes :=
 match ρ x,ρ y with
 | .int k a,.int k' b =>
  match op with
  | .shl | .shr => match wN op k a b with
   | some v => some (.val v H nx)
   | none => none
  | op => match decide (k = k') with
   | true => match aInt op k a b with
    | some v => some (.val v H nx)
    | none => none
   | false => none
 | .str n a,.str m b => match yk op n a m b with
  | some v => some (.val v H nx)
  | none => none
 | a,b => match KL op a b,symT op a b with
  | some v,_ => some (.val v H nx)
  | none,some v => some (.val v H nx)
  | none,none => match op with
  | .eql => match aEq P t x y a b with
   | some r => some (.val (.bool r) H nx)
   | none => none
  | .neq => match aEq P t x y a b with
   | some r => some (.val (.bool (bnot r)) H nx)
   | none => none
  | _ => none
theorem jQ {P : Program} {w : World} {op : BinOp} {t : TypeId} {x y : Operand} {k k' : IntKind} {a b : Int} : (eqGuard op t x y (.int k a) (.int k' b)).run P w = .ok () w := by
 unfold eqGuard; split <;> rfl
theorem wC {P : Program} {w : World} {op : BinOp} {t : TypeId} {x y : Operand} {a b : ByteArray} : (eqGuard op t x y (.string a) (.string b)).run P w = .ok () w := by
 unfold eqGuard; split <;> rfl
theorem wi {t : TypeId} {a b : Value} (h : Other a b) :
  binOp .eql t a b = (do pure (.bool (← Op.equal t a b))) ∧ binOp .neq t a b = (do pure (.bool (!(← Op.equal t a b)))) := by
 cases a <;> cases b <;> first | exact ⟨rfl,rfl⟩ | skip
 all_goals first
  | exact (h.int _ _ _ _ ⟨rfl,rfl⟩).elim
  | exact (h.str _ _ ⟨rfl,rfl⟩).elim
  | exact (h.flt _ _ _ _ ⟨rfl,rfl⟩).elim
  | exact (h.cpl _ _ _ _ _ _ ⟨rfl,rfl⟩).elim
theorem Z8 {P : Program} {o : Oper} {op : BinOp} {t u : TypeId} {x y : Operand} {ρ : Operand → AVal} {H : Heap} {nx : Nat} {r : ARes} (ho : o.op = .binOp op t x y u)
  (h : zn P op t x y ρ H nx = some r) : OpOK P o ρ H nx r := by
 unfold zn at h
 split at h
 ·rename_i k a k' b hx hy
  split at h
  ·split at h
   ·rename_i v hv
    cases h
    refine OpOK.pure fun σ w ρ' _ hd => ?_
    have d1 := hd x; have d2 := hd y; rw [hx] at d1; rw [hy] at d2
    obtain ⟨v',dv,hrun⟩ := wA (P := P) (w := w) (t := t) (k' := k') σ hv
    refine ⟨v',dv,?_⟩
    cases e1 : ρ' x <;> rw [e1] at d1 <;> cases d1
    cases e2 : ρ' y <;> rw [e2] at d2 <;> cases d2
    simp [execOp,ho,e1,e2,jQ,hrun]
   ·cases h
  ·split at h
   ·rename_i v hv
    cases h
    refine OpOK.pure fun σ w ρ' _ hd => ?_
    have d1 := hd x; have d2 := hd y; rw [hx] at d1; rw [hy] at d2
    obtain ⟨v',dv,hrun⟩ := wA (P := P) (w := w) (t := t) (k' := k') σ hv
    refine ⟨v',dv,?_⟩
    cases e1 : ρ' x <;> rw [e1] at d1 <;> cases d1
    cases e2 : ρ' y <;> rw [e2] at d2 <;> cases d2
    simp [execOp,ho,e1,e2,jQ,hrun]
   ·cases h
  ·split at h
   ·rename_i hk
    have hk' : k = k' := by simpa using hk
    subst hk'
    split at h
    ·rename_i v hv
     cases h
     refine OpOK.pure fun σ w ρ' _ hd => ?_
     have d1 := hd x; have d2 := hd y; rw [hx] at d1; rw [hy] at d2
     obtain ⟨v',dv,hrun⟩ := ZS (P := P) (w := w) (t := t) σ hv
     refine ⟨v',dv,?_⟩
     cases e1 : ρ' x <;> rw [e1] at d1 <;> cases d1
     cases e2 : ρ' y <;> rw [e2] at d2 <;> cases d2
     simp [execOp,ho,e1,e2,jQ,hrun]
    ·cases h
   ·cases h
 ·rename_i n a m b hx hy
  split at h
  ·rename_i v hv
   cases h
   refine OpOK.pure fun σ w ρ' _ hd => ?_
   have d1 := hd x; have d2 := hd y; rw [hx] at d1; rw [hy] at d2
   cases e1 : ρ' x <;> rw [e1] at d1 <;> cases d1
   cases e2 : ρ' y <;> rw [e2] at d2 <;> cases d2
   rename_i q1 q2
   obtain ⟨v',dv,hrun⟩ := Z6 (P := P) (w := w) (t := t) σ q1 q2 hv
   refine ⟨v',dv,?_⟩
   simp [execOp,ho,e1,e2,wC,hrun]
  ·cases h
 ·split at h
  ·rename_i v hv
   cases h
   refine OpOK.pure fun σ w ρ' _ hd => ?_
   obtain ⟨k,p,q,v',e1,e2,dv,hrun⟩ := J0 (P := P) (w := w) (t := t) hv (hd x) (hd y)
   refine ⟨v',dv,?_⟩
   simp [execOp,ho,e1,e2,jQ,hrun]
  ·rename_i v _ hv
   cases h
   refine OpOK.pure fun σ w ρ' _ hd => ?_
   obtain ⟨s,s',v',e1,e2,dv,hrun⟩ := qdm (P := P) (w := w) (t := t) hv (hd x) (hd y)
   refine ⟨v',dv,?_⟩
   simp [execOp,ho,e1,e2,wC,hrun]
  split at h
  ·split at h
   ·rename_i r' hr'
    cases h
    refine OpOK.pure fun σ w ρ' _ hd => ?_
    obtain ⟨hrun,hoth,hg⟩ := wj (P := P) (w := w) hr' (hd x) (hd y)
    refine ⟨.bool r',.bool _,?_⟩
    have hguard := ko (P := P) (w := w) (op := .eql) (t := t) (x := x) (y := y) (a := ρ' x) (b := ρ' y) (hg.imp id fun h => ⟨hoth.agg,h⟩) hoth.agg
    simp [execOp,ho,hguard,(wi (t := t) hoth).1,hrun]
   ·cases h
  ·split at h
   ·rename_i r' hr'
    cases h
    refine OpOK.pure fun σ w ρ' _ hd => ?_
    obtain ⟨hrun,hoth,hg⟩ := wj (P := P) (w := w) hr' (hd x) (hd y)
    refine ⟨.bool (bnot r'),.bool _,?_⟩
    have hguard := ko (P := P) (w := w) (op := .neq) (t := t) (x := x) (y := y) (a := ρ' x) (b := ρ' y) (hg.imp id fun h => ⟨hoth.agg,h⟩) hoth.agg
    simp [execOp,ho,hguard,(wi (t := t) hoth).2,hrun,zY]
   ·cases h
  ·cases h
end
end Go.Ev
end
section
namespace Go.Ev
variable [GTab] {P : Program} {H : Heap} {nx : Nat} {w : World} {o : Oper}
noncomputable section
def qT (P : Program) (s : TypeId) (x : Operand) (f : Nat) (ρ : Operand → AVal) (H : Heap) (nx : Nat) : Option ARes :=
 match P.underlying s with
 | some (.struct fields) => match fields[f]? with
  | some fd => match P.info? fd.type with
   | some i => match Nat.beq i.size 0 with
    | false => match ρ x with
     | .ptr b off => some (.val (.ptr b (Nat.add off fd.offset)) H nx)
     | .gptr g off => some (.val (.gptr g (Nat.add off fd.offset)) H nx)
     | _ => none
    | true => none
   | none => none
  | none => none
 | _ => none
theorem vq {s : TypeId} {x : Operand} {f : Nat} {ρ : Operand → AVal} {r : ARes} (ho : o.op = .fieldAddr s x f)
  (h : qT P s x f ρ H nx = some r) : OpOK P o ρ H nx r := by
 unfold qT at h
 split at h <;> try (cases h; done)
 rename_i fields hu
 split at h <;> try (cases h; done)
 rename_i fd hf
 split at h <;> try (cases h; done)
 rename_i i hi
 split at h <;> try (cases h; done)
 rename_i hz
 have hz' : ¬ i.size = 0 := fun e => by rw [e] at hz; cases hz
 split at h <;> try (cases h; done)
 ·rename_i b off hx
  cases h
  refine OpOK.pure fun σ w ρ' _ hd => ?_
  have d := hd x
  rw [hx] at d
  cases e : ρ' x <;> rw [e] at d <;> cases d
  rename_i cb sz hb
  refine ⟨.pointer (some (at' cb (off + fd.offset))),.ptr hb,?_⟩
  have := qM cb off fd.offset
  simp [execOp,ho,Instr.fieldAt,qa hu,hf,e,Instr.sureAddr,fieldPlace,qf hi,hz',this]
 ·rename_i g off hx
  cases h
  refine OpOK.pure fun σ w ρ' _ hd => ?_
  have d := hd x
  rw [hx] at d
  cases e : ρ' x <;> rw [e] at d <;> cases d
  refine ⟨.pointer (some (at' g (off + fd.offset))),.gptr _ _,?_⟩
  have := qM g off fd.offset
  simp [execOp,ho,Instr.fieldAt,qa hu,hf,e,Instr.sureAddr,fieldPlace,qf hi,hz',this]
def ye (P : Program) (t : TypeId) (cs : List AVal) (off : Nat) : Option AVal :=
 match P.underlying t,P.info? t with
 | some d,some i => match aggD d with
  | true => some (.agg (List.take i.size (List.drop off cs)))
  | false => match List.drop off cs with
   | v :: _ => some v
   | [] => none
 | _,_ => none
theorem yt {t : TypeId} {cs : List AVal} {cs' : List Value} {off : Nat} {v : AVal} {σ : Sg} (h : ye P t cs off = some v) (hd : DenL σ cs cs') :
  ∃ v',Den σ v v' ∧ (part t ⟨cs'⟩ off).run P w = .ok v' w := by
 unfold ye at h
 split at h <;> try (cases h; done)
 rename_i d i hu hi
 split at h
 ·rename_i hagg
  cases h
  refine ⟨.agg ⟨(cs'.drop off).take i.size⟩,.agg ((hd.drop off).take i.size),?_⟩
  have e : (Array.mk cs').extract off (off + i.size) = ⟨(cs'.drop off).take i.size⟩ := by
   apply Array.ext'
   simp [List.extract]
  simp [part,zg hu,hagg,qf hi]
 ·rename_i hagg
  split at h <;> try (cases h; done)
  rename_i v0 rest hdrop
  cases h
  have hl := hd.drop off
  rw [hdrop] at hl
  cases hl' : cs'.drop off with
  | nil => rw [hl'] at hl; cases hl
  | cons v' rest' =>
   rw [hl'] at hl
   cases hl with
   | cons hv _ =>
    refine ⟨v',hv,?_⟩
    have e : (Array.mk cs')[off]? = some v' := by
     have : cs'[off]? = some v' := by
      have := congrArg (fun l : List Value => l[0]?) hl'
      simpa using this
     simpa using this
    simp [part,zg hu,hagg,e]
def zZ (P : Program) (t : TypeId) (x : Operand) (f : Nat) (ρ : Operand → AVal) (H : Heap) (nx : Nat) : Option ARes :=
 match P.underlying t with
 | some (.struct fields) => match fields[f]? with
  | some fd => match ρ x with
   | .agg cs => match ye P fd.type cs fd.offset with
    | some v => some (.val v H nx)
    | none => none
   | _ => none
  | none => none
 | _ => none
theorem Qa {t : TypeId} {x : Operand} {f : Nat} {ρ : Operand → AVal} {r : ARes} (ho : o.op = .field t x f)
  (h : zZ P t x f ρ H nx = some r) : OpOK P o ρ H nx r := by
 unfold zZ at h
 split at h <;> try (cases h; done)
 rename_i fields hu
 split at h <;> try (cases h; done)
 rename_i fd hf
 split at h <;> try (cases h; done)
 rename_i cs hx
 split at h <;> try (cases h; done)
 rename_i v hv
 cases h
 refine OpOK.pure fun σ w ρ' _ hd => ?_
 have d := hd x
 rw [hx] at d
 cases e : ρ' x <;> rw [e] at d <;> cases d
 rename_i cs' hl
 obtain ⟨v',dv,hrun⟩ := yt (w := w) hv hl
 exact ⟨v',dv,by simp [execOp,ho,Instr.field,qa hu,hf,e,asAgg,hrun]⟩
def kx : Int → Option Nat
 | .ofNat n => some n
 | .negSucc _ => none
theorem z6 {i : Int} {n : Nat} (h : kx i = some n) : i = (n : Int) := by cases i <;> cases h; rfl
def qN (P : Program) (t : TypeId) (x ix : Operand) (ρ : Operand → AVal) (H : Heap) (nx : Nat) : Option ARes :=
 match ρ ix with
 | .int _ i => match kx i with
  | some n => match P.underlying t,ρ x with
   | some (.array len elem),.ptr b off => match Nat.ble (Nat.succ n) len,P.info? elem with
    | true,some e => some (.val (.ptr b (Nat.add off (Nat.mul n e.size))) H nx)
    | _,_ => none
   | some (.array len elem),.gptr g off => match Nat.ble (Nat.succ n) len,P.info? elem with
    | true,some e => some (.val (.gptr g (Nat.add off (Nat.mul n e.size))) H nx)
    | _,_ => none
   | some (.slice elem),.slice b off len _ _ => match Nat.ble (Nat.succ n) len,P.info? elem with
    | true,some e => some (.val (.ptr b (Nat.add off (Nat.mul n e.size))) H nx)
    | _,_ => none
   | _,_ => none
  | none => none
 | _ => none
theorem vw {t : TypeId} {x ix : Operand} {ρ : Operand → AVal} {r : ARes} (ho : o.op = .indexAddr t x ix)
  (h : qN P t x ix ρ H nx = some r) : OpOK P o ρ H nx r := by
 unfold qN at h
 split at h <;> try (cases h; done)
 rename_i k i hix
 split at h <;> try (cases h; done)
 rename_i n hn
 have hi := z6 hn
 subst hi
 split at h
 ·rename_i len elem b off hu hx
  split at h <;> try (cases h; done)
  rename_i ei hle he
  have hlt := Nat.le_of_ble_eq_true hle
  cases h
  refine OpOK.pure fun σ w ρ' _ hd => ?_
  have d := hd x; have d2 := hd ix
  rw [hx] at d; rw [hix] at d2
  cases e : ρ' x <;> rw [e] at d <;> cases d
  cases e2 : ρ' ix <;> rw [e2] at d2 <;> cases d2
  rename_i cb sz hb
  refine ⟨.pointer (some (at' cb (off + n * ei.size))),.ptr hb,?_⟩
  have := qM cb off (n * ei.size)
  have h1 : n < len := by omega
  simp [execOp,ho,Instr.indexAt,e,e2,asIntOf,qa hu,Instr.sureAddr,h1,qf he,this]
 ·rename_i len elem g off hu hx
  split at h <;> try (cases h; done)
  rename_i ei hle he
  have hlt := Nat.le_of_ble_eq_true hle
  cases h
  refine OpOK.pure fun σ w ρ' _ hd => ?_
  have d := hd x; have d2 := hd ix
  rw [hx] at d; rw [hix] at d2
  cases e : ρ' x <;> rw [e] at d <;> cases d
  cases e2 : ρ' ix <;> rw [e2] at d2 <;> cases d2
  refine ⟨.pointer (some (at' g (off + n * ei.size))),.gptr _ _,?_⟩
  have := qM g off (n * ei.size)
  have h1 : n < len := by omega
  simp [execOp,ho,Instr.indexAt,e,e2,asIntOf,qa hu,Instr.sureAddr,h1,qf he,this]
 ·rename_i elem b off len esz full hu hx
  split at h <;> try (cases h; done)
  rename_i ei hle he
  have hlt := Nat.le_of_ble_eq_true hle
  cases h
  refine OpOK.pure fun σ w ρ' _ hd => ?_
  have d := hd x; have d2 := hd ix
  rw [hx] at d; rw [hix] at d2
  cases e : ρ' x <;> rw [e] at d <;> cases d
  ·cases e2 : ρ' ix <;> rw [e2] at d2 <;> cases d2
   rename_i cb sz hb h1 h2 h3
   refine ⟨.pointer (some (at' cb (off + n * ei.size))),.ptr hb,?_⟩
   have := qM cb off (n * ei.size)
   have h1 : n < len := by omega
   simp [execOp,ho,Instr.indexAt,e,e2,asIntOf,qa hu,h1,qf he,this]
  ·omega
 ·cases h
def zN (P : Program) (t : TypeId) (x ix : Operand) (ρ : Operand → AVal) (H : Heap) (nx : Nat) : Option ARes :=
 match ρ ix with
 | .int _ i => match kx i with
  | some n => match P.underlying t,ρ x with
   | some (.array len elem),.agg cs => match Nat.ble (Nat.succ n) len,P.info? elem with
    | true,some e => match ye P elem cs (Nat.mul n e.size) with
     | some v => some (.val v H nx)
     | none => none
    | _,_ => none
   | some .string,.str l z => match Nat.ble (Nat.succ n) l with
    | true => qn (cutX l z n (Nat.succ n)) fun c => some (.val (.int .u8 (.ofNat c)) H nx)
    | _ => none
   | _,_ => none
  | none => none
 | _ => none
theorem qd6 (l z n : Nat) (h : n < l) : (dec l z)[n]? = some (UInt8.ofNat (z / 256 ^ (l - 1 - n))) := by
 have hs : n < (dec l z).size := by rw [kW]; exact h
 rw [ByteArray.getElem?_lt' _ _ hs]
 have e := JP l z n h
 have e2 : (dec l z)[n] = (digs l z)[n]'(by rw [jK]; exact h) := rfl
 rw [e2]
 rw [List.getElem?_eq_getElem (by rw [jK]; exact h)] at e
 exact e
theorem Qb {t : TypeId} {x ix : Operand} {ρ : Operand → AVal} {r : ARes} (ho : o.op = .index t x ix)
  (h : zN P t x ix ρ H nx = some r) : OpOK P o ρ H nx r := by
 unfold zN at h
 split at h <;> try (cases h; done)
 rename_i k i hix
 split at h <;> try (cases h; done)
 rename_i n hn
 have hi := z6 hn
 subst hi
 split at h
 ·rename_i len elem cs hu hx
  split at h <;> try (cases h; done)
  rename_i ei hle he
  have hlt := Nat.le_of_ble_eq_true hle
  split at h <;> try (cases h; done)
  rename_i v hv
  cases h
  refine OpOK.pure fun σ w ρ' _ hd => ?_
  have d := hd x; have d2 := hd ix
  rw [hx] at d; rw [hix] at d2
  cases e : ρ' x <;> rw [e] at d <;> cases d
  cases e2 : ρ' ix <;> rw [e2] at d2 <;> cases d2
  rename_i cs' hl
  obtain ⟨v',dv,hrun⟩ := yt (w := w) hv hl
  refine ⟨v',dv,?_⟩
  have h1 : n < len := by omega
  have hrun' : (part elem ⟨cs'⟩ (n * ei.size)).run P w = .ok v' w := hrun
  simp [execOp,ho,Instr.index,e,e2,asIntOf,qa hu,h1,qf he,hrun']
 ·rename_i l z hu hx
  split at h <;> try (cases h; done)
  rename_i hle
  have hlt := Nat.le_of_ble_eq_true hle
  rw [qb] at h
  cases h
  refine OpOK.pure fun σ w ρ' _ hd => ?_
  have d := hd x; have d2 := hd ix
  rw [hx] at d; rw [hix] at d2
  cases e : ρ' x <;> rw [e] at d <;> cases d
  cases e2 : ρ' ix <;> rw [e2] at d2 <;> cases d2
  refine ⟨_,.int _ _,?_⟩
  have hg := qd6 l z n (by omega)
  have e3 : ((UInt8.ofNat (z / 256 ^ (l - 1 - n))).toNat : Int) = Int.ofNat (cutX l z n (n + 1)) := by
   rw [KT]
   have a1 : l - (n + 1) = l - 1 - n := by omega
   have a2 : n + 1 - n = 1 := by omega
   rw [a1,a2]
   simp [UInt8.toNat_ofNat']
  simp only [execOp,ho,Instr.index,e,e2,asIntOf,Sem.run_bind,Sem.run_pure,Result.andThen_ok,qa hu]
  have h0 : (0 : Int) ≤ (n : Int) := by omega
  rw [if_pos h0,Int.toNat_natCast,hg]
  simp only [Sem.run_pure,Result.andThen_ok,e3]
 ·cases h
def zy (t : Operand) (i : Nat) (ρ : Operand → AVal) (H : Heap) (nx : Nat) : Option ARes :=
 match ρ t with
 | .tuple vs => match vs[i]? with
  | some v => some (.val v H nx)
  | none => none
 | _ => none
theorem wY {t : Operand} {i : Nat} {ρ : Operand → AVal} {r : ARes} (ho : o.op = .extract t i)
  (h : zy t i ρ H nx = some r) : OpOK P o ρ H nx r := by
 unfold zy at h
 split at h <;> try (cases h; done)
 rename_i vs hx
 split at h <;> try (cases h; done)
 rename_i v hv
 cases h
 refine OpOK.pure fun σ w ρ' _ hd => ?_
 have d := hd t
 rw [hx] at d
 cases e : ρ' t <;> rw [e] at d <;> cases d
 rename_i vs' hl
 obtain ⟨v',hv',dv⟩ := hl.get i v hv
 exact ⟨v',dv,by simp [execOp,ho,Instr.extract,e,hv']⟩
def vU : TypeDesc → Bool
 | .interface _ => true
 | _ => false
def qB (P : Program) (t : TypeId) (x : Operand) (ρ : Operand → AVal) (H : Heap) (nx : Nat) : Option ARes :=
 match P.underlying t with
 | some d => match vU d with
  | false => some (.val (.iface t (ρ x)) H nx)
  | true => none
 | none => none
theorem ke {t : TypeId} {x : Operand} {ρ : Operand → AVal} {r : ARes} (ho : o.op = .makeInterface t x)
  (h : qB P t x ρ H nx = some r) : OpOK P o ρ H nx r := by
 unfold qB at h
 split at h <;> try (cases h; done)
 rename_i d hu
 split at h <;> try (cases h; done)
 rename_i hd'
 cases h
 refine OpOK.pure fun σ w ρ' _ hd => ⟨.iface t (ρ' x),.iface (hd x),?_⟩
 simp only [execOp,ho,Instr.makeInterface,Sem.run_bind,qa hu,Result.andThen_ok]
 cases d <;> first | rfl | (cases hd')
theorem zD {σ : Sg} {ρ : Operand → AVal} {ρ' : Operand → Value} (h : ∀ x,Den σ (ρ x) (ρ' x)) : ∀ l : List Operand,DenL σ (l.map ρ) (l.map ρ')
 | [] => .nil
 | x :: l => .cons (h x) (zD h l)
theorem yC {ρ' : Operand → Value} (xs : Array Operand) : xs.map ρ' = ⟨xs.toList.map ρ'⟩ := by
 apply Array.ext'
 simp
def zJ (fn : Fn) (first captured : Array Operand) (ρ : Operand → AVal) (H : Heap) (nx : Nat) : Option ARes :=
 some (.val (.func fn (first.toList.map ρ) (captured.toList.map ρ)) H nx)
theorem vY {fn : Fn} {first captured : Array Operand} {ρ : Operand → AVal} {r : ARes} (ho : o.op = .makeFunc fn first captured)
  (h : zJ fn first captured ρ H nx = some r) : OpOK P o ρ H nx r := by
 cases h
 refine OpOK.pure fun σ w ρ' _ hd => ⟨.func fn ⟨first.toList.map ρ'⟩ ⟨captured.toList.map ρ'⟩,.func (zD hd _) (zD hd _),?_⟩
 simp only [execOp,ho,Instr.makeFunc,Sem.run_bind,Sem.run_pure,Result.andThen_ok,yC]
def zb (x : Operand) (ρ : Operand → AVal) (H : Heap) (nx : Nat) : Option ARes :=
 match ρ x with
 | .ptr b off => some (.val (.ptr b off) H nx)
 | .gptr g off => some (.val (.gptr g off) H nx)
 | .iface t v => some (.val (.iface t v) H nx)
 | .func (.func f) a b => some (.val (.func (.func f) a b) H nx)
 | _ => none
theorem vX {x : Operand} {ρ : Operand → AVal} {r : ARes} (ho : o.op = .nilCheck x)
  (h : zb x ρ H nx = some r) : OpOK P o ρ H nx r := by
 unfold zb at h
 split at h <;> try (cases h; done)
 all_goals (rename_i hx; cases h; refine OpOK.pure fun σ w ρ' _ hd => ?_; have d := hd x; rw [hx] at d)
 all_goals (refine ⟨ρ' x,d,?_⟩; cases e : ρ' x <;> rw [e] at d <;> cases d)
 all_goals (simp [execOp,ho,e])
def opUn (op : UnOp) (x : Operand) (ρ : Operand → AVal) (H : Heap) (nx : Nat) : Option ARes :=
 match op,ρ x with
 | .neg,.int k n => qZ (jG k (Int.sub 0 n)) fun r => some (.val (.int k r) H nx)
 | .not,.bool b => some (.val (.bool (bnot b)) H nx)
 | .neg,.anyInt k m i => match KL .sub (.int k 0) (.anyInt k m i) with
  | some v => some (.val v H nx)
  | none => none
 | _,_ => none
theorem Kj {op : UnOp} {t : TypeId} {x : Operand} {ρ : Operand → AVal} {r : ARes} (ho : o.op = .unOp op t x)
  (h : opUn op x ρ H nx = some r) : OpOK P o ρ H nx r := by
 unfold opUn at h
 split at h <;> try (cases h; done)
 ·rename_i k n hx
  rw [qp,zu] at h
  cases h
  refine OpOK.pure fun σ w ρ' _ hd => ?_
  have d := hd x; rw [hx] at d
  refine ⟨_,.int _ _,?_⟩
  cases e : ρ' x <;> rw [e] at d <;> cases d
  simp only [execOp,ho,e,Op.unary,Op.intArith,Sem.run_bind,Sem.run_pure,Result.andThen_ok]
  rfl
 ·rename_i b hx
  cases h
  refine OpOK.pure fun σ w ρ' _ hd => ?_
  have d := hd x; rw [hx] at d
  refine ⟨_,.bool _,?_⟩
  cases e : ρ' x <;> rw [e] at d <;> cases d
  simp [execOp,ho,e,Op.unary,zY]
 ·rename_i k m i hx
  split at h <;> try (cases h; done)
  rename_i v hv
  cases h
  refine OpOK.pure fun σ w ρ' _ hd => ?_
  have d := hd x; rw [hx] at d
  obtain ⟨k',p,q,v',e1,e2,dv,hrun⟩ := J0 (P := P) (w := w) (t := t) hv (.int k 0) d
  cases e1
  refine ⟨v',dv,?_⟩
  rw [execOp,ho]
  have hrun' : (Op.intArith .sub k 0 q).run P w = .ok v' w := by simpa [binOp] using hrun
  simp only [e2,Op.unary,Sem.run_bind,hrun',Result.andThen_ok,Sem.run_pure]
def JJ (l : List AVal) : Nat → Option Nat :=
 List.rec (motive := fun _ => Nat → Option Nat) (fun acc => some acc)
  (fun v _ ih acc => match v with
   | .int .u8 (.ofNat n) => match Nat.ble n 255 with
    | true => qn (Nat.add (Nat.mul acc 256) n) ih
    | false => none
   | _ => none) l
theorem Zy : ∀ {l : List AVal} {acc z : Nat},JJ l acc = some z → ∃ bs : List UInt8,l = bs.map (fun b => AVal.int .u8 (.ofNat b.toNat)) ∧ z = numL acc bs
 | [],acc,z,h => by
  have h' : some acc = some z := h
  cases h'
  exact ⟨[],rfl,rfl⟩
 | v :: l,acc,z,h => by
  have h' : (match (generalizing := false) v with
   | .int .u8 (.ofNat n) => match Nat.ble n 255 with
    | true => qn (Nat.add (Nat.mul acc 256) n) (JJ l)
    | false => none
   | _ => none) = some z := h
  split at h' <;> first | (cases h'; done) | skip
  rename_i n
  split at h' <;> first | (cases h'; done) | skip
  rename_i hn
  have hn' : n < 256 := Nat.lt_of_le_of_lt (Nat.le_of_ble_eq_true hn) (by decide)
  rw [qb] at h'
  obtain ⟨bs,e1,e2⟩ := Zy h'
  have hb : (UInt8.ofNat n).toNat = n := by simp [UInt8.toNat_ofNat',Nat.mod_eq_of_lt hn']
  refine ⟨UInt8.ofNat n :: bs,by rw [List.map_cons,hb,e1],?_⟩
  rw [e2]
  show numL (acc * 256 + n) bs = numL (acc * 256 + (UInt8.ofNat n).toNat) bs
  rw [hb]
theorem vD {σ : Sg} : ∀ {bs : List UInt8} {l' : List Value},DenL σ (bs.map fun b => AVal.int .u8 (.ofNat b.toNat)) l' → l' = (bs.map fun b => (b.toNat : Int)).map (Value.int .u8)
 | [],_,.nil => rfl
 | b :: bs,_,.cons h t => by
  cases h
  rw [vD t]
  rfl
theorem vu : ∀ (bs : List UInt8) (s : ByteArray),(bs.map fun b => (b.toNat : Int)).foldl (fun r n => r.push (UInt8.ofNat n.toNat)) s = ⟨s.data ++ bs.toArray⟩
 | [],s => by simp
 | b :: bs,s => by
  rw [List.map_cons,List.foldl_cons,vu bs]
  have : (s.push (UInt8.ofNat ((b.toNat : Int).toNat))).data = s.data.push b := by simp [ByteArray.push]
  rw [this]
  simp
def z5 (P : Program) (src dst : TypeId) (x : Operand) (ρ : Operand → AVal) (H : Heap) (nx : Nat) : Option ARes :=
 match P.underlying src,P.underlying dst,ρ x with
 | some _,some (.int k),.int _ n => qZ (jG k n) fun r => some (.val (.int k r) H nx)
 | some _,some .string,.str n z => some (.val (.str n z) H nx)
 | some _,some (.int k),.anyInt j m i => match w64 k,w64 j,Nat.beq m 65536 with
  | true,true,true => some (.val (.anyInt k m i) H nx)
  | _,_,_ => none
 | some (.slice e),some .string,.slice b off n _ _ => match P.underlying e,get5 b H with
  | some (.int .u8),some (.cells cnt ct _ _) => match Nat.ble (Nat.add off n) cnt with
   | true => match JJ (CT.slab ct n off) 0 with
    | some z => some (.val (.str n z) H nx)
    | none => none
   | false => none
  | _,_ => none
 | some (.slice e),some .string,.nilSlice => match P.underlying e with
  | some (.int .u8) => some (.val (.str 0 0) H nx)
  | _ => none
 | _,_,_ => none
theorem QS {src dst : TypeId} {x : Operand} {ρ : Operand → AVal} {r : ARes} (ho : o.op = .convert src dst x)
  (h : z5 P src dst x ρ H nx = some r) : OpOK P o ρ H nx r := by
 unfold z5 at h
 split at h <;> try (cases h; done)
 ·rename_i d k k' n hs hdst hx
  rw [qp,zu] at h
  cases h
  refine OpOK.pure fun σ w ρ' _ hd => ?_
  have dx := hd x; rw [hx] at dx
  refine ⟨_,.int _ _,?_⟩
  cases e : ρ' x <;> rw [e] at dx <;> cases dx
  simp [execOp,ho,e,convert,qa hs,qa hdst,Conv.intToInt]
 ·rename_i d n z hs hdst hx
  cases h
  refine OpOK.pure fun σ w ρ' _ hd => ?_
  have dx := hd x; rw [hx] at dx
  refine ⟨ρ' x,dx,?_⟩
  cases e : ρ' x <;> rw [e] at dx <;> cases dx
  simp [execOp,ho,e,convert,qa hs,qa hdst]
 ·rename_i d k j m i hs hdst hx
  split at h <;> try (cases h; done)
  rename_i hk hj hm
  cases h
  have hm' := Nat.eq_of_beq_eq_true hm
  subst hm'
  refine OpOK.pure fun σ w ρ' _ hd => ?_
  have dx := hd x; rw [hx] at dx
  cases e : ρ' x <;> rw [e] at dx <;> cases dx
  rename_i n hn
  have hn' : n = j.wrap (GTab.val i) := by unfold vM at hn; rwa [if_pos rfl] at hn
  subst hn'
  refine ⟨.int k (k.wrap (j.wrap (GTab.val i))),.anyInt _ _ _ _ (by unfold vM; rw [if_pos rfl]; exact (Q5 hj _).wrap hk),?_⟩
  simp [execOp,ho,e,convert,qa hs,qa hdst,Conv.intToInt]
 ·rename_i el b off n esz full hs hdst hx
  split at h <;> try (cases h; done)
  rename_i cnt ct olds s hel hob
  split at h <;> try (cases h; done)
  rename_i hle
  have hle' : off + n ≤ cnt := Nat.le_of_ble_eq_true hle
  split at h <;> try (cases h; done)
  rename_i z hz
  cases h
  obtain ⟨bs,e1,e2⟩ := Zy hz
  have hlen : bs.length = n := by have := CT.slab_length ct n off; rw [e1] at this; simpa using this
  subst e2
  refine OpOK.pure fun σ w ρ' hr hd => ?_
  have dx := hd x; rw [hx] at dx
  have key : ∀ (a : Addr) (cap : Nat),(loadCells a n).run P w = .ok ((bs.map fun b => (b.toNat : Int)).map (Value.int .u8)).toArray w → ∃ v',Den σ (.str n (numL 0 bs)) v' ∧ (convert src dst (.slice (some a) n cap)).run P w = .ok v' w := by
   intro a cap hl
   refine ⟨_,Den.str n (numL 0 bs) (by rw [← hlen]; exact Kl bs),?_⟩
   rw [run_convert_bytes_string w src dst el _ _ cap hs hel hdst,run_bytesToString w a n cap _ hl,vu]
   have : dec n (numL 0 bs) = ⟨bs.toArray⟩ := by rw [← hlen]; unfold dec; rw [JZ]
   rw [this]
   have e0 : (ByteArray.empty.data ++ bs.toArray) = bs.toArray := by
    show #[] ++ bs.toArray = bs.toArray
    simp
   rw [e0]
  cases e : ρ' x <;> rw [e] at dx <;> cases dx
  ·rename_i cap cb sz hb h1 h2 h3
   obtain ⟨l',_,hl,_,hrun⟩ := zo hr hob hb P off n hle'
   rw [e1] at hl
   rw [vD hl] at hrun
   obtain ⟨v',dv,hv⟩ := key (at' cb off) cap hrun
   exact ⟨v',dv,by simp [execOp,ho,e,hv]⟩
  ·rename_i off' cb sz hb
   have hbs : bs = [] := List.length_eq_zero_iff.1 hlen
   subst hbs
   obtain ⟨v',dv,hv⟩ := key (at' cb off') 0 (by simp [loadCells,loadCellsFrom])
   have hv' : (convert src dst (.slice (some { block := cb,off := off' }) 0 0)).run P w = .ok v' w := hv
   exact ⟨v',dv,by simp [execOp,ho,e,hv']⟩
 ·rename_i el hs hdst hx
  split at h <;> try (cases h; done)
  rename_i hel
  cases h
  refine OpOK.pure fun σ w ρ' hr hd => ?_
  have dx := hd x; rw [hx] at dx
  cases e : ρ' x <;> rw [e] at dx <;> cases dx
  refine ⟨_,Den.str 0 0 (by decide),?_⟩
  have := run_convert_bytes_string w src dst el none 0 0 hs hel hdst
  simp only [execOp,ho,e,Sem.run_bind,this]
  simp [Conv.bytesToString,dec,digs,ByteArray.empty,ByteArray.emptyWithCapacity]
  rfl
end
end Go.Ev
namespace Go.Ev
variable [GTab] {P : Program} {H : Heap} {nx : Nat} {w : World} {o : Oper}
noncomputable section
def bnd (d : Nat) (x : Option Operand) (ρ : Operand → AVal) : Option Nat :=
 match x with
 | none => some d
 | some y => match ρ y with
  | .int _ i => kx i
  | _ => none
theorem zI {d n : Nat} {x : Option Operand} {ρ : Operand → AVal} {ρ' : Operand → Value} {σ : Sg} (hd : ∀ x,Den σ (ρ x) (ρ' x)) (h : bnd d x ρ = some n) :
  (x.map ρ' = none ∧ n = d) ∨ ∃ k,x.map ρ' = some (.int k (n : Int)) := by
 unfold bnd at h
 split at h
 ·cases h; exact .inl ⟨rfl,rfl⟩
 ·rename_i y
  split at h <;> try (cases h; done)
  rename_i k i hy
  have hi := z6 h
  subst hi
  have := hd y
  rw [hy] at this
  cases e : ρ' y <;> rw [e] at this <;> cases this
  exact .inr ⟨k,by simp [e]⟩
theorem kw {k : IntKind} {n y : Nat} {c : BoundsCode} (h : n ≤ y) : (Instr.sliceBound (.int k (n : Int)) y c).run P w = .ok n w := by
 simp [Instr.sliceBound,asIntOf,h]
theorem qK {isS : Bool} {len cap l h : Nat} {lo hi : Option Value} (hh : (hi = none ∧ h = len) ∨ ∃ k,hi = some (.int k (h : Int))) (hle : h ≤ cap)
  (hl : (lo = none ∧ l = 0) ∨ ∃ k,lo = some (.int k (l : Int))) (hlh : l ≤ h) : (Instr.sliceBounds isS len cap lo hi none).run P w = .ok (l,h,cap) w := by
 rcases hh with ⟨rfl,rfl⟩ | ⟨k,rfl⟩ <;> rcases hl with ⟨rfl,rfl⟩ | ⟨k',rfl⟩
 ·simp [Instr.sliceBounds]
 ·simp [Instr.sliceBounds,kw hlh]
 ·simp [Instr.sliceBounds,kw hle]
 ·simp [Instr.sliceBounds,kw hle,kw hlh]
def ju (P : Program) (t : TypeId) (x : Operand) (lo hi mx : Option Operand) (ρ : Operand → AVal) (H : Heap) (nx : Nat) : Option ARes :=
 match mx with
 | some _ => none
 | none => match P.underlying t,ρ x with
  | some .string,.str n z => match bnd 0 lo ρ,bnd n hi ρ with
   | some l,some h => match Nat.ble h n,Nat.ble l h with
    | true,true => qn (Nat.sub h l) fun m => qn (cutX n z l h) fun y => some (.val (.str m y) H nx)
    | _,_ => none
   | _,_ => none
  | some (.slice elem),.slice b off len esz full => match bnd 0 lo ρ,bnd len hi ρ,P.info? elem with
   | some l,some h,some e => match Nat.ble h len,Nat.ble l h,Nat.beq e.size esz with
    | true,true,true => qn (Nat.add off (Nat.mul l esz)) fun o => qn (Nat.sub h l) fun m => some (.val (.slice b o m esz (Bool.rec false full (Nat.beq h len))) H nx)
    | _,_,_ => none
   | _,_,_ => none
  | some (.slice elem),.nilSlice => match bnd 0 lo ρ,bnd 0 hi ρ,P.info? elem with
   | some 0,some 0,some _ => some (.val .nilSlice H nx)
   | _,_,_ => none
  | some (.array n elem),.ptr b off => match bnd 0 lo ρ,bnd n hi ρ,P.info? elem,get5 b H with
   | some l,some h,some e,some (.cells cnt _ _ _) => match Nat.ble h n,Nat.ble l h,Nat.ble (Nat.add off (Nat.mul n e.size)) cnt with
    | true,true,true => qn (Nat.add off (Nat.mul l e.size)) fun o => qn (Nat.sub h l) fun m => some (.val (.slice b o m e.size (Nat.beq h n)) H nx)
    | _,_,_ => none
   | _,_,_,_ => none
  | _,_ => none
theorem qge (n z l h : Nat) : cutX n z l h < 256 ^ (h - l) := by
 rw [KT]; exact Nat.mod_lt _ (wM _)
theorem y0 {t : TypeId} {x : Operand} {lo hi mx : Option Operand} {ρ : Operand → AVal} {r : ARes} (ho : o.op = .slice t x lo hi mx)
  (h : ju P t x lo hi mx ρ H nx = some r) : OpOK P o ρ H nx r := by
 unfold ju at h
 split at h <;> try (cases h; done)
 split at h
 ·rename_i n z hu hx
  split at h <;> try (cases h; done)
  rename_i l hh hl hhi
  split at h <;> try (cases h; done)
  rename_i h1 h2
  have h1' := Nat.le_of_ble_eq_true h1
  have h2' := Nat.le_of_ble_eq_true h2
  rw [qb,qb] at h
  cases h
  refine OpOK.pure fun σ w ρ' _ hd => ?_
  have d := hd x; rw [hx] at d
  cases e : ρ' x <;> rw [e] at d <;> cases d
  refine ⟨.string (dec (hh - l) (cutX n z l hh)),.str _ _ (qge _ _ _ _),?_⟩
  have hb := qK (P := P) (w := w) (isS := false) (len := n) (cap := n) (zI hd hhi) h1' (zI hd hl) h2'
  have hx2 := Vm n z l hh h1' h2'
  rw [← KT] at hx2
  have hsz := kW n z
  simp [execOp,ho,e,Instr.sliceAt,Instr.slice,qa hu,hsz,hb,hx2]
 ·rename_i elem b off len esz full hu hx
  split at h <;> try (cases h; done)
  rename_i l hh ei hl hhi hei
  split at h <;> try (cases h; done)
  rename_i h1 h2 h3
  have h1' := Nat.le_of_ble_eq_true h1
  have h2' := Nat.le_of_ble_eq_true h2
  have h3' := Nat.eq_of_beq_eq_true h3
  rw [qb,qb] at h
  cases h
  refine OpOK.pure fun σ w ρ' _ hd => ?_
  have d := hd x; rw [hx] at d
  cases e : ρ' x <;> rw [e] at d <;> cases d
  ·rename_i cap cb sz hb g1 g2 g3
   have hbd := qK (P := P) (w := w) (isS := true) (len := len) (cap := cap) (zI hd hhi) (by omega) (zI hd hl) h2'
   by_cases hm : cap = l
   ·refine ⟨.slice (some (at' cb off)) (hh - l) (cap - l),?_,?_⟩
    ·have e1 : hh - l = 0 := by omega
     have e2 : cap - l = 0 := by omega
     rw [e2]
     show Den σ (.slice b _ (hh - l) esz _) (.slice (some (at' cb off)) (hh - l) 0)
     rw [e1]
     exact .slice0 hb
    ·simp only [execOp,ho,e,Instr.sliceAt,Instr.slice,Sem.run_bind,Sem.run_pure,Result.andThen_ok,qa hu,Option.map_none,hbd,qf hei,if_pos hm]
   ·refine ⟨.slice (some (at' cb (off + l * esz))) (hh - l) (cap - l),.slice hb (show hh - l ≤ cap - l by omega) ?_ ?_,?_⟩
    ·have : off + l * esz + (cap - l) * esz = off + cap * esz := by
      rw [Nat.add_assoc,← Nat.add_mul]
      congr 2
      omega
     show off + l * esz + (cap - l) * esz ≤ sz
     omega
    ·intro hf
     cases hq : Nat.beq hh len with
     | true =>
      have := Nat.eq_of_beq_eq_true hq
      rw [hq] at hf
      have := g3 hf
      show cap - l = hh - l
      omega
     | false => rw [hq] at hf; cases hf
    ·have := qM cb off (l * esz)
     simp [execOp,ho,e,Instr.sliceAt,Instr.slice,qa hu,hbd,qf hei,hm,h3',this]
  ·rename_i off' cb sz hb
   have hl0 : l = 0 := by omega
   have hh0 : hh = 0 := by omega
   subst hl0
   subst hh0
   have hbd := qK (P := P) (w := w) (isS := true) (len := 0) (cap := 0) (zI hd hhi) (by omega) (zI hd hl) h2'
   refine ⟨.slice (some (at' cb off')) 0 0,.slice0 hb,?_⟩
   simp [execOp,ho,e,Instr.sliceAt,Instr.slice,qa hu,hbd,qf hei]
 ·rename_i elem hu hx
  split at h <;> try (cases h; done)
  rename_i ei hl hhi hei
  cases h
  refine OpOK.pure fun σ w ρ' _ hd => ?_
  have d := hd x; rw [hx] at d
  cases e : ρ' x <;> rw [e] at d <;> cases d
  have hbd := qK (P := P) (w := w) (isS := true) (len := 0) (cap := 0) (zI hd hhi) (by omega) (zI hd hl) (Nat.le_refl _)
  refine ⟨.slice none 0 0,.nilSlice,?_⟩
  simp [execOp,ho,e,Instr.sliceAt,Instr.slice,qa hu,hbd,qf hei]
 ·rename_i n elem b off hu hx
  split at h <;> try (cases h; done)
  rename_i l hh ei cnt ct olds sp hl hhi hei hblk
  split at h <;> try (cases h; done)
  rename_i h1 h2 h3
  have h1' := Nat.le_of_ble_eq_true h1
  have h2' := Nat.le_of_ble_eq_true h2
  have h3' := Nat.le_of_ble_eq_true h3
  rw [qb,qb] at h
  cases h
  refine OpOK.pure fun σ w ρ' hr hd => ?_
  have d := hd x; rw [hx] at d
  cases e : ρ' x <;> rw [e] at d <;> cases d
  rename_i cb sz hb
  obtain ⟨o1,_,_,_⟩ := hr.obj b _ cb sz hblk hb
  have hbd := qK (P := P) (w := w) (isS := false) (len := n) (cap := n) (zI hd hhi) h1' (zI hd hl) h2'
  by_cases hm : n = l
  ·refine ⟨.slice (some (at' cb off)) (hh - l) (n - l),?_,?_⟩
   ·have e1 : hh - l = 0 := by omega
    have e2 : n - l = 0 := by omega
    rw [e2]
    show Den σ (.slice b _ (hh - l) ei.size _) (.slice (some (at' cb off)) (hh - l) 0)
    rw [e1]
    exact .slice0 hb
   ·simp only [execOp,ho,e,Instr.sliceAt,Instr.sureAddr,Sem.run_bind,Sem.run_pure,Result.andThen_ok,qa hu,Option.map_none,hbd,qf hei,if_pos hm]
  ·refine ⟨.slice (some (at' cb (off + l * ei.size))) (hh - l) (n - l),.slice hb (show hh - l ≤ n - l by omega) ?_ ?_,?_⟩
   ·have : off + l * ei.size + (n - l) * ei.size = off + n * ei.size := by
     rw [Nat.add_assoc,← Nat.add_mul]
     congr 2
     omega
    have h3'' : off + n * ei.size ≤ cnt := h3'
    show off + l * ei.size + (n - l) * ei.size ≤ sz
    omega
   ·intro hf
    have := Nat.eq_of_beq_eq_true hf
    show n - l = hh - l
    omega
   ·have := qM cb off (l * ei.size)
    simp [execOp,ho,e,Instr.sliceAt,Instr.sureAddr,qa hu,hbd,qf hei,hm,this]
 ·cases h
def wK (ok : Bool) (v : AVal) : AVal := match ok with | true => .tuple [v,.bool true] | false => v
def kN (P : Program) (asserted : TypeId) (ok : Bool) : Option AVal :=
 match ok with
 | true => match P.info? asserted with
  | some i => match i.zero with
   | some z => some (.tuple [vR z,.bool false])
   | none => none
  | none => none
 | false => none
def yH (P : Program) (v : AVal) (asserted : TypeId) (ok : Bool) : Option AVal :=
 match P.underlying asserted,v with
 | some (.interface _),.nilIface => kN P asserted ok
 | some (.interface want),.iface t x => match P.info? t with
  | some i => match Instr.missingMethod want i.methods with
   | none => some (wK ok (.iface t x))
   | some _ => kN P asserted ok
  | none => none
 | some d,.nilIface => match vU d with
  | false => kN P asserted ok
  | true => none
 | some d,.iface t x => match vU d with
  | false => match Nat.beq t asserted with
   | true => some (wK ok x)
   | false => kN P asserted ok
  | true => none
 | _,_ => none
theorem kX {σ : Sg} {v : AVal} {v' : Value} (ok : Bool) (h : Den σ v v') : Den σ (wK ok v) (if ok then .tuple #[v',.bool true] else v') := by
 cases ok with
 | true => exact .tuple (.cons h (.cons (.bool _) .nil))
 | false => exact h
def zT (P : Program) (x : Operand) (asserted : TypeId) (ok : Bool) (ρ : Operand → AVal) (H : Heap) (nx : Nat) : Option ARes :=
 match yH P (ρ x) asserted ok with
 | some v => some (.val v H nx)
 | none => none
theorem yj {x : Operand} {xt asserted : TypeId} {ok : Bool} {ρ : Operand → AVal} {r : ARes} (ho : o.op = .typeAssert x xt asserted ok)
  (h : zT P x asserted ok ρ H nx = some r) : OpOK P o ρ H nx r := by
 unfold zT at h
 split at h <;> try (cases h; done)
 rename_i v hv
 cases h
 have fails : ∀ {u : AVal} {σ : Sg},kN P asserted ok = some u → ok = true ∧ ∃ i z,P.info? asserted = some i ∧ i.zero = some z ∧ u = .tuple [vR z,.bool false] ∧ Den σ u (.tuple #[z,.bool false]) := by
  intro u σ hu
  unfold kN at hu
  split at hu <;> try (cases hu; done)
  split at hu <;> try (cases hu; done)
  rename_i i hi
  split at hu <;> try (cases hu; done)
  rename_i z hz
  cases hu
  exact ⟨rfl,i,z,hi,hz,rfl,.tuple (.cons (kF σ z) (.cons (.bool _) .nil))⟩
 refine OpOK.pure fun σ w ρ' _ hd => ?_
 have d := hd x
 unfold yH at hv
 split at hv
 ·rename_i want hu hx
  rw [hx] at d
  cases e : ρ' x <;> rw [e] at d <;> cases d
  obtain ⟨hok,i,z,hi,hz,_,dz⟩ := fails (σ := σ) hv
  exact ⟨_,dz,by simp [execOp,ho,e,Instr.typeAssert,qa hu,hok,qm hi hz]⟩
 ·rename_i want t y hu hx
  rw [hx] at d
  cases e : ρ' x <;> rw [e] at d <;> cases d
  rename_i y' dy
  split at hv <;> try (cases hv; done)
  rename_i i hi
  split at hv
  ·rename_i hm
   cases hv
   exact ⟨_,kX ok (.iface dy),by simp [execOp,ho,e,Instr.typeAssert,qa hu,qq hi,hm]⟩
  ·rename_i m hm
   obtain ⟨hok,j,z,hj,hz,_,dz⟩ := fails (σ := σ) hv
   exact ⟨_,dz,by simp [execOp,ho,e,Instr.typeAssert,qa hu,qq hi,hm,hok,qm hj hz]⟩
 ·rename_i dd hni hu hx
  rw [hx] at d
  cases e : ρ' x <;> rw [e] at d <;> cases d
  split at hv <;> try (cases hv; done)
  rename_i hif
  obtain ⟨hok,j,z,hj,hz,_,dz⟩ := fails (σ := σ) hv
  refine ⟨_,dz,?_⟩
  simp only [execOp,ho,e,Instr.typeAssert,Sem.run_bind,qa hu,Result.andThen_ok]
  cases dd <;> first | (cases hif; done) | (simp [hok,qm hj hz])
 ·rename_i dd t y hni hu hx
  rw [hx] at d
  cases e : ρ' x <;> rw [e] at d <;> cases d
  rename_i y' dy
  split at hv <;> try (cases hv; done)
  rename_i hif
  split at hv
  ·rename_i hq
   have hq' := Nat.eq_of_beq_eq_true hq
   cases hv
   refine ⟨_,kX ok dy,?_⟩
   simp only [execOp,ho,e,Instr.typeAssert,Sem.run_bind,qa hu,Result.andThen_ok]
   cases dd <;> first | (cases hif; done) | (simp [hq'])
  ·rename_i hq
   have hq' : ¬ t = asserted := fun e => by subst e; simp at hq
   obtain ⟨hok,j,z,hj,hz,_,dz⟩ := fails (σ := σ) hv
   refine ⟨_,dz,?_⟩
   simp only [execOp,ho,e,Instr.typeAssert,Sem.run_bind,qa hu,Result.andThen_ok]
   cases dd <;> first | (cases hif; done) | (simp [hq',hok,qm hj hz])
 ·cases hv
def zF (P : Program) (f : FuncId) : Bool :=
 match P.funcs[f]? with
 | some fn => match fn.body with
  | some _ => !(fn.name == "runtime.NumGoroutine")
  | none => false
 | none => false
theorem zw {f : FuncId} (h : zF P f = true) (args : Array Value) (w : World) : (callFunc f args).run P w = .ok (.enter f args) w := by
 unfold zF at h
 split at h <;> try (cases h; done)
 rename_i fn hf
 split at h <;> try (cases h; done)
 rename_i c hb
 have hn : ¬ fn.name = "runtime.NumGoroutine" := by simpa using h
 simp [callFunc,hf,hb,hn]
def callTo (P : Program) (v : AVal) (args : List AVal) : Option (FuncId × List AVal) :=
 match v with
 | .func (.func f) first captured => match zF P f with
  | true => some (f,first ++ args ++ captured)
  | false => none
 | _ => none
def kh (P : Program) (t : TypeId) (v : AVal) : Option Nat :=
 match P.underlying t,v with
 | some .string,.str n _ => some n
 | some (.array n _),_ => some n
 | some (.slice _),.slice _ _ n _ _ => some n
 | some (.slice _),.nilSlice => some 0
 | _,_ => none
theorem QR {t : TypeId} {v : AVal} {v' : Value} {n : Nat} {σ : Sg} {u : TypeId} (h : kh P t v = some n) (hd : Den σ v v') :
  (Builtin.len_ #[t] u #[v']).run P w = .ok (.int .i64 (n : Int)) w := by
 unfold kh at h
 split at h
 ·rename_i hu; cases h; cases hd
  have := kW n ‹_›
  simp [Builtin.len_,qa hu,goInt,this]
 ·rename_i hu; cases h; simp [Builtin.len_,qa hu,goInt]
 ·rename_i hu; cases h; cases hd <;> simp [Builtin.len_,qa hu,goInt]
 ·rename_i hu; cases h; cases hd; simp [Builtin.len_,qa hu,goInt]
 ·cases h
def kv (P : Program) (f : Operand) (args : Array Operand) (ρ : Operand → AVal) (_H : Heap) (_nx : Nat) : Option ARes :=
 match callTo P (ρ f) (args.toList.map ρ) with
 | some (g,as) => some (.call g as)
 | none => none
theorem wl {v : AVal} {v' : Value} {args : List AVal} {args' : List Value} {f : FuncId} {as : List AVal} {σ : Sg} (h : callTo P v args = some (f,as)) (hv : Den σ v v') (ha : DenL σ args args') :
  zF P f = true ∧ ∃ first captured : List Value,v' = .func (.func f) ⟨first⟩ ⟨captured⟩ ∧ DenL σ as (first ++ args' ++ captured) := by
 unfold callTo at h
 split at h <;> try (cases h; done)
 split at h <;> try (cases h; done)
 rename_i hb
 cases h
 cases hv with
 | func h1 h2 => exact ⟨hb,_,_,rfl,(h1.append ha).append h2⟩
theorem y8 {f : Operand} {c : Call} {ρ : Operand → AVal} {r : ARes} (ho : o.op = .call c) (hc : c.callee = .value f)
  (h : kv P f c.args ρ H nx = some r) : OpOK P o ρ H nx r := by
 unfold kv at h
 split at h <;> try (cases h; done)
 rename_i g as hg
 cases h
 intro σ w ρ' hr hd
 obtain ⟨hb,first,captured,e,hl⟩ := wl hg (hd f) (zD hd c.args.toList)
 refine ⟨_,hl,?_⟩
 simp only [execOp,ho,resolve,hc,e,Deferred.ofValue,Sem.run_bind,Sem.run_pure,Result.andThen_ok,invoke,zw hb,yC]
 simp
def kQ (P : Program) (f : Operand) (args : Array Operand) (ρ : Operand → AVal) (_H : Heap) (_nx : Nat) : Option ARes :=
 match callTo P (ρ f) (args.toList.map ρ) with
 | some (g,as) => some (.dfr g as)
 | none => none
theorem Qi {f : Operand} {c : Call} {ρ : Operand → AVal} {r : ARes} (ho : o.op = .defer c) (hc : c.callee = .value f)
  (h : kQ P f c.args ρ H nx = some r) : OpOK P o ρ H nx r := by
 unfold kQ at h
 split at h <;> try (cases h; done)
 rename_i g as hg
 cases h
 intro σ w ρ' hr hd
 obtain ⟨hb,first,captured,e,hl⟩ := wl hg (hd f) (zD hd c.args.toList)
 refine ⟨{ target := .fn (.func g) ⟨captured⟩,args := ⟨first⟩ ++ c.args.map ρ' },⟨⟨captured⟩,rfl,?_⟩,?_⟩
 ·have e2 : ((⟨first⟩ ++ c.args.map ρ' : Array Value) ++ ⟨captured⟩).toList = first ++ c.args.toList.map ρ' ++ captured := by simp
  rw [e2]; exact hl
 ·simp [execOp,ho,resolve,hc,e,Deferred.ofValue]
def ku (x : Operand) (ρ : Operand → AVal) (_H : Heap) (_nx : Nat) : Option ARes :=
 match ρ x with
 | .iface t v => some (.pan (.iface t v))
 | _ => none
theorem Qd {x : Operand} {ρ : Operand → AVal} {r : ARes} (ho : o.op = .panic x)
  (h : ku x ρ H nx = some r) : OpOK P o ρ H nx r := by
 unfold ku at h
 split at h <;> try (cases h; done)
 rename_i t v hx
 cases h
 intro σ w ρ' hr hd
 have d := hd x; rw [hx] at d
 cases e : ρ' x <;> rw [e] at d <;> cases d
 rename_i v' dv
 exact ⟨_,.iface dv,by simp [execOp,ho,e,Instr.panic]⟩
def wu (greatest : Bool) (k : IntKind) (n : Int) : List AVal → Option Int
 | [] => some n
 | .int _ m :: l => wu greatest k (Bool.rec (Bool.rec n m (ilt m n)) (Bool.rec n m (ilt n m)) greatest) l
 | _ :: _ => none
theorem wz {P : Program} {w : World} {σ : Sg} {k : IntKind} : ∀ {l : List AVal} {l' : List Value} {n m : Int},wu true k n l = some m → DenL σ l l' →
  (l'.foldlM Builtin.max2 (.int k n)).run P w = .ok (.int k m) w
 | [],_,n,m,h,.nil => by cases h; rfl
 | .int j q :: l,v' :: l',n,m,h,.cons hd ht => by
  cases hd
  have e : Bool.rec (motive := fun _ => Int) n q (ilt n q) = if q > n then q else n := by
   rw [zH]
   by_cases hq : n < q
   ·simp [hq]
   ·simp [hq]
  have := wz (P := P) (w := w) (l := l) (n := Bool.rec (motive := fun _ => Int) n q (ilt n q)) h ht
  simp only [List.foldlM_cons,Builtin.max2,Sem.run_bind,Sem.run_pure,Result.andThen_ok]
  rw [← e]
  exact this
theorem wr {P : Program} {w : World} {σ : Sg} {k : IntKind} : ∀ {l : List AVal} {l' : List Value} {n m : Int},wu false k n l = some m → DenL σ l l' →
  (l'.foldlM Builtin.min2 (.int k n)).run P w = .ok (.int k m) w
 | [],_,n,m,h,.nil => by cases h; rfl
 | .int j q :: l,v' :: l',n,m,h,.cons hd ht => by
  cases hd
  have e : Bool.rec (motive := fun _ => Int) n q (ilt q n) = if q < n then q else n := by
   rw [zH]
   by_cases hq : q < n
   ·simp [hq]
   ·simp [hq]
  have := wr (P := P) (w := w) (l := l) (n := Bool.rec (motive := fun _ => Int) n q (ilt q n)) h ht
  simp only [List.foldlM_cons,Builtin.min2,Sem.run_bind,Sem.run_pure,Result.andThen_ok]
  rw [← e]
  exact this
def qy (P : Program) (b : Builtin) (types : Array TypeId) (args : Array Operand) (ρ : Operand → AVal) (H : Heap) (nx : Nat) : Option ARes :=
 match b,types.toList,args.toList with
 | .len,[t],[x] => match kh P t (ρ x) with
  | some n => some (.val (.int .i64 (.ofNat n)) H nx)
  | none => none
 | .max,_,x :: l => match ρ x with
  | .int k n => match wu true k n (l.map ρ) with
   | some m => qZ m fun m => some (.val (.int k m) H nx)
   | none => none
  | _ => none
 | .min,_,x :: l => match ρ x with
  | .int k n => match wu false k n (l.map ρ) with
   | some m => qZ m fun m => some (.val (.int k m) H nx)
   | none => none
  | _ => none
 | .recover,_,[] => some .rcv
 | _,_,_ => none
theorem vZ {b : Builtin} {c : Call} {ρ : Operand → AVal} {r : ARes} (ho : o.op = .call c) (hc : c.callee = .builtin b)
  (h : qy P b c.argTypes c.args ρ H nx = some r) : OpOK P o ρ H nx r := by
 unfold qy at h
 split at h <;> try (cases h; done)
 ·rename_i t x ht hx
  split at h <;> try (cases h; done)
  rename_i n hn
  cases h
  refine OpOK.pure fun σ w ρ' _ hd => ⟨.int .i64 (n : Int),.int _ _,?_⟩
  have e1 : c.argTypes = #[t] := by apply Array.ext'; rw [ht]
  have e2 : c.args = #[x] := by apply Array.ext'; rw [hx]
  simp [execOp,ho,resolve,hc,invoke,builtin,e1,e2,QR (P := P) (w := w) hn (hd x)]
 ·rename_i x l hx
  split at h <;> try (cases h; done)
  rename_i k n hk
  split at h <;> try (cases h; done)
  rename_i m hm
  rw [qp] at h
  cases h
  refine OpOK.pure fun σ w ρ' _ hd => ⟨.int k m,.int _ _,?_⟩
  have d := hd x; rw [hk] at d
  cases e : ρ' x <;> rw [e] at d <;> cases d
  have e2 : c.args = ⟨x :: l⟩ := by apply Array.ext'; rw [hx]
  have := wz (P := P) (w := w) hm (zD hd l)
  simp [execOp,ho,resolve,hc,invoke,builtin,e2,Builtin.max_,e,this]
 ·rename_i x l hx
  split at h <;> try (cases h; done)
  rename_i k n hk
  split at h <;> try (cases h; done)
  rename_i m hm
  rw [qp] at h
  cases h
  refine OpOK.pure fun σ w ρ' _ hd => ⟨.int k m,.int _ _,?_⟩
  have d := hd x; rw [hk] at d
  cases e : ρ' x <;> rw [e] at d <;> cases d
  have e2 : c.args = ⟨x :: l⟩ := by apply Array.ext'; rw [hx]
  have := wr (P := P) (w := w) hm (zD hd l)
  simp [execOp,ho,resolve,hc,invoke,builtin,e2,Builtin.min_,e,this]
 ·cases h
  intro σ w ρ' _ hd
  simp [execOp,ho,resolve,hc,invoke,builtin]
end
end Go.Ev
end
section
namespace Go.Ev
variable [GTab] {P : Program} {H : Heap} {nx : Nat} {w : World} {o : Oper}
noncomputable section
def seg (off : Nat) (cs l : List AVal) : List AVal := l.take off ++ cs ++ l.drop (off + cs.length)
def jD (place : Nat → Option (Nat × Nat)) (ρ : Operand → AVal) (cells : List AVal) : List (Nat × Operand) → Option (List AVal)
 | [] => some cells
 | (i,x) :: rest =>
  match place i,kc (ρ x) with
  | some (off,size),some cs => match Nat.beq cs.length size,Nat.ble (Nat.add off size) cells.length with
   | true,true => jD place ρ (seg off cs cells) rest
   | _,_ => none
  | _,_ => none
theorem yx : ∀ (xs : List Value) (k off : Nat) (A : Array Value),off + k + xs.length ≤ A.size →
  ((xs.zipIdx k).foldl (fun (cs : Array Value) (p : Value × Nat) => cs.setIfInBounds (off + p.2) p.1) A).toList = A.toList.take (off + k) ++ xs ++ A.toList.drop (off + k + xs.length)
 | [],k,off,A,h => by simp
 | x :: xs,k,off,A,h => by
  simp only [List.zipIdx_cons,List.foldl_cons,List.length_cons] at h ⊢
  rw [yx xs (k + 1) off _ (by simp; omega)]
  simp only [Array.toList_setIfInBounds]
  have hlt : off + k < A.toList.length := by simp; omega
  rw [List.set_eq_take_append_cons_drop,if_pos hlt]
  have e1 : (List.take (off + k) A.toList ++ x :: List.drop (off + k + 1) A.toList).take (off + (k + 1)) = List.take (off + k) A.toList ++ [x] := by
   rw [List.take_append]
   have : (List.take (off + k) A.toList).length = off + k := by simp; omega
   rw [this,List.take_of_length_le (by simp; omega)]
   have : off + (k + 1) - (off + k) = 1 := by omega
   rw [this]; simp
  have e2 : (List.take (off + k) A.toList ++ x :: List.drop (off + k + 1) A.toList).drop (off + (k + 1) + xs.length) = List.drop (off + k + (xs.length + 1)) A.toList := by
   rw [List.drop_append]
   have : (List.take (off + k) A.toList).length = off + k := by simp; omega
   rw [this,List.drop_of_length_le (by simp; omega)]
   have : off + (k + 1) + xs.length - (off + k) = xs.length + 1 := by omega
   rw [this]
   simp [List.drop_drop]
   congr 1
   omega
  rw [e1,e2]
  simp
theorem vj {σ : Sg} {ρ : Operand → AVal} {ρ' : Operand → Value} (hd : ∀ x,Den σ (ρ x) (ρ' x)) (place : Nat → Option (Nat × Nat)) :
  ∀ (parts : List (Nat × Operand)) (zs cs : List AVal) (zs' : List Value),jD place ρ zs parts = some cs → DenL σ zs zs' →
   ∃ cs',Instr.fill place ⟨zs'⟩ (parts.map fun p => (p.1,ρ' p.2)) = some ⟨cs'⟩ ∧ DenL σ cs cs' ∧ cs.length = zs.length
 | [],zs,cs,zs',h,hz => by cases h; exact ⟨zs',rfl,hz,rfl⟩
 | (i,x) :: rest,zs,cs,zs',h,hz => by
  unfold jD at h
  split at h <;> try (cases h; done)
  rename_i off size xs hp hxs
  split at h <;> try (cases h; done)
  rename_i h1 h2
  have h1' := Nat.eq_of_beq_eq_true h1
  have h2' := Nat.le_of_ble_eq_true h2
  have hx := kK hxs (hd x)
  have hlz := hz.length
  have hlx := hx.length
  have hsz : (ρ' x).cells.size = size := by rw [← h1',hlx]; simp
  have hadd : off + size ≤ zs'.length := by simp at h2'; omega
  have hs : DenL σ (seg off xs zs) (zs'.take off ++ (ρ' x).cells.toList ++ zs'.drop (off + (ρ' x).cells.toList.length)) := by
   unfold seg
   rw [← hlx]
   exact ((hz.take off).append hx).append (hz.drop _)
  have hseg : (seg off xs zs).length = zs.length := by unfold seg; simp; omega
  obtain ⟨cs',e,hc,hlen⟩ := vj hd place rest _ cs _ h hs
  refine ⟨cs',?_,hc,hlen.trans hseg⟩
  have hfold : (ρ' x).cells.zipIdx.foldl (fun (cs : Array Value) (p : Value × Nat) => cs.setIfInBounds (off + p.2) p.1) ⟨zs'⟩ = ⟨zs'.take off ++ (ρ' x).cells.toList ++ zs'.drop (off + (ρ' x).cells.toList.length)⟩ := by
   apply Array.ext'
   rw [← Array.foldl_toList,Array.toList_zipIdx]
   have := yx (ρ' x).cells.toList 0 off ⟨zs'⟩ (by simp; omega)
   simpa using this
  simp only [List.map_cons,Instr.fill,hp]
  have hcond : ¬ ((decide ((ρ' x).cells.size ≠ size) || decide (off + (ρ' x).cells.size > (Array.mk zs').size)) = true) := by
   simp
   omega
  rw [if_neg hcond]
  rw [← e]
  congr 1
theorem kl {ρ' : Operand → Value} (ps : Array (Nat × Operand)) : (ps.map fun (i,x) => (i,ρ' x)).toList = ps.toList.map fun p => (p.1,ρ' p.2) := by
 simp
def vt (P : Program) : List Field → Option (List (Nat × Nat))
 | [] => some []
 | f :: l => match P.info? f.type,vt P l with
  | some i,some r => some ((f.offset,i.size) :: r)
  | _,_ => none
theorem vE {P : Program} {w : World} : ∀ (l : List Field) (r : List (Nat × Nat)),vt P l = some r →
  (l.mapM fun f => do pure (f.offset,← sizeOf f.type) : Sem (List (Nat × Nat))).run P w = .ok r w
 | [],r,h => by cases h; rfl
 | f :: l,r,h => by
  unfold vt at h
  split at h <;> try (cases h; done)
  rename_i i r' hi hr
  cases h
  have ih := vE (P := P) (w := w) l r' hr
  simp only [List.mapM_cons,Sem.run_bind,qf hi,Result.andThen_ok,Sem.run_pure,ih]
def jg (P : Program) (t : TypeId) : Option (List AVal) :=
 match P.info? t with
 | some i => match i.zero with
  | some z => match Nat.beq z.cells.toList.length i.size with
   | true => some (z.cells.toList.map jI)
   | false => none
  | none => none
 | none => none
theorem zQ {t : TypeId} {l : List AVal} (h : jg P t = some l) : ∃ i z,P.info? t = some i ∧ i.zero = some z ∧ l = z.cells.toList.map jI ∧ z.cells.size = i.size := by
 unfold jg at h
 split at h <;> try (cases h; done)
 rename_i i hi
 split at h <;> try (cases h; done)
 rename_i z hz
 split at h <;> try (cases h; done)
 rename_i hq
 cases h
 exact ⟨i,z,hi,hz,rfl,by have := Nat.eq_of_beq_eq_true hq; simpa using this⟩
def vc (P : Program) (t : TypeId) (parts : Array (Nat × Operand)) (ρ : Operand → AVal) : Option (List AVal) :=
 match jg P t,P.underlying t with
 | some z,some (.struct fields) => match vt P fields.toList with
  | some pl => jD (fun i => pl[i]?) ρ z parts.toList
  | none => none
 | some z,some (.array _ elem) => match P.info? elem with
  | some e => jD (fun i => some (Nat.mul i e.size,e.size)) ρ z parts.toList
  | none => none
 | _,_ => none
def jb (P : Program) (t : TypeId) (parts : Array (Nat × Operand)) (ρ : Operand → AVal) (H : Heap) (nx : Nat) : Option ARes :=
 match vc P t parts ρ with
 | some cs => some (.val (.agg cs) H nx)
 | none => none
theorem Qk {t : TypeId} {parts : Array (Nat × Operand)} {ρ : Operand → AVal} {r : ARes} (ho : o.op = .build t parts)
  (h : jb P t parts ρ H nx = some r) : OpOK P o ρ H nx r := by
 unfold jb at h
 split at h <;> try (cases h; done)
 rename_i cs hcs
 cases h
 refine OpOK.pure fun σ w ρ' _ hd => ?_
 unfold vc at hcs
 split at hcs <;> try (cases hcs; done)
 ·rename_i z fields hz hu
  split at hcs <;> try (cases hcs; done)
  rename_i pl hpl
  obtain ⟨i,zv,hi,hzv,rfl,hsz⟩ := zQ hz
  obtain ⟨cs',e,hc,_⟩ := vj hd (fun i => pl[i]?) parts.toList _ cs zv.cells.toList hcs (qV σ _)
  refine ⟨.agg ⟨cs'⟩,.agg hc,?_⟩
  have hm : (fields.mapM fun f => do pure (f.offset,← sizeOf f.type) : Sem (Array (Nat × Nat))).run P w = .ok ⟨pl⟩ w := by
   rw [Array.mapM_eq_mapM_toList]
   have := vE (P := P) (w := w) fields.toList pl hpl
   simp only [Sem.run_map]
   rw [this]
   rfl
  have e' : Instr.fill (fun x => (Array.mk pl)[x]?) zv.cells (parts.map fun (i,x) => (i,ρ' x)).toList = some ⟨cs'⟩ := by
   rw [kl,← e]
   congr 1
   funext x
   simp
  simp only [execOp,ho,Instr.build,Sem.run_bind,Sem.run_pure,Result.andThen_ok,qm hi hzv,qa hu,hm,e']
 ·rename_i z len elem hz hu
  split at hcs <;> try (cases hcs; done)
  rename_i ei hei
  obtain ⟨i,zv,hi,hzv,rfl,hsz⟩ := zQ hz
  obtain ⟨cs',e,hc,_⟩ := vj hd (fun i => some (Nat.mul i ei.size,ei.size)) parts.toList _ cs zv.cells.toList hcs (qV σ _)
  refine ⟨.agg ⟨cs'⟩,.agg hc,?_⟩
  have e' : Instr.fill (fun i => some (i * ei.size,ei.size)) zv.cells (parts.map fun (i,x) => (i,ρ' x)).toList = some ⟨cs'⟩ := by
   rw [kl,← e]
   congr 1
  simp only [execOp,ho,Instr.build,Sem.run_bind,Sem.run_pure,Result.andThen_ok,qm hi hzv,qa hu,qf hei,e']
structure Made where
 n : Nat
 l : List AVal
 v : Nat → AVal
def kG (P : Program) (o : Oper) (ρ : Operand → AVal) (m : Made) : Prop :=
 ∀ (σ : Sg) (w : World) (ρ' : Operand → Value),(∀ x,Den σ (ρ x) (ρ' x)) →
  ∃ (l' : List Value) (t : TypeId) (v' : Value),DenL σ m.l l' ∧ m.l.length = m.n ∧ (∀ (σ' : Sg) (b : Nat),σ' b = some (w.heap.size,m.n) → Den σ' (m.v b) v') ∧
   (execOp ρ' o).run P w = .ok (.value v') (w.alloc (.cells ⟨l'⟩ t))
def jy (P : Program) (t : TypeId) : Option Made :=
 match jg P t with
 | some z => some ⟨z.length,z,fun b => .ptr b 0⟩
 | none => none
theorem wQ {t : TypeId} {ρ : Operand → AVal} {m : Made} (ho : o.op = .alloc t) (h : jy P t = some m) : kG P o ρ m := by
 unfold jy at h
 split at h <;> try (cases h; done)
 rename_i z hz
 cases h
 obtain ⟨i,zv,hi,hzv,rfl,hsz⟩ := zQ hz
 intro σ w ρ' hd
 refine ⟨zv.cells.toList,t,.pointer (some (at' w.heap.size 0)),qV σ _,rfl,fun σ' b hb => .ptr hb,?_⟩
 simp [execOp,ho,Instr.alloc,qm hi hzv,newVar,newRow]
def kU (x : Operand) (ρ : Operand → AVal) : Option Made :=
 match kc (ρ x) with
 | some cs => qn cs.length fun n => some ⟨n,cs,fun b => .ptr b 0⟩
 | none => none
theorem Ql {t : TypeId} {x : Operand} {ρ : Operand → AVal} {m : Made} (ho : o.op = .box t x) (h : kU x ρ = some m) : kG P o ρ m := by
 unfold kU at h
 split at h <;> try (cases h; done)
 rename_i cs hcs
 rw [qb] at h
 cases h
 intro σ w ρ' hd
 refine ⟨(ρ' x).cells.toList,t,.pointer (some (at' w.heap.size 0)),kK hcs (hd x),rfl,fun σ' b hb => .ptr hb,?_⟩
 simp [execOp,ho,Instr.box,newVar,newRow]
def repL (l : List AVal) (k : Nat) : List AVal := Nat.rec [] (fun _ ih => l ++ ih) k
theorem vk (l : List AVal) (k : Nat) : repL l (k + 1) = l ++ repL l k := rfl
def repV (l : List Value) : Nat → List Value
 | 0 => []
 | k + 1 => l ++ repV l k
theorem kA {σ : Sg} {l : List AVal} {l' : List Value} (h : DenL σ l l') : ∀ k,DenL σ (repL l k) (repV l' k)
 | 0 => .nil
 | k + 1 => by rw [vk]; exact h.append (kA h k)
theorem zO (l : List AVal) : ∀ k,(repL l k).length = k * l.length
 | 0 => by show ([] : List AVal).length = _; simp
 | k + 1 => by rw [vk,List.length_append,zO l k,Nat.succ_mul]; omega
theorem vO (z : Array Value) : ∀ k : Nat,((Array.range (k * z.size)).map (z[· % z.size]!)).toList = repV z.toList k := by
 intro k
 induction k with
 | zero => simp [repV]
 | succ k ih =>
  rw [repV,← ih]
  simp only [Array.toList_map,Array.toList_range]
  have e : (k + 1) * z.size = z.size + k * z.size := by rw [Nat.succ_mul]; omega
  rw [e,List.range_add,List.map_append]
  congr 1
  ·apply List.ext_getElem
   ·simp
   ·intro i h1 h2
    simp at h1 h2
    simp [Nat.mod_eq_of_lt h1,getElem!_pos z i h1]
  ·rw [List.map_map]
   apply List.map_congr_left
   intro i _
   simp
def zC (P : Program) (t : TypeId) (len : Nat) (parts : Array (Nat × Operand)) (ρ : Operand → AVal) : Option Made :=
 match P.underlying t with
 | some (.slice elem) => match jg P elem,P.info? elem with
  | some z,some e => match Nat.ble (Nat.mul len e.size) 4096,Nat.beq e.size 0 with
   | true,false => match jD (fun i => some (Nat.mul i e.size,e.size)) ρ (repL z len) parts.toList with
    | some cs => some ⟨Nat.mul len e.size,cs,fun b => .slice b 0 len e.size true⟩
    | none => none
   | _,_ => none
  | _,_ => none
 | _ => none
theorem ve {t : TypeId} {len : Nat} {parts : Array (Nat × Operand)} {ρ : Operand → AVal} {m : Made} (ho : o.op = .buildSlice t len parts)
  (h : zC P t len parts ρ = some m) : kG P o ρ m := by
 unfold zC at h
 split at h <;> try (cases h; done)
 rename_i elem hu
 split at h <;> try (cases h; done)
 rename_i z e hz he
 split at h <;> try (cases h; done)
 rename_i h1 h2
 have h1' : len * e.size ≤ 4096 := Nat.le_of_ble_eq_true h1
 have h2' : e.size ≠ 0 := fun q => by rw [q] at h2; cases h2
 split at h <;> try (cases h; done)
 rename_i cs hcs
 cases h
 obtain ⟨i,zv,hi,hzv,rfl,hsz⟩ := zQ hz
 rw [he] at hi
 cases hi
 intro σ w ρ' hd
 obtain ⟨cs',ef,hc,hlen⟩ := vj hd (fun i => some (Nat.mul i e.size,e.size)) parts.toList _ cs _ hcs (kA (qV σ zv.cells.toList) len)
 have hlen' : cs.length = len * e.size := by rw [hlen,zO]; simp [hsz]
 refine ⟨cs',elem,.slice (some (at' w.heap.size 0)) len len,hc,hlen',fun σ' b hb => .slice hb (Nat.le_refl _) (by simp) (fun _ => rfl),?_⟩
 have ez : (Array.range (len * e.size)).map (fun x => zv.cells[x % zv.cells.size]!) = ⟨repV zv.cells.toList len⟩ := by
  apply Array.ext'
  rw [← hsz]
  exact vO zv.cells len
 have e' : Instr.fill (fun i => some (i * e.size,e.size)) ⟨repV zv.cells.toList len⟩ (parts.map fun (i,x) => (i,ρ' x)).toList = some ⟨cs'⟩ := by
  rw [kl,← ef]
  congr 1
 have hbig : ¬ len * e.size > 2 ^ 24 := by omega
 simp only [execOp,ho,Instr.buildSlice,Sem.run_bind,Sem.run_pure,Result.andThen_ok,qa hu,qf he,Sem.run_ite,if_neg hbig]
 by_cases hl0 : len * e.size = 0
 ·have hlen0 : len = 0 := by
   rcases Nat.mul_eq_zero.1 hl0 with h | h
   ·exact h
   ·exact (h2' h).elim
  subst hlen0
  have ez' : (Array.range (0 * e.size)).map (fun x => (#[] : Array Value)[x % (#[] : Array Value).size]!) = ⟨repV zv.cells.toList 0⟩ := by simp [repV]
  simp only [if_pos hl0,Result.andThen_ok,ez',e',newRow,Sem.run_bind,run_newObj,Sem.run_pure]
  rfl
 ·simp only [if_neg hl0,qm he hzv,Sem.run_bind,Sem.run_pure,Result.andThen_ok,ez,e',newRow,run_newObj]
  rfl
def jU (P : Program) (t : TypeId) (l c : Operand) (ρ : Operand → AVal) : Option Made :=
 match P.underlying t,ρ l,ρ c with
 | some (.slice elem),.int _ li,.int _ ci => match jg P elem,P.info? elem,kx li,kx ci with
  | some z,some e,some n,some m => match Nat.beq n m,Nat.ble (Nat.mul n e.size) 4096,Nat.ble (Nat.mul n e.bytes) 140737488355328,Nat.beq e.size 0,Nat.ble n 9223372036854775807 with
   | true,true,true,false,true => qn (Nat.mul n e.size) fun k => some ⟨k,repL z n,fun b => .slice b 0 n e.size true⟩
   | _,_,_,_,_ => none
  | _,_,_,_ => none
 | _,_,_ => none
theorem yl {t : TypeId} {l c : Operand} {ρ : Operand → AVal} {m : Made} (ho : o.op = .makeSlice t l c)
  (h : jU P t l c ρ = some m) : kG P o ρ m := by
 unfold jU at h
 split at h <;> try (cases h; done)
 rename_i elem k1 li k2 ci hu hl hc
 split at h <;> try (cases h; done)
 rename_i z e n n2 hz he hn hn2
 split at h <;> try (cases h; done)
 rename_i h1 h2 h3 h4 h5
 have h1' := Nat.eq_of_beq_eq_true h1
 subst h1'
 have h2' : n * e.size ≤ 4096 := Nat.le_of_ble_eq_true h2
 have h3' : n * e.bytes ≤ 140737488355328 := Nat.le_of_ble_eq_true h3
 have h4' : e.size ≠ 0 := fun q => by rw [q] at h4; cases h4
 have h5' : n ≤ 9223372036854775807 := Nat.le_of_ble_eq_true h5
 have e1 := z6 hn
 have e2 := z6 hn2
 subst e1
 subst e2
 rw [qb] at h
 cases h
 obtain ⟨i,zv,hi,hzv,rfl,hsz⟩ := zQ hz
 rw [he] at hi
 cases hi
 intro σ w ρ' hd
 have d1 := hd l; rw [hl] at d1
 have d2 := hd c; rw [hc] at d2
 cases q1 : ρ' l <;> rw [q1] at d1 <;> cases d1
 cases q2 : ρ' c <;> rw [q2] at d2 <;> cases d2
 refine ⟨repV zv.cells.toList n,elem,.slice (some (at' w.heap.size 0)) n n,kA (qV σ _) n,(by show _ = n * e.size; rw [zO,List.length_map,Array.length_toList,hsz]),fun σ' b hb => .slice hb (Nat.le_refl _) (by simp) (fun _ => rfl),?_⟩
 have ez : (Array.range (n * e.size)).map (fun x => zv.cells[x % zv.cells.size]!) = ⟨repV zv.cells.toList n⟩ := by
  apply Array.ext'
  rw [← hsz]
  exact vO zv.cells n
 have w1 : IntKind.i64.wrap (n : Int) = (n : Int) := IntWalk.i64_in _ (by omega)
 have t1 : ¬ ((n : Int) < 0) := by omega
 have hb : ((e.bytes : Int) * (n : Int)) = ((n * e.bytes : Nat) : Int) := by rw [Int.natCast_mul,Int.mul_comm]
 have t2 : ¬ ((e.bytes : Int) * (n : Int) > 2 ^ 48) := by rw [hb]; omega
 have t3 : ¬ ((n : Int) > (n : Int)) := by omega
 simp only [execOp,ho,Instr.makeSlice,q1,q2,Sem.run_bind,Sem.run_pure,Result.andThen_ok,qa hu,asInt,asIntOf,qq he,w1]
 have tl : (decide ((n : Int) < 0) || decide ((e.bytes : Int) * (n : Int) > 2 ^ 48)) = false := by rw [decide_eq_false t1,decide_eq_false t2]; rfl
 have cond : ¬ ((((decide ((n : Int) < 0) || decide ((e.bytes : Int) * (n : Int) > 2 ^ 48)) || decide ((n : Int) < 0)) || decide ((n : Int) > (n : Int))) = true) := by
  rw [tl]
  have : decide ((n : Int) < 0) = false := decide_eq_false t1
  rw [this]
  simp
 rw [Sem.run_ite,if_neg cond]
 simp only [Sem.run_bind,Sem.run_pure,Result.andThen_ok,run_askRoom,Int.toNat_natCast,qf he,Sem.run_ite]
 by_cases hl0 : n * e.size = 0
 ·have hn0 : n = 0 := by
   rcases Nat.mul_eq_zero.1 hl0 with h | h
   ·exact h
   ·exact (h4' h).elim
  subst hn0
  have ez' : (Array.range (0 * e.size)).map (fun x => (#[] : Array Value)[x % (#[] : Array Value).size]!) = ⟨repV zv.cells.toList 0⟩ := by simp [repV]
  simp only [if_pos hl0,Sem.run_pure,Result.andThen_ok,ez',newRow,Sem.run_bind,run_newObj]
  rfl
 ·simp only [if_neg hl0,qm he hzv,Sem.run_bind,Sem.run_pure,Result.andThen_ok,ez,newRow,run_newObj]
  rfl
def made (P : Program) (op : Op) (ρ : Operand → AVal) : Option Made :=
 match op with
 | .alloc t => jy P t
 | .box _ x => kU x ρ
 | .buildSlice t len parts => zC P t len parts ρ
 | .makeSlice t l c => jU P t l c ρ
 | _ => none
theorem QF {ρ : Operand → AVal} {m : Made} (h : made P o.op ρ = some m) : kG P o ρ m := by
 unfold made at h
 split at h <;> try (cases h; done)
 ·exact wQ ‹_› h
 ·exact Ql ‹_› h
 ·exact ve ‹_› h
 ·exact yl ‹_› h
theorem vr {σ : Sg} {n : Nat} {l : List AVal} {l' : List Value} (hl : DenL σ l l') (hn : l.length = n) (h4 : n ≤ 4096) :
  n ≤ (CT.ofL n l).cap ∧ n = (Array.mk l').size ∧ ∀ i,i < n → ∃ v',(Array.mk l')[i]? = some v' ∧ Den σ ((CT.ofL n l).get i) v' := by
 refine ⟨CT.ofL_cap n l h4,by rw [← hn,hl.length]; rfl,fun i hi => ?_⟩
 have hlt : i < l.length := by omega
 obtain ⟨v',e,d⟩ := hl.get i l[i] (by simp [List.getElem?_eq_getElem hlt])
 refine ⟨v',by simpa using e,?_⟩
 rw [CT.get_ofL n l i h4 hi]
 simpa [List.getD,List.getElem?_eq_getElem hlt] using d
def wX (m : Made) (H : Heap) (nx : Nat) : Option ARes :=
 match Nat.ble m.n 4096,Nat.ble (Nat.succ nx) 1048576 with
 | true,true => qn nx fun b => some (.val (m.v b) (set5 b (some (.cells m.n (CT.ofL m.n m.l) [] false)) H) (Nat.succ b))
 | _,_ => none
theorem Q9 {ρ : Operand → AVal} {m : Made} {r : ARes} (hm : kG P o ρ m) (h : wX m H nx = some r) : OpOK P o ρ H nx r := by
 unfold wX at h
 split at h <;> try (cases h; done)
 rename_i h1 h2
 have h1' := Nat.le_of_ble_eq_true h1
 have h2' := Nat.le_of_ble_eq_true h2
 rw [qb] at h
 cases h
 intro σ w ρ' hr hd
 obtain ⟨l',t,v',hl,hn,hv,hrun⟩ := hm σ w ρ' hd
 obtain ⟨c1,c2,c3⟩ := vr hl hn h1'
 obtain ⟨r1,r2⟩ := hr.alloc (t := t) (fz := (0,0)) (by omega) c1 c2 (Nat.le_refl _) (fun i _ h => by omega) c3
 refine ⟨_,_,v',r1,r2,hv _ nx (by simp [upd]),.inl hrun⟩
end
end Go.Ev
namespace Go.Ev
variable [GTab] {P : Program} {H : Heap} {nx : Nat} {w : World} {o : Oper}
noncomputable section
theorem Rel.demote {σ : Sg} {nx b n cb sz : Nat} {ct : CT} {olds : List Nat} (h : Rel σ H nx w) (hb : σ b = some (cb,sz)) (ho : get5 b H = some (.cells n ct olds false)) :
  Rel σ (set5 b (some (.cells n ct [] true)) (dels olds H)) nx w ∧ (∀ c,c < nx → σ c = none → get5 c (set5 b (some (.cells n ct [] true)) (dels olds H)) = get5 c H) ∧
  (∀ c o s,get5 c (set5 b (some (.cells n ct [] true)) (dels olds H)) = some o → σ c = some (cb,s) → c = b) := by
 have hlim := h.lim
 have lt : ∀ {c p},σ c = some p → c < 1048576 := fun {c p} hc => by obtain ⟨cb,sz⟩ := p; have := (h.dom c cb sz hc).1; omega
 have hold : ∀ c,c ∈ olds → ∃ p',σ c = some p' := fun c hc => h.old b _ _ ho hb c hc
 have holt : ∀ c,c ∈ olds → c < 1048576 := fun c hc => let ⟨_,e⟩ := hold c hc; lt e
 have bn : b < 1048576 := lt hb
 have key : ∀ c o,c ≠ b → c < 1048576 → get5 c (set5 b (some (.cells n ct [] true)) (dels olds H)) = some o → get5 c H = some o ∧ c ∉ olds := by
  intro c o hcb hc e
  rw [qr (fun e => hcb e.symm) bn hc,zd olds H c holt hc] at e
  by_cases hm : c ∈ olds
  ·rw [if_pos hm] at e; cases e
  ·rw [if_neg hm] at e; exact ⟨e,hm⟩
 have keyb : get5 b (set5 b (some (.cells n ct [] true)) (dels olds H)) = some (.cells n ct [] true) := qg _ _ _
 have alone : ∀ c o s,c ≠ b → c ∉ olds → get5 c H = some o → σ c = some (cb,s) → False := by
  intro c o s hcb hno hc hs
  rcases h.sep c b o _ cb s sz hc ho hs hb with e | e | e
  ·exact hcb e
  ·exact hno e
  ·have := h.sup b c _ o _ ho hc hs e
   simp [AObj.sup] at this
 refine ⟨⟨hlim,h.dom,?_,?_,?_,?_,h.glob⟩,?_,?_⟩
 ·intro c o x s e1 e2
  by_cases hcb : c = b
  ·subst hcb; rw [keyb] at e1; cases e1
   have := h.obj c _ x s ho e2
   exact this
  ·exact h.obj c o x s (key c o hcb (lt e2) e1).1 e2
 ·intro c c' o o' x s s' e1 e2 e3 e4
  by_cases h1 : c = b
  ·subst h1
   by_cases h2 : c' = c
   ·exact .inl h2.symm
   ·obtain ⟨e2',hno⟩ := key c' o' h2 (lt e4) e2
    rw [hb] at e3; cases e3
    exact (alone c' o' s' h2 hno e2' e4).elim
  ·obtain ⟨e1',hno⟩ := key c o h1 (lt e3) e1
   by_cases h2 : c' = b
   ·subst h2
    rw [hb] at e4; cases e4
    exact (alone c o s h1 hno e1' e3).elim
   ·exact h.sep c c' o o' x s s' e1' (key c' o' h2 (lt e4) e2).1 e3 e4
 ·intro c c' o o' p e1 e2 e3 e4
  by_cases h2 : c' = b
  ·subst h2; rw [keyb] at e2; cases e2; simp [AObj.olds] at e4
  ·obtain ⟨e2',_⟩ := key c' o' h2 (lt e3) e2
   obtain ⟨p',hp'⟩ := h.old c' o' p e2' e3 c e4
   by_cases h1 : c = b
   ·subst h1; rw [keyb] at e1; cases e1; rfl
   ·exact h.sup c c' o o' p (key c o h1 (lt hp') e1).1 e2' e3 e4
 ·intro c o p e1 e2 c' e3
  by_cases h1 : c = b
  ·subst h1; rw [keyb] at e1; cases e1; simp [AObj.olds] at e3
  ·exact h.old c o p (key c o h1 (lt e2) e1).1 e2 c' e3
 ·intro c hc hn
  have hcb : b ≠ c := fun e => by subst e; rw [hb] at hn; cases hn
  have hno : c ∉ olds := fun hm => by obtain ⟨_,e⟩ := hold c hm; rw [hn] at e; cases e
  rw [qr hcb bn (by omega),zd olds H c holt (by omega),if_neg hno]
 ·intro c o s e1 e2
  by_cases hcb : c = b
  ·exact hcb
  ·obtain ⟨e1',hno⟩ := key c o hcb (lt e2) e1
   exact (alone c o s hcb hno e1' e2).elim
theorem Rel.share {σ : Sg} {nx cb sz n : Nat} {w w' : World} {ct : CT} {os : List Nat} (h : Rel σ H nx w) (hx : nx < 1048576) (hcb : cb < w'.heap.size)
  (hsize : w.heap.size ≤ w'.heap.size) (hblk : ∀ i,i < w.heap.size → i ≠ cb → w'.heap[i]? = w.heap[i]?)
  (hos : ∀ c,c ∈ os → (∃ p,σ c = some p) ∧ ∀ o,get5 c H = some o → o.sup = true)
  (hal : ∀ c o s,get5 c H = some o → σ c = some (cb,s) → c ∈ os ∧ ORel σ o cb s w')
  (hnew : ORel (upd σ nx (cb,sz)) (.cells n ct os false) cb sz w') (hrng : cb < w.heap.size → ∃ b' sz',σ b' = some (cb,sz')) :
  Rel (upd σ nx (cb,sz)) (set5 nx (some (.cells n ct os false)) H) (nx + 1) w' := by
 have hb : σ nx = none := by
  cases e : σ nx with
  | none => rfl
  | some p => obtain ⟨cb,s⟩ := p; have := (h.dom nx cb s e).1; omega
 have sub := jk (p := (cb,sz)) hb
 have hlim := h.lim
 have lt : ∀ {c p},σ c = some p → c < nx := fun {c p} hc => by obtain ⟨cb,sz⟩ := p; exact (h.dom c cb sz hc).1
 have ne : ∀ {c p},σ c = some p → get5 c (set5 nx (some (.cells n ct os false)) H) = get5 c H := by
  intro c p hc
  have := lt hc
  exact qr (by omega) hx (by omega)
 have hglob : Glob (upd σ nx (cb,sz)) w' := by
  refine h.glob.of hsize (fun i hi hno => hblk i hi fun e => ?_) fun x c s e hlt => ?_
  ·subst e
   obtain ⟨b',sz',e'⟩ := hrng hi
   exact hno b' sz' e'
  ·rcases qv e with ⟨rfl,q⟩ | ⟨_,q⟩
   ·cases q; exact hrng hlt
   ·exact ⟨x,s,q⟩
 refine ⟨by omega,?_,?_,?_,?_,?_,hglob⟩
 ·intro c x s e
  rcases qv e with ⟨rfl,q⟩ | ⟨_,q⟩
  ·cases q; exact ⟨by omega,hcb⟩
  ·have := h.dom c x s q; exact ⟨by omega,by omega⟩
 ·intro c o x s e1 e2
  rcases qv e2 with ⟨rfl,q⟩ | ⟨hne,q⟩
  ·cases q; rw [qg] at e1; cases e1; exact hnew
  ·rw [ne q] at e1
   by_cases hx' : x = cb
   ·subst hx'; exact ORel.mono sub (hal c o s e1 q).2
   ·exact (ORel.mono sub (h.obj c o x s e1 q)).of_block (hblk x (h.dom c x s q).2 hx')
 ·intro c c' o o' x s s' e1 e2 e3 e4
  rcases qv e3 with ⟨rfl,q⟩ | ⟨_,q⟩
  ·cases q
   rcases qv e4 with ⟨rfl,_⟩ | ⟨_,q'⟩
   ·exact .inl rfl
   ·rw [ne q'] at e2
    rw [qg] at e1
    cases e1
    exact .inr (.inr (hal c' o' s' e2 q').1)
  ·rw [ne q] at e1
   rcases qv e4 with ⟨rfl,q'⟩ | ⟨_,q'⟩
   ·cases q'
    rw [qg] at e2
    cases e2
    exact .inr (.inl (hal c o s e1 q).1)
   ·rw [ne q'] at e2
    exact h.sep c c' o o' x s s' e1 e2 q q'
 ·intro c c' o o' p e1 e2 e3 e4
  rcases qv e3 with ⟨rfl,_⟩ | ⟨_,q⟩
  ·rw [qg] at e2
   cases e2
   obtain ⟨⟨p',hp'⟩,hs⟩ := hos c e4
   rw [ne hp'] at e1
   exact hs o e1
  ·rw [ne q] at e2
   obtain ⟨p',hp'⟩ := h.old c' o' p e2 q c e4
   rw [ne hp'] at e1
   exact h.sup c c' o o' p e1 e2 q e4
 ·intro c o p e1 e2 c' e3
  rcases qv e2 with ⟨rfl,_⟩ | ⟨_,q⟩
  ·rw [qg] at e1
   cases e1
   obtain ⟨⟨p',hp'⟩,_⟩ := hos c' e3
   exact ⟨p',sub _ _ hp'⟩
  ·rw [ne q] at e1
   obtain ⟨p',hp'⟩ := h.old c o p e1 q c' e3
   exact ⟨p',sub _ _ hp'⟩
def Z0 (x : Nat) (n : Nat) : List AVal := Nat.rec [] (fun m ih => .int .u8 (.ofNat (Nat.mod (Nat.shiftRight x (Nat.mul 8 m)) 256)) :: ih) n
theorem Zs (x n : Nat) : Z0 x (n + 1) = .int .u8 (.ofNat (Nat.mod (Nat.shiftRight x (Nat.mul 8 n)) 256)) :: Z0 x n := rfl
theorem yW (x : Nat) : ∀ n,(Z0 x n).length = n
 | 0 => rfl
 | n + 1 => by rw [Zs,List.length_cons,yW x n]
theorem Jt {σ : Sg} (x : Nat) : ∀ n,DenL σ (Z0 x n) ((digs n x).map fun b => Value.int .u8 b.toNat)
 | 0 => .nil
 | n + 1 => by
  rw [Zs,digs,List.map_cons]
  refine .cons ?_ (Jt x n)
  have e : ((UInt8.ofNat (x / 256 ^ n)).toNat : Int) = Int.ofNat (Nat.mod (Nat.shiftRight x (Nat.mul 8 n)) 256) := by
   have e1 : Nat.mod (Nat.shiftRight x (Nat.mul 8 n)) 256 = x / 256 ^ n % 256 := by
    show (x >>> (8 * n)) % 256 = _
    rw [Nat.shiftRight_eq_div_pow,Kz]
   rw [e1]
   simp [UInt8.toNat_ofNat']
  rw [e]
  exact .int _ _
def aSrc (size : Nat) (H : Heap) (x : AVal) : Option (Nat × List AVal) :=
 match x with
 | .slice b off n _ _ => match get5 b H with
  | some (.cells cnt ct _ _) => match Nat.ble (Nat.add off (Nat.mul n size)) cnt with
   | true => some (n,CT.slab ct (Nat.mul n size) off)
   | false => none
  | _ => none
 | .nilSlice => some (0,[])
 | .str n z => match Nat.beq size 1 with
  | true => some (n,Z0 z n)
  | false => none
 | _ => none
theorem QD {σ : Sg} {size n : Nat} {x : AVal} {x' : Value} {l : List AVal} (hr : Rel σ H nx w) (hd : Den σ x x') (h : aSrc size H x = some (n,l)) :
  l.length = n * size ∧ ∃ l',DenL σ l l' ∧ (Builtin.lenOf x').run P w = .ok n w ∧ (Builtin.firstCells size n x').run P w = .ok ⟨l'⟩ w := by
 unfold aSrc at h
 split at h
 ·rename_i b off m esz full
  split at h <;> try (cases h; done)
  rename_i cnt ct olds s ho
  split at h <;> try (cases h; done)
  rename_i hle
  have hle' : off + m * size ≤ cnt := Nat.le_of_ble_eq_true hle
  cases h
  refine ⟨CT.slab_length _ _ _,?_⟩
  cases hd with
  | @slice _ _ _ _ cb sz cap _ hb h1 h2 h3 =>
   obtain ⟨l',_,hl,_,hrun⟩ := zo hr ho hb P off (n * size) hle'
   exact ⟨l',hl,rfl,hrun⟩
  | slice0 hb =>
   have e : Nat.mul 0 size = 0 := Nat.zero_mul _
   rw [e]
   refine ⟨[],.nil,rfl,?_⟩
   simp [Builtin.firstCells,loadCells,loadCellsFrom]
 ·cases h
  cases hd
  exact ⟨by simp,[],.nil,rfl,rfl⟩
 ·rename_i m z
  split at h <;> try (cases h; done)
  rename_i hs
  have hs' := Nat.eq_of_beq_eq_true hs
  cases h
  cases hd
  refine ⟨by rw [yW,hs',Nat.mul_one],_,Jt z n,?_,?_⟩
  ·show Result.ok (dec n z).size w = _
   rw [kW]
  ·simp only [Builtin.firstCells,Sem.run_pure]
   congr 1
   apply Array.ext'
   rw [Lib.extract_eq,Qu]
   simp only [List.drop_zero,Nat.sub_zero]
   rw [List.take_of_length_le (by rw [jK]; exact Nat.le_refl _)]
   simp
 ·cases h
def srcD : TypeDesc → Bool
 | .slice _ | .string => true
 | _ => false
def ZB (b cnt : Nat) (ct : CT) (olds : List Nat) (k : Nat) (H : Heap) (b' total : Nat) (ct' : CT) : Heap :=
 match Nat.beq k cnt with
 | true => set5 b' (some (.cells total ct' [b] false)) (set5 b (some (.cells cnt ct [] true)) (dels olds H))
 | false => set5 b' (some (.cells total ct' [] false)) (set5 b none (set5 b (some (.cells cnt ct [] true)) (dels olds H)))
def vd (P : Program) (elem : TypeId) (size : Nat) (x : AVal) : Option (Nat × List AVal) :=
 match x,jg P elem with
 | .int .i64 (.ofNat n),some z => match Nat.ble (Nat.mul n size) 4096,Nat.ble n 4096 with
  | true,true => some (n,repL z n)
  | _,_ => none
 | _,_ => none
def VF : TypeDesc → Bool
 | .int _ => true
 | _ => false
def jp (P : Program) (elem : TypeId) (H : Heap) (nx : Nat) (s : AVal) (src : Nat → Option (Nat × List AVal)) : Option ARes :=
 match jg P elem,P.info? elem with
 | some _,some e =>
  match src e.size,Nat.beq e.size 0,Nat.ble (Nat.succ nx) 1048576 with
  | some (0,_),false,true => match s with
   | .nilSlice => some (.val .nilSlice H nx)
   | .slice b off len esz full => some (.val (.slice b off len esz full) H nx)
   | _ => none
  | some (Nat.succ n',new),false,true => match s with
   | .nilSlice => match Nat.ble (Nat.mul (Nat.succ n') e.size) 4096,Nat.ble (Nat.mul (Nat.succ n') e.bytes) 140737488355328 with
    | true,true => qn nx fun b' => qn (Nat.mul (Nat.succ n') e.size) fun total =>
      some (.val (.slice b' 0 (Nat.succ n') e.size false) (set5 b' (some (.cells total (CT.ofL total new) [] false)) H) (Nat.succ b'))
    | _,_ => none
   | .slice b off len esz full => match get5 b H,Nat.beq esz e.size,Nat.ble (Nat.mul (Nat.add len (Nat.succ n')) e.size) 4096,Nat.ble (Nat.mul (Nat.add len (Nat.succ n')) e.bytes) 140737488355328 with
    | some (.cells cnt ct olds sup),true,true,true => match Nat.ble (Nat.add off (Nat.mul len e.size)) cnt,full with
     | true,true => qn nx fun b' => qn (Nat.mul (Nat.add len (Nat.succ n')) e.size) fun total => qn (Nat.add len (Nat.succ n')) fun m =>
       some (.val (.slice b' 0 m e.size false) (set5 b' (some (.cells total (CT.ofL total (CT.slab ct (Nat.mul len e.size) off ++ new)) [] false)) H) (Nat.succ b'))
     | true,false => match off,sup with
      | 0,false => qn nx fun b' => qn (Nat.mul (Nat.add len (Nat.succ n')) e.size) fun total => qn (Nat.add len (Nat.succ n')) fun m =>
        some (.val (.slice b' 0 m e.size false) (ZB b cnt ct olds (Nat.mul len e.size) H b' total (CT.lay new (Nat.mul len e.size) (CT.widen total ct))) (Nat.succ b'))
      | _,_ => none
     | _,_ => none
    | _,_,_,_ => none
   | _ => none
  | _,_,_ => none
 | _,_ => none
theorem ZD {sT xT u elem : TypeId} {e : TypeInfo} {d : TypeDesc} {base : Option Addr} {len cap n : Nat} {x' : Value} {l' : List Value}
  (hu : P.underlying sT = some (.slice elem)) (hx : P.underlying xT = some d) (hd : srcD d = true) (he : P.info? elem = some e)
  (hlen : (Builtin.lenOf x').run P w = .ok n w) (hfc : (Builtin.firstCells e.size n x').run P w = .ok ⟨l'⟩ w) (hroom : len + n ≤ cap) :
  (Builtin.append_ #[sT,xT] u #[.slice base len cap,x']).run P w =
   (match base with | some a => (storeCells (a.add (len * e.size)) l').run P w | none => .ok () w).andThen fun _ w' => .ok (.slice base (len + n) cap) w' := by
 cases d <;> try (cases hd; done)
 all_goals (cases base <;> simp [Builtin.append_,qa hu,qa hx,qf he,hlen,hroom,hfc])
theorem kM {sT xT u elem : TypeId} {e : TypeInfo} {z : Value} {d : TypeDesc} {base : Option Addr} {len cap n : Nat} {x' : Value} {l' o' : List Value}
  (hu : P.underlying sT = some (.slice elem)) (hx : P.underlying xT = some d) (hd : srcD d = true) (he : P.info? elem = some e) (hz : e.zero = some z)
  (hlen : (Builtin.lenOf x').run P w = .ok n w) (hfc : (Builtin.firstCells e.size n x').run P w.drew = .ok ⟨l'⟩ w.drew)
  (hold : (Builtin.firstCells e.size len (.slice base len cap)).run P w.drew = .ok ⟨o'⟩ w.drew) (hroom : cap < len + n) (hb : (len + n) * e.bytes ≤ 140737488355328) (h4 : len + n ≤ 4096) :
  ∃ c,len + n ≤ c ∧ (Builtin.append_ #[sT,xT] u #[.slice base len cap,x']).run P w =
   .ok (.slice (some (at' w.heap.size 0)) (len + n) c) (w.drew.alloc (.cells (⟨o'⟩ ++ ⟨l'⟩ ++ Builtin.zeroCells z.cells (c - (len + n))) elem)) := by
 have hn : ¬ (len + n ≤ cap) := by omega
 have h63 : ¬ (9223372036854775807 < ((len : Int) + (n : Int))) := by omega
 have h48 : ¬ (281474976710656 < Builtin.nextslicecap (len + n) cap * e.bytes) := by have := growslice_fits hroom hb; omega
 refine ⟨(Question.appendCap (len + n) cap elem).cut (w.tape w.drawn (.appendCap (len + n) cap elem)),by simp [Question.cut],?_⟩
 cases d <;> try (cases hd; done)
 all_goals (simp [Builtin.append_,qa hu,qa hx,qf he,qq he,qm he hz,hlen,hn,h63,h48,Question.forced,hfc,hold,newRow]; congr 2; apply Array.ext'; simp)
def wT (P : Program) (w : World) (sT xT : TypeId) (e : TypeInfo) (x' : Value) (n : Nat) (l' : List Value) : Prop :=
 n * e.bytes ≤ 140737488355328 → ∀ (u : TypeId) (base : Option Addr) (len cap : Nat),len + n ≤ cap →
  (Builtin.append_ #[sT,xT] u #[.slice base len cap,x']).run P w =
   (match base with | some a => (storeCells (a.add (len * e.size)) l').run P w | none => .ok () w).andThen fun _ w' => .ok (.slice base (len + n) cap) w'
def wI (P : Program) (w : World) (sT xT elem : TypeId) (e : TypeInfo) (z : Value) (x' : Value) (n : Nat) (l' : List Value) : Prop :=
 ∀ (u : TypeId) (base : Option Addr) (len cap : Nat) (o' : List Value),(Builtin.firstCells e.size len (.slice base len cap)).run P w.drew = .ok ⟨o'⟩ w.drew → cap < len + n → (len + n) * e.bytes ≤ 140737488355328 → len + n ≤ 4096 →
  ∃ c,len + n ≤ c ∧ (Builtin.append_ #[sT,xT] u #[.slice base len cap,x']).run P w =
   .ok (.slice (some (at' w.heap.size 0)) (len + n) c) (w.drew.alloc (.cells (⟨o'⟩ ++ ⟨l'⟩ ++ Builtin.zeroCells z.cells (c - (len + n))) elem))
theorem JD {sT xT elem : TypeId} {e : TypeInfo} {d : TypeDesc} {n : Nat} {x' : Value} {l' : List Value}
  (hu : P.underlying sT = some (.slice elem)) (hx : P.underlying xT = some d) (hd : srcD d = true) (he : P.info? elem = some e)
  (hlen : (Builtin.lenOf x').run P w = .ok n w) (hfc : (Builtin.firstCells e.size n x').run P w = .ok ⟨l'⟩ w) : wT P w sT xT e x' n l' :=
 fun _ _ _ _ _ hroom => ZD hu hx hd he hlen hfc hroom
theorem Jw {sT xT elem : TypeId} {e : TypeInfo} {z : Value} {d : TypeDesc} {n : Nat} {x' : Value} {l' : List Value}
  (hu : P.underlying sT = some (.slice elem)) (hx : P.underlying xT = some d) (hd : srcD d = true) (he : P.info? elem = some e) (hz : e.zero = some z)
  (hlen : (Builtin.lenOf x').run P w = .ok n w) (hfc : (Builtin.firstCells e.size n x').run P w.drew = .ok ⟨l'⟩ w.drew) : wI P w sT xT elem e z x' n l' :=
 fun _ _ _ _ _ hold hroom hb h4 => kM hu hx hd he hz hlen hfc hold hroom hb h4
theorem vF {n : Nat} (h : n ≤ 4096) : IntKind.i64.wrap (n : Int) = (n : Int) := by
 have h1 : ((n : Int) % 2 ^ 64) = (n : Int) := by omega
 simp only [IntKind.wrap,IntKind.signed,IntKind.bits,h1]
 rw [if_neg (by simp; omega)]
theorem jS {n : Nat} : (asIntOf (.int .i64 (n : Int))).run P w = .ok (.i64,(n : Int)) w := rfl
theorem Qc {sT xT elem : TypeId} {e : TypeInfo} {z : Value} {k : IntKind} {n : Nat}
  (hu : P.underlying sT = some (.slice elem)) (hx : P.underlying xT = some (.int k)) (he : P.info? elem = some e) (hz : e.zero = some z) (hzs : z.cells.size = e.size) (hn : n ≤ 4096) :
  wT P w sT xT e (.int .i64 (n : Int)) n (Builtin.zeroCells z.cells n).toList := by
 intro hb u base len cap hroom
 have hwr := vF hn
 have h1 : ¬ ((n : Int) < 0) := by omega
 have h2 : ¬ (281474976710656 < (n : Int) * (e.bytes : Int)) := by omega
 by_cases h0 : n * e.size = 0
 ·have e0 : Builtin.zeroCells z.cells n = #[] := by apply Array.eq_empty_of_size_eq_zero; simp [Builtin.zeroCells,hzs,h0]
  cases base <;> simp [Builtin.append_,qa hu,qa hx,qf he,qq he,asInt,jS,hwr,h1,h2,hroom,h0,e0]
 ·cases base <;> simp [Builtin.append_,qa hu,qa hx,qf he,qq he,qm he hz,asInt,jS,hwr,h1,h2,hroom,h0]
theorem Qg {sT xT elem : TypeId} {e : TypeInfo} {z : Value} {k : IntKind} {n : Nat}
  (hu : P.underlying sT = some (.slice elem)) (hx : P.underlying xT = some (.int k)) (he : P.info? elem = some e) (hz : e.zero = some z) (hzs : z.cells.size = e.size) (hn : n ≤ 4096) :
  wI P w sT xT elem e z (.int .i64 (n : Int)) n (Builtin.zeroCells z.cells n).toList := by
 intro u base len cap o' hold hroom hb h4
 have hwr := vF hn
 have h1 : ¬ ((n : Int) < 0) := by omega
 have h2 : ¬ (281474976710656 < (n : Int) * (e.bytes : Int)) := by
  have : n * e.bytes ≤ (len + n) * e.bytes := Nat.mul_le_mul_right _ (by omega)
  omega
 have hn' : ¬ (len + n ≤ cap) := by omega
 have h63 : ¬ (9223372036854775807 < ((len : Int) + (n : Int))) := by omega
 have h48 : ¬ (281474976710656 < Builtin.nextslicecap (len + n) cap * e.bytes) := by have := growslice_fits hroom hb; omega
 refine ⟨(Question.appendCap (len + n) cap elem).cut (w.tape w.drawn (.appendCap (len + n) cap elem)),by simp [Question.cut],?_⟩
 by_cases h0 : n * e.size = 0
 ·have e0 : Builtin.zeroCells z.cells n = #[] := by apply Array.eq_empty_of_size_eq_zero; simp [Builtin.zeroCells,hzs,h0]
  simp [Builtin.append_,qa hu,qa hx,qf he,qq he,qm he hz,asInt,jS,hwr,h1,h2,hn',h63,h48,Question.forced,hold,newRow,e0]
 ·simp [Builtin.append_,qa hu,qa hx,qf he,qq he,qm he hz,asInt,jS,hwr,h1,h2,hn',h63,h48,Question.forced,hold,newRow,h0]
theorem Zi {σ : Sg} {elem : TypeId} {e : TypeInfo} {z : Value} {x : AVal} {n : Nat} {l : List AVal} (he : P.info? elem = some e) (hz : e.zero = some z) (h : vd P elem e.size x = some (n,l)) :
  ∃ m : Nat,x = .int .i64 (.ofNat m) ∧ m = n ∧ n ≤ 4096 ∧ DenL σ l (Builtin.zeroCells z.cells n).toList ∧ l.length = n * e.size := by
 unfold vd at h
 split at h <;> try (cases h; done)
 rename_i m zl hzl
 split at h <;> try (cases h; done)
 rename_i h1 h2
 cases h
 obtain ⟨i,zv,hi,hzv,rfl,hsz⟩ := zQ hzl
 rw [he] at hi
 cases hi
 rw [hz] at hzv
 cases hzv
 have hd : DenL σ (repL (z.cells.toList.map jI) n) (repV z.cells.toList n) := kA (qV σ _) n
 refine ⟨n,rfl,rfl,Nat.le_of_ble_eq_true h2,?_,?_⟩
 ·show DenL σ _ ((Array.range (n * z.cells.size)).map (z.cells[· % z.cells.size]!)).toList
  rw [vO]
  exact hd
 ·rw [zO,List.length_map,Array.length_toList,hsz]
theorem kZ {elem : TypeId} {s : AVal} {src : Nat → Option (Nat × List AVal)} {r : ARes} (h : jp P elem H nx s src = some r) : ∃ v H' nx',r = .val v H' nx' := by
 unfold jp at h
 split at h <;> try (cases h; done)
 split at h <;> try (cases h; done)
 ·split at h <;> first | (cases h; done) | (cases h; exact ⟨_,_,_,rfl⟩)
 ·split at h <;> try (cases h; done)
  ·split at h <;> first | (cases h; done) | (rw [qb,qb] at h; cases h; exact ⟨_,_,_,rfl⟩)
  ·split at h <;> try (cases h; done)
   split at h <;> try (cases h; done)
   ·rw [qb,qb,qb] at h; cases h; exact ⟨_,_,_,rfl⟩
   ·split at h <;> first | (cases h; done) | (rw [qb,qb,qb] at h; cases h; exact ⟨_,_,_,rfl⟩)
theorem Ext.more {σ : Sg} {H H' : Heap} {nx cb sz : Nat} {w w' : World} (h : Rel σ H nx w) (hp : ∀ c,c < nx → σ c = none → get5 c H' = get5 c H) (hr : w.heap.size ≤ cb ∨ ∃ b s,σ b = some (cb,s))
  (h1 : w'.os = w.os) (h2 : w'.tape = w.tape) (h3 : w'.output = w.output) (h4 : w.heap.size ≤ w'.heap.size) (h5 : ∀ i,i < w.heap.size → (∀ b s,σ b ≠ some (i,s)) → w'.heap[i]? = w.heap[i]?) :
  Ext σ (upd σ nx (cb,sz)) H H' nx (nx + 1) w w' := by
 have hb : σ nx = none := by
  cases e : σ nx with
  | none => rfl
  | some p => obtain ⟨cb,s⟩ := p; have := (h.dom nx cb s e).1; omega
 refine ⟨jk hb,?_,?_,by omega,h1,h2,h3,h4,h5⟩
 ·intro c x s e hlt
  rcases qv e with ⟨rfl,q⟩ | ⟨_,q⟩
  ·cases q
   rcases hr with hr | ⟨b,s',hr⟩
   ·omega
   ·exact ⟨b,s',hr⟩
  ·exact ⟨c,s,q⟩
 ·intro c hc hn
  refine ⟨?_,hp c hc hn⟩
  unfold upd
  rw [if_neg (by omega)]
  exact hn
theorem Rel.realloc {σ : Sg} {nx total : Nat} {ct : CT} {os : List Nat} {l : List AVal} {l' : List Value} {rest : Array Value} {t : TypeId} (h : Rel σ H nx w) (hx : nx < 1048576)
  (hos : ∀ c,c ∈ os → (∃ p,σ c = some p) ∧ ∀ o,get5 c H = some o → o.sup = true) (hl : DenL σ l l') (hlen : l.length = total) (hcap : total ≤ ct.cap) (hg : ∀ i,i < total → ct.get i = l.getD i .und) :
  Rel (upd σ nx (w.heap.size,total + rest.size)) (set5 nx (some (.cells total ct os false)) H) (nx + 1) (w.drew.alloc (.cells (⟨l'⟩ ++ rest) t)) := by
 have hb : σ nx = none := by
  cases e : σ nx with
  | none => rfl
  | some p => obtain ⟨cb,s⟩ := p; have := (h.dom nx cb s e).1; omega
 have newb : (w.drew.alloc (.cells (⟨l'⟩ ++ rest) t)).heap[w.heap.size]? = some (.cells (⟨l'⟩ ++ rest) t) := by
  show (w.heap.push _)[w.heap.size]? = _
  simp
 have newc : ∀ i,(w.drew.alloc (.cells (⟨l'⟩ ++ rest) t)).cell? (at' w.heap.size i) = ((⟨l'⟩ : Array Value) ++ rest)[i]? := by
  intro i
  unfold World.cell?
  rw [newb]
  rfl
 have hll := hl.length
 refine h.share hx (w' := w.drew.alloc (.cells (⟨l'⟩ ++ rest) t)) (cb := w.heap.size) (sz := total + rest.size) (by simp) (by simp) ?_ hos ?_ ⟨Nat.le_add_right _ _,hcap,?_,?_⟩ (fun h => absurd h (Nat.lt_irrefl _))
 ·intro i hi _
  show (w.heap.push _)[i]? = _
  rw [Array.getElem?_push,if_neg (by omega)]
 ·intro c o s _ e
  have := (h.dom c _ s e).2
  omega
 ·intro i hi
  refine ⟨?_,?_⟩
  ·unfold World.frozen?
   rw [newb]
   simp
  ·rw [newc]
   exact ⟨_,Array.getElem?_eq_getElem (by simp; omega)⟩
 ·intro i hi
  have hlt : i < l.length := by omega
  obtain ⟨v',e,d⟩ := hl.get i l[i] (by simp [List.getElem?_eq_getElem hlt])
  refine ⟨v',?_,?_⟩
  ·rw [newc,Array.getElem?_append_left (by simp; omega)]
   simpa using e
  ·rw [hg i hi]
   have := d.mono (jk (p := (w.heap.size,total + rest.size)) hb)
   simpa [List.getD,List.getElem?_eq_getElem hlt] using this
theorem Ext.realloc {σ : Sg} {H H' : Heap} {nx sz : Nat} {o : Obj} (h : Rel σ H nx w) (hp : ∀ c,c < nx → σ c = none → get5 c H' = get5 c H) :
  Ext σ (upd σ nx (w.heap.size,sz)) H H' nx (nx + 1) w (w.drew.alloc o) :=
 Ext.more h hp (.inl (Nat.le_refl _)) rfl rfl rfl (by simp) (fun i hi _ => by
  show (w.heap.push _)[i]? = _
  rw [Array.getElem?_push,if_neg (by omega)])
theorem Rel.inplace {σ : Sg} {nx total cb sz k : Nat} {ct : CT} {os : List Nat} {l : List AVal} {l' : List Value} (h : Rel σ H nx w) (hx : nx < 1048576) (hcb : cb < w.heap.size) (hrng : ∃ b' sz',σ b' = some (cb,sz'))
  (hos : ∀ c,c ∈ os → (∃ p,σ c = some p) ∧ ∀ o,get5 c H = some o → o.sup = true)
  (hal : ∀ c o s,get5 c H = some o → σ c = some (cb,s) → c ∈ os ∧ ∃ n cc oo sp,o = .cells n cc oo sp ∧ n ≤ k)
  (hl : DenL σ l l') (hlen : k + l.length = total) (hsz : total ≤ sz) (hcap : total ≤ ct.cap)
  (hfz : ∀ i,i < sz → w.frozen? (at' cb i) = false ∧ ∃ v,w.cell? (at' cb i) = some v)
  (hold : ∀ i,i < k → ∃ v',w.cell? (at' cb i) = some v' ∧ Den σ (ct.get i) v') (hnew : ∀ i,i < l.length → ct.get (k + i) = l.getD i .und) :
  Rel (upd σ nx (cb,sz)) (set5 nx (some (.cells total ct os false)) H) (nx + 1) (qE w cb k l') := by
 have hb : σ nx = none := by
  cases e : σ nx with
  | none => rfl
  | some p => obtain ⟨cb,s⟩ := p; have := (h.dom nx cb s e).1; omega
 have hll := hl.length
 obtain ⟨r1,r2,r3,r4⟩ := zq l' w cb k
 have hcell := zr l' w cb k
 have hex : ∀ j,k ≤ j → j < k + l'.length → ∃ v,w.cell? (at' cb j) = some v := fun j _ hj => (hfz j (by omega)).2
 have sub := jk (p := (cb,sz)) hb
 refine h.share hx (w' := qE w cb k l') (by rw [r4]; exact hcb) (by rw [r4]; exact Nat.le_refl _) (fun i _ hne => qO l' w cb k i hne) hos ?_ ⟨hsz,hcap,?_,?_⟩ (fun _ => hrng)
 ·intro c o s e1 e2
  obtain ⟨hm,n,cc,oo,sp,rfl,hn⟩ := hal c o s e1 e2
  refine ⟨hm,?_⟩
  obtain ⟨a1,a2,a3,a4⟩ := h.obj c _ cb s e1 e2
  refine ⟨a1,a2,?_,?_⟩
  ·intro i hi
   rw [zc,hcell i hex]
   refine ⟨(a3 i hi).1,?_⟩
   by_cases hin : k ≤ i ∧ i < k + l'.length
   ·rw [if_pos hin]; exact ⟨_,List.getElem?_eq_getElem (show i - k < l'.length by omega)⟩
   ·rw [if_neg hin]; exact (a3 i hi).2
  ·intro i hi
   rw [hcell i hex,if_neg (by omega)]
   exact a4 i hi
 ·intro i hi
  rw [zc,hcell i hex]
  refine ⟨(hfz i hi).1,?_⟩
  by_cases hin : k ≤ i ∧ i < k + l'.length
  ·rw [if_pos hin]; exact ⟨_,List.getElem?_eq_getElem (show i - k < l'.length by omega)⟩
  ·rw [if_neg hin]; exact (hfz i hi).2
 ·intro i hi
  rw [hcell i hex]
  by_cases hin : k ≤ i ∧ i < k + l'.length
  ·rw [if_pos hin]
   have hlt : i - k < l.length := by omega
   obtain ⟨v',e,d⟩ := hl.get (i - k) l[i - k] (by simp [List.getElem?_eq_getElem hlt])
   refine ⟨v',e,?_⟩
   have hg := hnew (i - k) hlt
   rw [show k + (i - k) = i by omega] at hg
   rw [hg]
   have := d.mono sub
   simpa [List.getD,List.getElem?_eq_getElem hlt] using this
  ·rw [if_neg hin]
   obtain ⟨v',e,d⟩ := hold i (by omega)
   exact ⟨v',e,d.mono sub⟩
theorem kn {z : Array Value} {n : Nat} : (Builtin.zeroCells z n).size = n * z.size := by simp [Builtin.zeroCells]
set_option maxHeartbeats 2000000 in
theorem vI {σ : Sg} {H H' : Heap} {nx nx' : Nat} {sT xT u elem : TypeId} {s v : AVal} {s' x' : Value} {src : Nat → Option (Nat × List AVal)} (hr : Rel σ H nx w) (ds : Den σ s s')
  (hs : ∀ n l e z,P.info? elem = some e → e.zero = some z → z.cells.size = e.size → src e.size = some (n,l) → l.length = n * e.size ∧ qo l = true ∧ (∃ l',DenL σ l l' ∧ wT P w sT xT e x' n l') ∧ ∃ l',DenL σ l l' ∧ wI P w sT xT elem e z x' n l')
  (h : jp P elem H nx s src = some (.val v H' nx')) :
  ∃ σ' w' v',Rel σ' H' nx' w' ∧ Ext σ σ' H H' nx nx' w w' ∧ Den σ' v v' ∧ (Builtin.append_ #[sT,xT] u #[s',x']).run P w = .ok v' w' := by
 unfold jp at h
 split at h <;> try (cases h; done)
 rename_i zl e hzl he
 obtain ⟨e0,z,he0,hz,_,hzs⟩ := zQ hzl
 rw [he] at he0
 cases he0
 split at h <;> try (cases h; done)
 ·
  rename_i l hsrc h0 hn
  obtain ⟨hll,_,⟨l',hl,hroomr⟩,_⟩ := hs _ _ _ _ he hz hzs hsrc
  have l0 : l' = [] := by
   have := hl.length
   rw [hll,Nat.zero_mul] at this
   cases l' with
   | nil => rfl
   | cons _ _ => simp at this
  subst l0
  split at h <;> try (cases h; done)
  ·cases h
   cases ds
   have hrun := hroomr (by simp) u none 0 0 (by omega)
   exact ⟨σ,w,_,hr,Ext.refl _ _ _ _,.nilSlice,hrun⟩
  ·rename_i b off len esz full
   cases h
   refine ⟨σ,w,s',hr,Ext.refl _ _ _ _,ds,?_⟩
   cases ds with
   | @slice _ _ _ _ cb sz cap _ hb h1 h2 h3 => exact hroomr (by simp) u (some _) len cap (by omega)
   | slice0 hb => exact hroomr (by simp) u (some _) 0 0 (by omega)
 ·rename_i n' new hsrc h0 hn
  have hn' := Nat.le_of_ble_eq_true hn
  have hnx : nx < 1048576 := by omega
  obtain ⟨hll,hcell,⟨l',hl,hroomr⟩,l2,hl2,hgrow⟩ := hs _ _ _ _ he hz hzs hsrc
  have hone := jo hcell hl
  have hnone : ∀ c,c < nx → σ c = none → ∀ o,get5 c (set5 nx o H) = get5 c H := fun c hc _ o => qr (by omega) hnx (by omega)
  split at h <;> try (cases h; done)
  ·
   split at h <;> try (cases h; done)
   rename_i h1 h2
   have h1' : (n' + 1) * e.size ≤ 4096 := Nat.le_of_ble_eq_true h1
   have h2' : (n' + 1) * e.bytes ≤ 140737488355328 := Nat.le_of_ble_eq_true h2
   have hsz0 : e.size ≠ 0 := fun q => by rw [q] at h0; cases h0
   have hn4 : n' + 1 ≤ 4096 := Nat.le_trans (Nat.le_mul_of_pos_right _ (by omega)) h1'
   rw [qb,qb] at h
   cases h
   cases ds
   obtain ⟨c,hc,hrun⟩ := hgrow u none 0 0 [] (by simp [Builtin.firstCells]) (by omega) (by simpa using h2') (by omega)
   simp only [Nat.zero_add] at hc hrun
   have hll' : new.length = (n' + 1) * e.size := hll
   have R := hr.realloc (os := []) (rest := Builtin.zeroCells z.cells (c - (n' + 1))) (t := elem) hnx (fun c hc => by cases hc) hl2 hll' (CT.ofL_cap _ _ h1') (fun i hi => CT.get_ofL _ _ i h1' hi)
   refine ⟨_,_,.slice (some (at' w.heap.size 0)) (n' + 1) c,R,Ext.realloc hr (fun c hc hcn => hnone c hc hcn _),?_,?_⟩
   ·refine Den.slice (cap := c) (sz := (n' + 1) * e.size + (Builtin.zeroCells z.cells (c - (n' + 1))).size) (by simp [upd]) (by omega) ?_ (fun q => by cases q)
    rw [kn,hzs,← Nat.add_mul,Nat.zero_add]
    exact Nat.mul_le_mul_right _ (by omega)
   ·rw [hrun]
    simp
  ·rename_i b off len esz full
   split at h <;> try (cases h; done)
   rename_i cnt ct olds sup hblk hesz h1 h2
   have hesz' := Nat.eq_of_beq_eq_true hesz
   subst hesz'
   have h1' : (len + (n' + 1)) * e.size ≤ 4096 := Nat.le_of_ble_eq_true h1
   have h2' : (len + (n' + 1)) * e.bytes ≤ 140737488355328 := Nat.le_of_ble_eq_true h2
   have hsz0 : e.size ≠ 0 := fun q => by rw [q] at h0; cases h0
   have hn4 : len + (n' + 1) ≤ 4096 := Nat.le_trans (Nat.le_mul_of_pos_right _ (by omega)) h1'
   have hll' : new.length = (n' + 1) * e.size := hll
   split at h <;> try (cases h; done)
   ·
    rename_i hk
    have hk' : off + len * e.size ≤ cnt := Nat.le_of_ble_eq_true hk
    rw [qb,qb,qb] at h
    cases h
    have key : ∀ cb sz o',σ b = some (cb,sz) → DenL σ (CT.slab ct (len * e.size) off) o' →
      (Builtin.firstCells e.size len (s')).run P w.drew = .ok ⟨o'⟩ w.drew → s' = .slice (some (at' cb off)) len len ∨ (len = 0 ∧ ∃ off',s' = .slice (some (at' cb off')) 0 0) →
      ∃ σ' w' v',Rel σ' (set5 nx (some (.cells (Nat.mul (Nat.add len (Nat.succ n')) e.size) (CT.ofL (Nat.mul (Nat.add len (Nat.succ n')) e.size) (CT.slab ct (Nat.mul len e.size) off ++ new)) [] false)) H) (nx + 1) w' ∧
       Ext σ σ' H (set5 nx (some (.cells (Nat.mul (Nat.add len (Nat.succ n')) e.size) (CT.ofL (Nat.mul (Nat.add len (Nat.succ n')) e.size) (CT.slab ct (Nat.mul len e.size) off ++ new)) [] false)) H) nx (nx + 1) w w' ∧
       Den σ' (.slice nx 0 (Nat.add len (Nat.succ n')) e.size false) v' ∧ (Builtin.append_ #[sT,xT] u #[s',x']).run P w = .ok v' w' := by
     intro cb sz o' hb ho hfo hs
     have hall : DenL σ (CT.slab ct (len * e.size) off ++ new) (o' ++ l2) := ho.append hl2
     have hlen2 : (CT.slab ct (len * e.size) off ++ new).length = (len + (n' + 1)) * e.size := by rw [List.length_append,CT.slab_length,hll',Nat.add_mul len (n' + 1) e.size]
     have fin : ∀ base cap,s' = .slice base len cap → cap = len → ∃ c,len + (n' + 1) ≤ c ∧ (Builtin.append_ #[sT,xT] u #[s',x']).run P w =
       .ok (.slice (some (at' w.heap.size 0)) (len + (n' + 1)) c) (w.drew.alloc (.cells (⟨o'⟩ ++ ⟨l2⟩ ++ Builtin.zeroCells z.cells (c - (len + (n' + 1)))) elem)) := by
      intro base cap hs hc
      rw [hs] at hfo ⊢
      exact hgrow u base len cap _ hfo (by omega) h2' hn4
     obtain ⟨c,hc,hrun⟩ : ∃ c,len + (n' + 1) ≤ c ∧ (Builtin.append_ #[sT,xT] u #[s',x']).run P w =
       .ok (.slice (some (at' w.heap.size 0)) (len + (n' + 1)) c) (w.drew.alloc (.cells (⟨o'⟩ ++ ⟨l2⟩ ++ Builtin.zeroCells z.cells (c - (len + (n' + 1)))) elem)) := by
      rcases hs with hs | ⟨h0,off',hs⟩
      ·exact fin _ _ hs rfl
      ·subst h0; exact fin _ _ hs rfl
     have R := hr.realloc (os := []) (rest := Builtin.zeroCells z.cells (c - (len + (n' + 1)))) (t := elem) hnx (fun c hc => by cases hc) hall hlen2 (CT.ofL_cap _ _ h1') (fun i hi => CT.get_ofL _ _ i h1' hi)
     refine ⟨_,_,.slice (some (at' w.heap.size 0)) (len + (n' + 1)) c,R,Ext.realloc hr (fun c hc hcn => hnone c hc hcn _),?_,?_⟩
     ·refine Den.slice (cap := c) (sz := (len + (n' + 1)) * e.size + (Builtin.zeroCells z.cells (c - (len + (n' + 1)))).size) (by simp [upd]) hc ?_ (fun q => by cases q)
      rw [kn,hzs,← Nat.add_mul,Nat.zero_add]
      exact Nat.mul_le_mul_right _ (by omega)
     ·rw [hrun]
      simp
    cases ds with
    | @slice _ _ _ _ cb sz cap _ hb g1 g2 g3 =>
     have hcl := g3 rfl
     obtain ⟨o',_,ho,_,hfo⟩ := zo hr.drew hblk hb P off (len * e.size) hk'
     exact key cb sz o' hb ho hfo (.inl (by rw [hcl]))
    | @slice0 _ _ off' _ cb sz _ hb =>
     obtain ⟨o',hol,ho,_,_⟩ := zo hr.drew hblk hb P off (0 * e.size) hk'
     have o0 : o' = [] := by
      cases o' with
      | nil => rfl
      | cons _ _ => simp at hol
     subst o0
     exact key cb sz [] hb ho (by simp [Builtin.firstCells,loadCells,loadCellsFrom]) (.inr ⟨rfl,off',rfl⟩)
   ·
    rename_i hk
    split at h <;> try (cases h; done)
    have hk' : 0 + len * e.size ≤ cnt := Nat.le_of_ble_eq_true hk
    rw [qb,qb,qb] at h
    have hk2 : len * e.size ≤ cnt := by omega
    cases hbb : σ b with
    | none =>
     exfalso
     cases ds with
     | slice hb _ _ _ => rw [hbb] at hb; cases hb
     | slice0 hb => rw [hbb] at hb; cases hb
    | some p =>
    obtain ⟨cb,sz⟩ := p
    obtain ⟨D1,D2,D3⟩ := hr.demote hbb hblk
    have bn : b < 1048576 := by have := (hr.dom b cb sz hbb).1; have := hr.lim; omega
    have blt : b < nx := (hr.dom b cb sz hbb).1
    have cbl := (hr.dom b cb sz hbb).2
    obtain ⟨o1,o2,o3,o4⟩ := hr.obj b _ cb sz hblk hbb
    have htot : len * e.size + new.length = (len + (n' + 1)) * e.size := by rw [hll',Nat.add_mul len (n' + 1) e.size]
    have hwc := CT.widen_cap ((len + (n' + 1)) * e.size) ct h1'
    have hget1 : ∀ i,i < len * e.size → CT.get i (CT.lay new (len * e.size) (CT.widen ((len + (n' + 1)) * e.size) ct)) = CT.get i ct := by
     intro i hi
     rw [CT.lay_get _ _ _ i (by omega) (by omega),if_neg (by omega),CT.widen_get _ _ i (by omega)]
    have hget2 : ∀ i,i < new.length → CT.get (len * e.size + i) (CT.lay new (len * e.size) (CT.widen ((len + (n' + 1)) * e.size) ct)) = new.getD i .und := by
     intro i hi
     rw [CT.lay_get _ _ _ _ (by omega) (by omega),if_pos (by omega)]
     congr 1
     omega
    have hcap' : (len + (n' + 1)) * e.size ≤ (CT.lay new (len * e.size) (CT.widen ((len + (n' + 1)) * e.size) ct)).cap := by rw [CT.lay_cap]; exact hwc
    have both : ∃ (H2 : Heap) (os : List Nat),H' = set5 nx (some (.cells ((len + (n' + 1)) * e.size) (CT.lay new (len * e.size) (CT.widen ((len + (n' + 1)) * e.size) ct)) os false)) H2 ∧ nx' = nx + 1 ∧ v = .slice nx 0 (len + (n' + 1)) e.size false ∧
      Rel σ H2 nx w ∧ (∀ c,c < nx → σ c = none → get5 c H2 = get5 c H) ∧ (∀ c,c ∈ os → (∃ p,σ c = some p) ∧ ∀ o,get5 c H2 = some o → o.sup = true) ∧
      (∀ c o s,get5 c H2 = some o → σ c = some (cb,s) → c ∈ os ∧ ∃ n cc oo sp,o = .cells n cc oo sp ∧ n ≤ len * e.size) := by
     unfold ZB at h
     cases hq : Nat.beq (Nat.mul len e.size) cnt with
     | true =>
      rw [hq] at h
      cases h
      have hq' : len * e.size = cnt := Nat.eq_of_beq_eq_true hq
      refine ⟨_,[b],rfl,rfl,rfl,D1,D2,?_,?_⟩
      ·intro c hc
       simp at hc
       subst hc
       refine ⟨⟨_,hbb⟩,fun o ho => ?_⟩
       rw [qg] at ho
       cases ho
       rfl
      ·intro c o s e1 e2
       have := D3 c o s e1 e2
       subst this
       rw [qg] at e1
       cases e1
       exact ⟨by simp,_,_,_,_,rfl,by omega⟩
     | false =>
      rw [hq] at h
      cases h
      refine ⟨_,[],rfl,rfl,rfl,D1.forget bn,?_,(fun c hc => by cases hc),?_⟩
      ·intro c hc hcn
       rw [qr (fun q => by subst q; rw [hbb] at hcn; cases hcn) bn (by omega)]
       exact D2 c hc hcn
      ·intro c o s e1 e2
       by_cases hcb : b = c
       ·subst hcb; rw [qg] at e1; cases e1
       ·have hcn : c < 1048576 := by have := (hr.dom c cb s e2).1; omega
        rw [qr hcb bn hcn] at e1
        exact absurd (D3 c o s e1 e2).symm hcb
    obtain ⟨H2,os,rfl,rfl,rfl,R2,hp2,hos,hal⟩ := both
    have hpend : ∀ c,c < nx → σ c = none → get5 c (set5 nx (some (.cells ((len + (n' + 1)) * e.size) (CT.lay new (len * e.size) (CT.widen ((len + (n' + 1)) * e.size) ct)) os false)) H2) = get5 c H := by
     intro c hc hcn
     rw [qr (by omega) hnx (by omega)]
     exact hp2 c hc hcn
    have grow : ∀ base cap,s' = .slice base len cap → cap < len + (n' + 1) → ∀ o',DenL σ (CT.slab ct (len * e.size) 0) o' → (Builtin.firstCells e.size len s').run P w.drew = .ok ⟨o'⟩ w.drew →
      ∃ σ' w' v',Rel σ' (set5 nx (some (.cells ((len + (n' + 1)) * e.size) (CT.lay new (len * e.size) (CT.widen ((len + (n' + 1)) * e.size) ct)) os false)) H2) (nx + 1) w' ∧
       Ext σ σ' H (set5 nx (some (.cells ((len + (n' + 1)) * e.size) (CT.lay new (len * e.size) (CT.widen ((len + (n' + 1)) * e.size) ct)) os false)) H2) nx (nx + 1) w w' ∧
       Den σ' (.slice nx 0 (len + (n' + 1)) e.size false) v' ∧ (Builtin.append_ #[sT,xT] u #[s',x']).run P w = .ok v' w' := by
     intro base cap hs hcap o' ho hfo
     subst hs
     obtain ⟨c,hc,hrun⟩ := hgrow u base len cap _ hfo hcap h2' hn4
     have hall : DenL σ (CT.slab ct (len * e.size) 0 ++ new) (o' ++ l2) := ho.append hl2
     have hlen2 : (CT.slab ct (len * e.size) 0 ++ new).length = (len + (n' + 1)) * e.size := by rw [List.length_append,CT.slab_length,hll',Nat.add_mul len (n' + 1) e.size]
     have R := R2.realloc (rest := Builtin.zeroCells z.cells (c - (len + (n' + 1)))) (t := elem) hnx hos hall hlen2 hcap' (by
      intro i hi
      by_cases hik : i < len * e.size
      ·rw [hget1 i hik]
       have := CT.slab_get ct (len * e.size) 0 i hik
       simp [List.getD,List.getElem?_append_left (show i < (CT.slab ct (len * e.size) 0).length by rw [CT.slab_length]; exact hik),this]
      ·have hi2 : i - len * e.size < new.length := by omega
       have := hget2 (i - len * e.size) hi2
       rw [show len * e.size + (i - len * e.size) = i by omega] at this
       rw [this]
       simp only [List.getD]
       rw [List.getElem?_append_right (by rw [CT.slab_length]; omega),CT.slab_length])
     refine ⟨_,_,.slice (some (at' w.heap.size 0)) (len + (n' + 1)) c,R,Ext.realloc hr hpend,?_,?_⟩
     ·refine Den.slice (cap := c) (sz := (len + (n' + 1)) * e.size + (Builtin.zeroCells z.cells (c - (len + (n' + 1)))).size) (by simp [upd]) hc ?_ (fun q => by cases q)
      rw [kn,hzs,← Nat.add_mul,Nat.zero_add]
      exact Nat.mul_le_mul_right _ (by omega)
     ·rw [hrun]
      simp
    cases ds with
    | @slice _ _ _ _ cb' sz' cap _ hb g1 g2 g3 =>
     rw [hbb] at hb
     cases hb
     by_cases hroom : len + (n' + 1) ≤ cap
     ·have hle : (len + (n' + 1)) * e.size ≤ sz := Nat.le_trans (Nat.mul_le_mul_right _ hroom) (by omega)
      have hst := qQ (P := P) l' w cb (len * e.size) 0 hone (fun k hk1 hk2 => o3 k (by have := hl.length; omega))
      have hrun := hroomr (Nat.le_trans (Nat.mul_le_mul_right _ (Nat.le_add_left _ _)) h2') u (some (at' cb 0)) len cap hroom
      have hadd : Addr.add (at' cb 0) (len * e.size) = at' cb (len * e.size) := by rw [qM,Nat.zero_add]
      simp only [hadd,hst,Result.andThen_ok,Nat.add_zero] at hrun
      have R := R2.inplace (sz := sz) (k := len * e.size) hnx cbl ⟨_,_,hbb⟩ hos hal hl htot hle hcap' o3 (fun i hi => by rw [hget1 i hi]; exact o4 i (by omega)) hget2
      obtain ⟨r1,r2,r3,r4⟩ := zq l' w cb (len * e.size)
      refine ⟨_,_,.slice (some (at' cb 0)) (len + (n' + 1)) cap,R,Ext.more hr hpend (.inr ⟨b,sz,hbb⟩) r1 r2 r3 (by rw [r4]; exact Nat.le_refl _) (fun i hi hno => qO l' w cb _ i (fun q => by subst q; exact hno b sz hbb)),?_,hrun⟩
      exact Den.slice (cap := cap) (sz := sz) (by simp [upd]) hroom (by omega) (fun q => by cases q)
     ·obtain ⟨o',_,ho,_,hfo⟩ := zo hr.drew hblk hbb P 0 (len * e.size) hk'
      exact grow _ cap rfl (by omega) o' ho hfo
    | @slice0 _ _ off' _ cb' sz' _ hb =>
     rw [hbb] at hb
     cases hb
     obtain ⟨o',hol,ho,_,_⟩ := zo hr.drew hblk hbb P 0 (0 * e.size) hk'
     have o0 : o' = [] := by
      cases o' with
      | nil => rfl
      | cons _ _ => simp at hol
     subst o0
     exact grow _ 0 rfl (by omega) [] ho (by simp [Builtin.firstCells,loadCells,loadCellsFrom])
end
end Go.Ev
end
section
namespace Go.Ev
variable [GTab] {P : Program} {H : Heap} {nx : Nat} {w : World} {o : Oper}
noncomputable section
theorem Rel.allocMap {σ : Sg} (h : Rel σ H nx w) (hx : nx < 1048576) :
  Rel (upd σ nx (w.heap.size,0)) (set5 nx (some (.map [] 0)) H) (nx + 1) (w.alloc (.map #[] 0)) ∧
  Ext σ (upd σ nx (w.heap.size,0)) H (set5 nx (some (.map [] 0)) H) nx (nx + 1) w (w.alloc (.map #[] 0)) := by
 have hb : σ nx = none := by
  cases e : σ nx with
  | none => rfl
  | some p => obtain ⟨cb,s⟩ := p; have := (h.dom nx cb s e).1; omega
 have h1 : Rel σ (set5 nx (some (.map [] 0)) H) (nx + 1) w := h.pend hb (by omega) (by omega) hx
 obtain ⟨e1,e2,e3,e4⟩ := Ext.alloc_at (sz := 0) (.map #[] 0) h hb
 have ho : get5 nx (set5 nx (some (.map [] 0)) H) = some (.map [] 0) := qg _ _ _
 have newb : (w.alloc (.map #[] 0)).heap[w.heap.size]? = some (.map #[] 0) := by
  show (w.heap.push _)[w.heap.size]? = _
  simp
 have hglob : Glob (upd σ nx (w.heap.size,0)) (w.alloc (.map #[] 0)) := h.glob.of (by simp) (fun i hi _ => e4 i hi) e3
 refine ⟨⟨h1.lim,?_,?_,?_,?_,?_,hglob⟩,⟨e2,e3,?_,by omega,rfl,rfl,rfl,by simp,fun i hi _ => e4 i hi⟩⟩
 ·intro x cb s e
  rcases qv e with ⟨rfl,q⟩ | ⟨_,q⟩
  ·cases q; exact ⟨by omega,by simp⟩
  ·have := h1.dom x cb s q
   exact ⟨this.1,by simp; omega⟩
 ·intro x o cb s q1 q2
  rcases qv q2 with ⟨rfl,e⟩ | ⟨_,e⟩
  ·cases e
   rw [ho] at q1
   cases q1
   exact ⟨#[],newb,.nil⟩
  ·have hlt' := (h1.dom x cb s e).2
   exact (ORel.mono e2 (h1.obj x o cb s q1 e)).of_block (e4 cb hlt')
 ·intro x x' o o' cb s s' q1 q2 q3 q4
  rcases qv q3 with ⟨rfl,e⟩ | ⟨_,e⟩
  ·cases e
   rcases qv q4 with ⟨rfl,_⟩ | ⟨_,e'⟩
   ·exact .inl rfl
   ·have := (h1.dom x' _ s' e').2; omega
  ·rcases qv q4 with ⟨rfl,e'⟩ | ⟨_,e'⟩
   ·cases e'; have := (h1.dom x _ s e).2; omega
   ·exact h1.sep x x' o o' cb s s' q1 q2 e e'
 ·intro x x' o o' p q1 q2 q3 q4
  rcases qv q3 with ⟨rfl,e⟩ | ⟨_,e⟩
  ·rw [ho] at q2; cases q2; simp [AObj.olds] at q4
  ·exact h1.sup x x' o o' p q1 q2 e q4
 ·intro x o p q1 q2 x' q3
  rcases qv q2 with ⟨rfl,e⟩ | ⟨_,e⟩
  ·rw [ho] at q1; cases q1; simp [AObj.olds] at q3
  ·obtain ⟨p',hp'⟩ := h1.old x o p q1 e x' q3
   exact ⟨p',e2 _ _ hp'⟩
 ·intro c hc hn
  exact ⟨e1 c (by omega) hc hn,qr (by omega) hx (by omega)⟩
theorem Rel.storeMap {σ : Sg} {nx b cb sz : Nat} {w w' : World} {es es2 : List AEnt} {clock clock2 : Nat} {es2' : Array MapEntry} (h : Rel σ H nx w) (hb : σ b = some (cb,sz)) (ho : get5 b H = some (.map es clock))
  (hw : w'.heap[cb]? = some (.map es2' clock2)) (hd : DenE σ es2 es2'.toList) (hrest : ∀ k,k ≠ cb → w'.heap[k]? = w.heap[k]?) (hos : w'.os = w.os) (ht : w'.tape = w.tape) (hout : w'.output = w.output) (hsz : w'.heap.size = w.heap.size) :
  Rel σ (set5 b (some (.map es2 clock2)) H) nx w' ∧ Ext σ σ H (set5 b (some (.map es2 clock2)) H) nx nx w w' := by
 have hlim := h.lim
 have lt : ∀ {c p},σ c = some p → c < 1048576 := fun {c p} hc => by obtain ⟨x,z⟩ := p; have := (h.dom c x z hc).1; omega
 have bn := lt hb
 have key : ∀ c o,c ≠ b → c < 1048576 → get5 c (set5 b (some (.map es2 clock2)) H) = some o → get5 c H = some o := by
  intro c o hcb hc e
  rwa [qr (fun e => hcb e.symm) bn hc] at e
 have keyb : get5 b (set5 b (some (.map es2 clock2)) H) = some (.map es2 clock2) := qg _ _ _
 have alone : ∀ c o s,c ≠ b → get5 c H = some o → σ c = some (cb,s) → False := by
  intro c o s hcb hc hs
  rcases h.sep c b o _ cb s sz hc ho hs hb with e | e | e
  ·exact hcb e
  ·simp [AObj.olds] at e
  ·have := h.sup b c _ o _ ho hc hs e
   simp [AObj.sup] at this
 have hglob : Glob σ w' := h.glob.of (Nat.le_of_eq hsz.symm) (fun i hi hno => hrest i (fun e => by subst e; exact hno b sz hb)) fun x cb s e _ => ⟨x,s,e⟩
 refine ⟨⟨hlim,?_,?_,?_,?_,?_,hglob⟩,⟨fun _ _ e => e,fun c _ s e _ => ⟨c,s,e⟩,?_,Nat.le_refl _,hos,ht,hout,Nat.le_of_eq hsz.symm,?_⟩⟩
 ·intro c x s e; have := h.dom c x s e; rw [hsz]; exact this
 ·intro c o x s e1 e2
  by_cases hcb : c = b
  ·subst hcb
   rw [hb] at e2
   cases e2
   rw [keyb] at e1
   cases e1
   exact ⟨es2',hw,hd⟩
  ·have e1' := key c o hcb (lt e2) e1
   refine (h.obj c o x s e1' e2).of_block (hrest x ?_)
   intro e
   subst e
   exact alone c o s hcb e1' e2
 ·intro c c' o o' x s s' e1 e2 e3 e4
  by_cases h1 : c = b
  ·subst h1
   by_cases h2 : c' = c
   ·exact .inl h2.symm
   ·have e2' := key c' o' h2 (lt e4) e2
    rw [hb] at e3
    cases e3
    exact (alone c' o' s' h2 e2' e4).elim
  ·have e1' := key c o h1 (lt e3) e1
   by_cases h2 : c' = b
   ·subst h2
    rw [hb] at e4
    cases e4
    exact (alone c o s h1 e1' e3).elim
   ·exact h.sep c c' o o' x s s' e1' (key c' o' h2 (lt e4) e2) e3 e4
 ·intro c c' o o' p e1 e2 e3 e4
  by_cases h2 : c' = b
  ·subst h2
   rw [keyb] at e2; cases e2; simp [AObj.olds] at e4
  ·have e2' := key c' o' h2 (lt e3) e2
   obtain ⟨p',hp'⟩ := h.old c' o' p e2' e3 c e4
   by_cases h1 : c = b
   ·subst h1
    have := h.sup c c' _ o' p ho e2' e3 e4
    simp [AObj.sup] at this
   ·exact h.sup c c' o o' p (key c o h1 (lt hp') e1) e2' e3 e4
 ·intro c o p e1 e2 c' e3
  by_cases h1 : c = b
  ·subst h1
   rw [keyb] at e1; cases e1; simp [AObj.olds] at e3
  ·exact h.old c o p (key c o h1 (lt e2) e1) e2 c' e3
 ·intro c hc hn
  refine ⟨hn,?_⟩
  have hcb : b ≠ c := fun e => by subst e; rw [hb] at hn; cases hn
  exact qr hcb bn (by omega)
 ·intro i hi hno
  exact hrest i (fun e => by subst e; exact hno b sz hb)
def ikC (k : IntKind) : Nat := IntKind.rec 0 1 2 3 4 5 6 7 k
theorem yL {k j : IntKind} (h : Nat.beq (ikC k) (ikC j) = true) : k = j := by
 cases k <;> cases j <;> first | rfl | exact Bool.noConfusion h
def J5 (k : IntKind) (n : Int) : List AEnt → Nat → Option (Option (Nat × AVal))
 | [],_ => some none
 | e :: es,i => match e.key with
  | .int j m => match Nat.beq (ikC k) (ikC j),ieq n m with
   | true,true => some (some (i,e.val))
   | true,false => J5 k n es (Nat.succ i)
   | _,_ => none
  | _ => none
def K6 (σ : Sg) : Option (Nat × AVal) → Option (Nat × Value) → Prop
 | none,none => True
 | some (i,v),some (j,v') => i = j ∧ Den σ v v'
 | _,_ => False
theorem QI {σ : Sg} {k kk : IntKind} {n : Int} : ∀ {es : List AEnt} {es' : List MapEntry} {i : Nat} {r : Option (Nat × AVal)},J5 k n es i = some r → DenE σ es es' →
  ∃ r',Instr.findNow (.int kk) (.int k n) es' i = some r' ∧ K6 σ r r' ∧ (∀ j v,r' = some (j,v) → i ≤ j ∧ ((es'[j - i]?).map (·.key)) = some (.int k n))
 | [],_,i,r,h,.nil => by cases h; exact ⟨none,rfl,trivial,fun _ _ e => by cases e⟩
 | e :: es,e' :: es',i,r,h,.cons hk hv hb t => by
  unfold J5 at h
  split at h <;> try (cases h; done)
  rename_i j m hj
  rw [hj] at hk
  have hk' : e'.key = .int j m := by cases hq : e'.key <;> rw [hq] at hk <;> cases hk <;> rfl
  split at h <;> try (cases h; done)
  ·rename_i h1 h2
   have e1 := yL h1
   subst e1
   rw [kJ] at h2
   cases h
   refine ⟨some (i,e'.val),?_,⟨rfl,hv⟩,fun q v eq => ?_⟩
   ·simp only [Instr.findNow,Instr.sameNow,hk',if_true,h2]
   ·cases eq
    refine ⟨Nat.le_refl _,?_⟩
    have : n = m := by simpa using h2
    simp [hk',this]
  ·rename_i h1 h2
   have e1 := yL h1
   subst e1
   rw [kJ] at h2
   obtain ⟨r',f1,f2,f3⟩ := QI (kk := kk) h t
   refine ⟨r',?_,f2,fun q v eq => ?_⟩
   ·simp only [Instr.findNow,Instr.sameNow,hk',if_true,h2]
    exact f1
   ·obtain ⟨g1,g2⟩ := f3 q v eq
    refine ⟨by omega,?_⟩
    have : q - i = (q - (i + 1)) + 1 := by omega
    rw [this,List.getElem?_cons_succ]
    exact g2
def qbi (H : Heap) (m : AVal) : Option (List AEnt) := match m with
 | .nilMap => some []
 | .map b => match get5 b H with
  | some (.map es _) => some es
  | _ => none
 | _ => none
def wb (P : Program) (t : TypeId) (x ix : Operand) (ok : Bool) (ρ : Operand → AVal) (H : Heap) (nx : Nat) : Option ARes :=
 match P.underlying t,ρ ix with
 | some (.map kt et),.int k n => match P.underlying kt,qbi H (ρ x) with
  | some (.int kk),some es => match Nat.beq (ikC k) (ikC kk),J5 k n es 0 with
   | true,some (some (_,v)) => match ok with
    | true => some (.val (.tuple [v,.bool true]) H nx)
    | false => some (.val v H nx)
   | true,some none => match P.info? et with
    | some i => match i.zero with
     | some z => match ok with
      | true => some (.val (.tuple [vR z,.bool false]) H nx)
      | false => some (.val (vR z) H nx)
     | none => none
    | none => none
   | _,_ => none
  | _,_ => none
 | _,_ => none
theorem Vl {t : TypeId} {x ix : Operand} {ok : Bool} {ρ : Operand → AVal} {r : ARes} (ho : o.op = .lookup t x ix ok)
  (h : wb P t x ix ok ρ H nx = some r) : OpOK P o ρ H nx r := by
 unfold wb at h
 split at h <;> try (cases h; done)
 rename_i kt et k n hu hix
 split at h <;> try (cases h; done)
 rename_i kk es hkt hes
 have main : ∀ (σ : Sg) (w : World) (ρ' : Operand → Value),Rel σ H nx w → (∀ x,Den σ (ρ x) (ρ' x)) → k = kk → ∀ {r0},J5 k n es 0 = some r0 →
   ∃ r',K6 σ r0 r' ∧ ∀ {v' : Value} {b : Bool},(match r' with | some (_,v) => v' = v ∧ b = true | none => (zeroValue et).run P w = .ok v' w ∧ b = false) → (execOp ρ' o).run P w = .ok (.value (if ok then .tuple #[v',.bool b] else v')) w := by
  intro σ w ρ' hr hd hkk r0 hf
  subst hkk
  have dix := hd ix; rw [hix] at dix
  have eix : ρ' ix = .int k n := by cases hq : ρ' ix <;> rw [hq] at dix <;> cases dix <;> rfl
  have dx := hd x
  have ents : ∃ es' : Array MapEntry,DenE σ es es'.toList ∧ ((ρ' x = .map none ∧ es' = #[]) ∨ ∃ rb clock,ρ' x = .map (some rb) ∧ w.heap[rb]? = some (.map es' clock)) := by
   unfold qbi at hes
   split at hes <;> try (cases hes; done)
   ·rename_i hxn
    cases hes
    rw [hxn] at dx
    refine ⟨#[],.nil,.inl ⟨?_,rfl⟩⟩
    cases hq : ρ' x <;> rw [hq] at dx <;> cases dx <;> rfl
   ·rename_i b hxb
    split at hes <;> try (cases hes; done)
    rename_i clock hob
    cases hes
    rw [hxb] at dx
    cases hq : ρ' x <;> rw [hq] at dx <;> cases dx
    rename_i cb sz hb
    obtain ⟨es',h1,h2⟩ := hr.obj b _ cb sz hob hb
    exact ⟨es',h2,.inr ⟨cb,clock,rfl,h1⟩⟩
  obtain ⟨es',hden,hcase⟩ := ents
  obtain ⟨r',f1,f2,_⟩ := QI (kk := k) hf hden
  refine ⟨r',f2,fun {v' b} hv => ?_⟩
  have hck : (Instr.checkKey es'.isEmpty 10000 kt (.int k n)).run P w = .ok () w := MapKept.run_checkKey hkt (by simp [MapKept.IsKey]) _ 9999
  have hfk : (Instr.findKey kt (.int k n) es'.toList).run P w = .ok r' w := MapKept.run_findKey hkt f1
  rcases hcase with ⟨hx0,he0⟩ | ⟨rb,clock,hx0,hb0⟩
  ·subst he0
   cases r' with
   | none =>
    obtain ⟨hz,rfl⟩ := hv
    simp only [execOp,ho,hx0,eix,Instr.lookup,Sem.run_bind,qa hu,Result.andThen_ok,Sem.run_pure,hck,hfk,hz]
   | some p =>
    obtain ⟨j,v⟩ := p
    obtain ⟨rfl,rfl⟩ := hv
    simp only [execOp,ho,hx0,eix,Instr.lookup,Sem.run_bind,qa hu,Result.andThen_ok,Sem.run_pure,hck,hfk]
  ·cases r' with
   | none =>
    obtain ⟨hz,rfl⟩ := hv
    simp only [execOp,ho,hx0,eix,Instr.lookup,Sem.run_bind,qa hu,Result.andThen_ok,Sem.run_pure,MapKept.run_getObj_map hb0,hck,hfk,hz]
   | some p =>
    obtain ⟨j,v⟩ := p
    obtain ⟨rfl,rfl⟩ := hv
    simp only [execOp,ho,hx0,eix,Instr.lookup,Sem.run_bind,qa hu,Result.andThen_ok,Sem.run_pure,MapKept.run_getObj_map hb0,hck,hfk]
 split at h <;> try (cases h; done)
 ·rename_i j v hk hf
  have hkk := yL hk
  split at h
  ·cases h
   refine OpOK.pure fun σ w ρ' hr hd => ?_
   obtain ⟨r',f2,run⟩ := main σ w ρ' hr hd hkk hf
   cases r' with
   | none => exact f2.elim
   | some p =>
    obtain ⟨j',v'⟩ := p
    exact ⟨_,.tuple (.cons f2.2 (.cons (.bool true) .nil)),run (v' := v') (b := true) ⟨rfl,rfl⟩⟩
  ·cases h
   refine OpOK.pure fun σ w ρ' hr hd => ?_
   obtain ⟨r',f2,run⟩ := main σ w ρ' hr hd hkk hf
   cases r' with
   | none => exact f2.elim
   | some p =>
    obtain ⟨j',v'⟩ := p
    exact ⟨_,f2.2,run (v' := v') (b := true) ⟨rfl,rfl⟩⟩
 ·rename_i hk hf
  have hkk := yL hk
  split at h <;> try (cases h; done)
  rename_i i hi
  split at h <;> try (cases h; done)
  rename_i z hz
  split at h
  ·cases h
   refine OpOK.pure fun σ w ρ' hr hd => ?_
   obtain ⟨r',f2,run⟩ := main σ w ρ' hr hd hkk hf
   cases r' with
   | some p => exact f2.elim
   | none => exact ⟨_,.tuple (.cons (kF σ z) (.cons (.bool false) .nil)),run (v' := z) (b := false) ⟨qm hi hz,rfl⟩⟩
  ·cases h
   refine OpOK.pure fun σ w ρ' hr hd => ?_
   obtain ⟨r',f2,run⟩ := main σ w ρ' hr hd hkk hf
   cases r' with
   | some p => exact f2.elim
   | none => exact ⟨_,kF σ z,run (v' := z) (b := false) ⟨qm hi hz,rfl⟩⟩
def yE (r : Option Operand) (_ρ : Operand → AVal) (H : Heap) (nx : Nat) : Option ARes :=
 match r,Nat.ble (Nat.succ nx) 1048576 with
 | none,true => qn nx fun b => some (.val (.map b) (set5 b (some (.map [] 0)) H) (Nat.succ b))
 | _,_ => none
theorem Kt {t : TypeId} {q : Option Operand} {ρ : Operand → AVal} {r : ARes} (ho : o.op = .makeMap t q)
  (h : yE q ρ H nx = some r) : OpOK P o ρ H nx r := by
 unfold yE at h
 split at h <;> try (cases h; done)
 rename_i hle
 rw [qb] at h
 cases h
 intro σ w ρ' hr hd
 have hx : nx < 1048576 := Nat.le_of_ble_eq_true hle
 obtain ⟨R,E⟩ := hr.allocMap hx
 refine ⟨_,_,.map (some w.heap.size),R,E,.map (sz := 0) (by simp [upd]),.inl ?_⟩
 simp [execOp,ho,Instr.makeMap,newObj,Sem.run]
def setEnt (key val : AVal) : List AEnt → Nat → List AEnt
 | [],_ => []
 | e :: es,0 => ⟨key,val,e.born⟩ :: es
 | e :: es,i + 1 => e :: setEnt key val es i
def ji (P : Program) (t : TypeId) (m ky x : Operand) (ρ : Operand → AVal) (H : Heap) (nx : Nat) : Option ARes :=
 match P.underlying t,ρ m,ρ ky with
 | some (.map kt _),.map b,.int k n => match P.underlying kt,get5 b H with
  | some (.int kk),some (.map es clock) => match Nat.beq (ikC k) (ikC kk),J5 k n es 0 with
   | true,some (some (i,_)) => some (.val .und (set5 b (some (.map (setEnt (.int k n) (ρ x) es i) clock)) H) nx)
   | true,some none => some (.val .und (set5 b (some (.map (es ++ [⟨.int k n,ρ x,clock⟩]) (Nat.succ clock))) H) nx)
   | _,_ => none
  | _,_ => none
 | _,_,_ => none
theorem DenE.append {σ : Sg} : ∀ {l : List AEnt} {l' : List MapEntry} {m : List AEnt} {m' : List MapEntry},DenE σ l l' → DenE σ m m' → DenE σ (l ++ m) (l' ++ m')
 | _,_,_,_,.nil,h => h
 | _,_,_,_,.cons hk hv hb t,h => .cons hk hv hb (DenE.append t h)
theorem DenE.setEnt {σ : Sg} {key val : AVal} {key' val' : Value} (hk : Den σ key key') (hv : Den σ val val') : ∀ {l : List AEnt} {l' : List MapEntry} (i : Nat),DenE σ l l' → DenE σ (Ev.setEnt key val l i) (l'.modify i fun e => { e with key := key',val := val' })
 | _,_,i,.nil => by cases i <;> exact .nil
 | _,_,0,.cons _ _ hb t => .cons hk hv hb t
 | _,_,i + 1,.cons h1 h2 h3 t => .cons h1 h2 h3 (DenE.setEnt hk hv i t)
theorem yr {t : TypeId} {m ky x : Operand} {ρ : Operand → AVal} {r : ARes} (ho : o.op = .mapUpdate t m ky x ∨ o.op = .insert t m ky x)
  (h : ji P t m ky x ρ H nx = some r) : OpOK P o ρ H nx r := by
 unfold ji at h
 split at h <;> try (cases h; done)
 rename_i kt et b k n hu hm hky
 split at h <;> try (cases h; done)
 rename_i kk es clock hkt hob
 have ex : ∀ (ρ' : Operand → Value) (w w' : World),(Instr.mapUpdate t (ρ' m) (ρ' ky) (ρ' x)).run P w = .ok () w' → (execOp ρ' o).run P w = .ok .skip w' := by
  intro ρ' w w' hrun
  rcases ho with ho | ho <;> simp [execOp,ho,hrun]
 have prep : ∀ (σ : Sg) (w : World) (ρ' : Operand → Value),Rel σ H nx w → (∀ x,Den σ (ρ x) (ρ' x)) → ∃ cb sz,∃ es' : Array MapEntry,σ b = some (cb,sz) ∧ ρ' m = .map (some cb) ∧ ρ' ky = .int k n ∧ w.heap[cb]? = some (.map es' clock) ∧ DenE σ es es'.toList := by
  intro σ w ρ' hr hd
  have dm := hd m; rw [hm] at dm
  have dk := hd ky; rw [hky] at dk
  have ek : ρ' ky = .int k n := by cases hq : ρ' ky <;> rw [hq] at dk <;> cases dk <;> rfl
  cases hq : ρ' m <;> rw [hq] at dm <;> cases dm
  rename_i cb sz hb
  obtain ⟨es',h1,h2⟩ := hr.obj b _ cb sz hob hb
  exact ⟨cb,sz,es',hb,rfl,ek,h1,h2⟩
 split at h <;> try (cases h; done)
 ·rename_i i v hk hf
  have hkk := yL hk
  subst hkk
  cases h
  intro σ w ρ' hr hd
  obtain ⟨cb,sz,es',hb,em,ek,hw,hden⟩ := prep σ w ρ' hr hd
  obtain ⟨r',f1,f2,f3⟩ := QI (kk := k) hf hden
  cases r' with
  | none => exact f2.elim
  | some p =>
   obtain ⟨j,v'⟩ := p
   obtain ⟨rfl,_⟩ := f2
   obtain ⟨_,g2⟩ := f3 i v' rfl
   have hold : ((es'[i]?).map (·.key)).getD (.int k n) = .int k n := by
    have : (es'[i]?).map (·.key) = some (.int k n) := by simpa using g2
    rw [this]; rfl
   have hlt : cb < w.heap.size := (hr.dom b cb sz hb).2
   obtain ⟨s1,s2⟩ := MapKept.heap_set (o' := .map (es'.modify i fun e => { e with key := .int k n,val := ρ' x }) clock) hw
   obtain ⟨R,E⟩ := hr.storeMap (w' := { w with heap := w.heap.setIfInBounds cb (.map (es'.modify i fun e => { e with key := .int k n,val := ρ' x }) clock) }) (es2 := setEnt (.int k n) (ρ x) es i) (clock2 := clock) hb hob s1
    (by rw [Array.toList_modify]; exact DenE.setEnt (.int k n) (hd x) i hden) s2 rfl rfl rfl (by simp)
   refine ⟨σ,_,undef,R,E,.und _,.inr ⟨ex ρ' w _ ?_,rfl⟩⟩
   have hck : (Instr.checkKey false 10000 kt (.int k n)).run P w = .ok () w := MapKept.run_checkKey hkt (by simp [MapKept.IsKey]) _ 9999
   have hfk : (Instr.findKey kt (.int k n) es'.toList).run P w = .ok (some (i,v')) w := MapKept.run_findKey hkt f1
   have hks : (Instr.keyThatStays (.int k n) (.int k n)).run P w = .ok (.int k n) w := MapKept.run_keyThatStays (d := .int k) (by simp [MapKept.IsKey])
   simp only [em,ek,Instr.mapUpdate,Sem.run_bind,qa hu,Result.andThen_ok,MapKept.run_getObj_map hw,hck,hfk,hold,hks,MapKept.run_setObj_map _ hw]
 ·rename_i hk hf
  have hkk := yL hk
  subst hkk
  cases h
  intro σ w ρ' hr hd
  obtain ⟨cb,sz,es',hb,em,ek,hw,hden⟩ := prep σ w ρ' hr hd
  obtain ⟨r',f1,f2,f3⟩ := QI (kk := k) hf hden
  cases r' with
  | some p => exact f2.elim
  | none =>
   obtain ⟨s1,s2⟩ := MapKept.heap_set (o' := .map (es'.push { key := .int k n,val := ρ' x,born := clock }) (clock + 1)) hw
   obtain ⟨R,E⟩ := hr.storeMap (w' := { w with heap := w.heap.setIfInBounds cb (.map (es'.push { key := .int k n,val := ρ' x,born := clock }) (clock + 1)) }) (es2 := es ++ [⟨.int k n,ρ x,clock⟩]) (clock2 := clock + 1) hb hob s1
    (by rw [Array.toList_push]; exact hden.append (.cons (.int k n) (hd x) rfl .nil)) s2 rfl rfl rfl (by simp)
   refine ⟨σ,_,undef,R,E,.und _,.inr ⟨ex ρ' w _ ?_,rfl⟩⟩
   have hck : (Instr.checkKey false 10000 kt (.int k n)).run P w = .ok () w := MapKept.run_checkKey hkt (by simp [MapKept.IsKey]) _ 9999
   have hfk : (Instr.findKey kt (.int k n) es'.toList).run P w = .ok none w := MapKept.run_findKey hkt f1
   simp only [em,ek,Instr.mapUpdate,Sem.run_bind,qa hu,Result.andThen_ok,MapKept.run_getObj_map hw,hck,hfk,MapKept.run_setObj_map _ hw]
def minN (a b : Nat) : Nat := Bool.rec b a (Nat.ble a b)
theorem ZH (a b : Nat) : minN a b = Nat.min b a ∧ minN a b ≤ a ∧ minN a b ≤ b ∧ minN a b = Nat.min a b := by
 unfold minN
 cases h : Nat.ble a b with
 | true => have := Nat.le_of_ble_eq_true h; show a = Nat.min b a ∧ a ≤ a ∧ a ≤ b ∧ a = Nat.min a b; simp only [Nat.min_def]; refine ⟨?_,Nat.le_refl _,this,?_⟩ <;> split <;> omega
 | false =>
  have : ¬ a ≤ b := fun hle => by rw [Nat.ble_eq_true_of_le hle] at h; cases h
  show b = Nat.min b a ∧ b ≤ a ∧ b ≤ b ∧ b = Nat.min a b
  simp only [Nat.min_def]
  refine ⟨?_,by omega,Nat.le_refl _,?_⟩ <;> split <;> omega
def vB (P : Program) (types : Array TypeId) (args : Array Operand) (ρ : Operand → AVal) (H : Heap) (nx : Nat) : Option ARes :=
 match types.toList,args.toList with
 | dT :: _,[d,s] => match P.underlying dT with
  | some (.slice elem) => match P.info? elem,ρ d,ρ s with
   | some e,.slice b off len _ _,.slice b2 off2 len2 _ _ => match get5 b H,get5 b2 H with
    | some (.cells cnt ct olds false),some (.cells cnt2 ct2 _ _) => qn (minN len2 len) fun n => match Nat.ble (Nat.add off (Nat.mul n e.size)) cnt,Nat.ble (Nat.add off2 (Nat.mul n e.size)) cnt2,qo (CT.slab ct2 (Nat.mul n e.size) off2) with
     | true,true,true => some (.val (.int .i64 (.ofNat n)) (set5 b (some (.cells cnt (CT.lay (CT.slab ct2 (Nat.mul n e.size) off2) off ct) [] false)) (dels olds H)) nx)
     | _,_,_ => none
    | _,_ => none
   | some _,.slice _ _ _ _ _,.nilSlice => some (.val (.int .i64 0) H nx)
   | some _,.nilSlice,.nilSlice => some (.val (.int .i64 0) H nx)
   | some _,.nilSlice,.slice _ _ _ _ _ => some (.val (.int .i64 0) H nx)
   | _,_,_ => none
  | _ => none
 | _,_ => none
theorem Zm {c : Call} {ρ : Operand → AVal} {r : ARes} (ho : o.op = .call c) (hc : c.callee = .builtin .copy) (h : vB P c.argTypes c.args ρ H nx = some r) : OpOK P o ρ H nx r := by
 unfold vB at h
 split at h <;> try (cases h; done)
 rename_i dT rT d s hT hA
 split at h <;> try (cases h; done)
 rename_i elem hu
 have eT : c.argTypes[0]? = some dT := by rw [← Array.getElem?_toList,hT]; rfl
 have eA : c.args = #[d,s] := by apply Array.ext'; rw [hA]
 have ex : ∀ (ρ' : Operand → Value) (w : World) (v : Value) (w' : World),(Builtin.copy_ c.argTypes o.type #[ρ' d,ρ' s]).run P w = .ok v w' → (execOp ρ' o).run P w = .ok (.value v) w' := by
  intro ρ' w v w' hrun
  simp [execOp,ho,resolve,hc,invoke,builtin,eA,hrun]
 split at h <;> try (cases h; done)
 ·rename_i e b off len esz full b2 off2 len2 esz2 full2 he hdv hsv
  split at h <;> try (cases h; done)
  rename_i cnt ct olds cnt2 ct2 olds2 s2 ho1 ho2
  rw [qb] at h
  split at h <;> try (cases h; done)
  rename_i h1 h2 h3
  cases h
  have h1' : off + minN len2 len * e.size ≤ cnt := Nat.le_of_ble_eq_true h1
  have h2' : off2 + minN len2 len * e.size ≤ cnt2 := Nat.le_of_ble_eq_true h2
  obtain ⟨m1,m2,m3,m4⟩ := ZH len2 len
  intro σ w ρ' hr hd
  have dd := hd d; rw [hdv] at dd
  have ds := hd s; rw [hsv] at ds
  have src : ∃ l',DenL σ (CT.slab ct2 (minN len2 len * e.size) off2) l' ∧ (Builtin.lenOf (ρ' s)).run P w = .ok len2 w ∧ (Builtin.firstCells e.size (minN len2 len) (ρ' s)).run P w = .ok ⟨l'⟩ w := by
   cases hq : ρ' s <;> rw [hq] at ds <;> cases ds
   ·rename_i cb sz cap hb q1 q2 q3
    obtain ⟨l',_,hl,_,hrun⟩ := zo hr ho2 hb P off2 (minN len2 len * e.size) h2'
    exact ⟨l',hl,rfl,hrun⟩
   ·rename_i off' cb sz hb
    have z : minN 0 len = 0 := by omega
    rw [z,Nat.zero_mul]
    exact ⟨[],.nil,rfl,by simp [Builtin.firstCells,loadCells,loadCellsFrom]⟩
  obtain ⟨l',hl,hlen,hfirst⟩ := src
  have hll : (CT.slab ct2 (minN len2 len * e.size) off2).length = minN len2 len * e.size := CT.slab_length _ _ _
  have hll' := hl.length
  have dst : ∃ base cap cb sz,σ b = some (cb,sz) ∧ ρ' d = .slice (some base) len cap ∧ (storeCells base l').run P w = .ok () (qE w cb off l') := by
   cases hq : ρ' d <;> rw [hq] at dd <;> cases dd
   ·rename_i cap cb sz hb q1 q2 q3
    obtain ⟨o1,o2,o3,o4⟩ := hr.obj b _ cb sz ho1 hb
    refine ⟨at' cb off,cap,cb,sz,hb,rfl,?_⟩
    exact qQ (P := P) l' w cb off 0 (jo h3 hl) (fun k hk1 hk2 => o3 k (by omega))
   ·rename_i off' cb sz hb
    have z : minN len2 0 = 0 := by omega
    have hz : minN len2 0 * e.size = 0 := by rw [z,Nat.zero_mul]
    have hn : l' = [] := List.length_eq_zero_iff.1 (by omega)
    subst hn
    exact ⟨at' cb off',0,cb,sz,hb,rfl,rfl⟩
  obtain ⟨base,cap,cb,sz,hb,hv,hst⟩ := dst
  obtain ⟨R,E⟩ := hr.store hb ho1 (by rw [hll]; omega) hl
  refine ⟨σ,_,_,R,E,.int .i64 (.ofNat (minN len2 len)),.inl (ex ρ' w _ _ ?_)⟩
  rw [m4] at hfirst
  simp only [Builtin.copy_,eT,hv,List.getElem?_toArray,List.getElem?_cons_zero,List.getElem?_cons_succ,Sem.run_bind,qa hu,Result.andThen_ok,hlen,qf he,hfirst,hst,Sem.run_pure,goInt,m4]
  rfl
 all_goals (
  cases h
  refine OpOK.pure fun σ w ρ' hr hd => ?_
  have dd := hd d
  have ds := hd s
  rename_i hdv hsv
  rw [hdv] at dd
  rw [hsv] at ds
  refine ⟨_,.int .i64 0,ex ρ' w _ _ ?_⟩
  cases hq : ρ' d <;> rw [hq] at dd <;> cases dd <;> cases hq2 : ρ' s <;> rw [hq2] at ds <;> cases ds <;>
  simp [Builtin.copy_,eT,qa hu,Builtin.lenOf,qf ‹_›,Builtin.firstCells,loadCells,loadCellsFrom,storeCells,goInt])
end
end Go.Ev
namespace Go.Ev
variable [GTab] {P : Program} {H : Heap} {nx : Nat} {w : World} {o : Oper}
noncomputable section
def Zv (P : Program) (H : Heap) (t : TypeId) (v : AVal) (byPtr : Bool) : Option AVal :=
 match P.underlying t,byPtr with
 | some (.pointer _),true => some v
 | some (.pointer elem),false => jN P elem H v
 | some d,false => match d with
  | .pointer _ => none
  | _ => some v
 | _,_ => none
def vQ (P : Program) (t : TypeId) (name : String) : Option (FuncId × Bool) :=
 match P.info? t with
 | some i => match i.methods.find? (·.name == name) with
  | some m => match m.path.isEmpty,m.func with
   | true,some p => some p
   | _,_ => none
  | none => none
 | none => none
def jZ (P : Program) (r : Operand) (name : String) (args : Array Operand) (ρ : Operand → AVal) (H : Heap) (_nx : Nat) : Option ARes :=
 match ρ r with
 | .iface t v => match vQ P t name with
  | some (f,byPtr) => match zF P f,Zv P H t v byPtr with
   | true,some u => some (.call f (u :: args.toList.map ρ))
   | _,_ => none
  | none => none
 | _ => none
theorem JE {σ : Sg} {t : TypeId} {v u : AVal} {v' : Value} {byPtr : Bool} {name : String} (hr : Rel σ H nx w) (hv : Den σ v v') (h : Zv P H t v byPtr = some u) :
  ∃ u',Den σ u u' ∧ (receiverAt t (.val v') byPtr (some name)).run P w = .ok u' w := by
 unfold Zv at h
 split at h
 ·rename_i hu
  cases h
  exact ⟨v',hv,by simp [receiverAt,qa hu,Place.get]⟩
 ·rename_i elem hu
  obtain ⟨x',dx,hx⟩ := vJ (P := P) hr hv h
  refine ⟨x',dx,?_⟩
  have isptr : ∃ ad,v' = .pointer (some ad) := by
   unfold jN at h
   split at h <;> try (cases h; done)
   all_goals
    cases hv
    exact ⟨_,rfl⟩
  obtain ⟨ad,rfl⟩ := isptr
  have hx' : (loadVar elem ad).run P w = .ok x' w := by simpa [Instr.loadAt,Instr.sureAddr] using hx
  have hck : (Builtin.ssaWrapNilChk_ #[t] t #[.pointer (some ad),strVal "",strVal name]).run P w = .ok (.pointer (some ad)) w := rfl
  have hgt : (Place.get t (.val (.pointer (some ad)))).run P w = .ok (.pointer (some ad)) w := rfl
  have had : (asAddr (.pointer (some ad))).run P w = .ok ad w := rfl
  simp only [receiverAt,Sem.run_bind,qa hu,Result.andThen_ok,hgt,hck,had,hx']
 ·rename_i d hne hu
  split at h <;> try (cases h; done)
  rename_i hd
  cases h
  refine ⟨v',hv,?_⟩
  simp only [receiverAt,Sem.run_bind,qa hu,Result.andThen_ok]
  cases d <;> first | exact absurd rfl (hd _) | rfl
 ·cases h
theorem yv {c : Call} {rcv : Operand} {name : String} {ρ : Operand → AVal} {r : ARes} (ho : o.op = .call c) (hc : c.callee = .invoke rcv name)
  (h : jZ P rcv name c.args ρ H nx = some r) : OpOK P o ρ H nx r := by
 unfold jZ at h
 split at h <;> try (cases h; done)
 rename_i t v hx
 split at h <;> try (cases h; done)
 rename_i f byPtr hm
 split at h <;> try (cases h; done)
 rename_i u hb hu
 cases h
 unfold vQ at hm
 split at hm <;> try (cases hm; done)
 rename_i i hi
 split at hm <;> try (cases hm; done)
 rename_i m hf
 split at hm <;> try (cases hm; done)
 rename_i p hp hfun
 cases hm
 intro σ w ρ' hr hd
 have dx := hd rcv
 rw [hx] at dx
 cases e : ρ' rcv <;> rw [e] at dx <;> cases dx
 rename_i v' dv
 obtain ⟨u',du,hrun⟩ := JE (P := P) (name := (name.splitOn ".").getLastD name) hr dv hu
 refine ⟨u' :: c.args.toList.map ρ',.cons du (zD hd _),?_⟩
 have hpath : m.path.toList = [] := by
  have : m.path = #[] := by simpa using hp
  rw [this]
 have hmeth : ∀ n,(method (n + 1) t v' name).run P w = .ok (f,u') w := by
  intro n
  unfold method
  simp only [Sem.run_bind,qq hi,Result.andThen_ok,hf,hpath,follow,Sem.run_pure,hfun,hp,if_true,hrun]
 have hfuel : ∃ n,P.types.size + Made.depth = n + 1 := ⟨P.types.size + Made.depth - 1,by
  have : 0 < Made.depth := by decide
  omega⟩
 obtain ⟨n,hn⟩ := hfuel
 have hcm : (callMethod (.iface t v') name (c.args.map ρ')).run P w = .ok (.enter f (#[u'] ++ c.args.map ρ')) w := by
  simp only [callMethod,Sem.run_bind,program,Sem.run,Result.andThen_ok,hn,hmeth,zw hb]
 have hex : ((#[Value.iface t v'] ++ c.args.map ρ').extract 1 (#[Value.iface t v'] ++ c.args.map ρ').size) = c.args.map ρ' := by
  apply Array.ext'
  simp
  rw [List.take_of_length_le (by simp)]
 simp only [execOp,ho,resolve,hc,e,Sem.run_bind,Sem.run_pure,Result.andThen_ok,invoke]
 have hg : (#[Value.iface t v'] ++ c.args.map ρ')[0]? = some (.iface t v') := by rw [Array.getElem?_append_left (by simp)]; rfl
 simp only [hg,hex,hcm]
 congr 2
 simp
end
end Go.Ev
end
section
namespace Go.Ev
variable [GTab]
noncomputable section
def qG (P : Program) (c : Call) (ρ : Operand → AVal) (H : Heap) (nx : Nat) : Option ARes :=
 match c.callee with
 | .value f => kv P f c.args ρ H nx
 | .builtin .append => match c.argTypes.toList,c.args.toList with
  | [sT,xT],[s,x] => match P.underlying sT,P.underlying xT with
   | some (.slice elem),some d => match srcD d,P.info? elem with
    | true,some e => match aSrc e.size H (ρ x) with
     | some (_,l) => match qo l with
      | true => jp P elem H nx (ρ s) (fun size => aSrc size H (ρ x))
      | false => none
     | none => none
    | false,some e => match VF d,vd P elem e.size (ρ x) with
     | true,some (_,l) => match qo l with
      | true => jp P elem H nx (ρ s) (fun size => vd P elem size (ρ x))
      | false => none
     | _,_ => none
    | _,_ => none
   | _,_ => none
  | _,_ => none
 | .builtin .copy => vB P c.argTypes c.args ρ H nx
 | .builtin b => qy P b c.argTypes c.args ρ H nx
 | .invoke r name => jZ P r name c.args ρ H nx
def wS (_ρ : Operand → AVal) (_H : Heap) (_nx : Nat) : Option ARes := none
def qU (P : Program) (op : Op) (ρ : Operand → AVal) (H : Heap) (nx : Nat) : Option ARes :=
 match made P op ρ with
 | some m => wX m H nx
 | none => none
def jV (P : Program) (c : Call) (ρ : Operand → AVal) (H : Heap) (nx : Nat) : Option ARes :=
 match c.callee with
 | .value f => kQ P f c.args ρ H nx
 | _ => none
def aop (P : Program) (o : Oper) : (Operand → AVal) → Heap → Nat → Option ARes :=
 match o.op with
 | .move x => jm x
 | .assign x => jm x
 | .pick c a b => jz c a b
 | .load t a => jl P t a
 | .store t a x => jr P t a x
 | .nilCheck x => zb x
 | .binOp op t x y _ => zn P op t x y
 | .unOp op _ x => opUn op x
 | .convert s d x => z5 P s d x
 | .makeInterface t x => qB P t x
 | .makeFunc fn a b => zJ fn a b
 | .slice t x lo hi mx => ju P t x lo hi mx
 | .fieldAddr s x f => qT P s x f
 | .field t x f => zZ P t x f
 | .indexAddr t x i => qN P t x i
 | .index t x i => zN P t x i
 | .typeAssert x _ a ok => zT P x a ok
 | .extract t i => zy t i
 | .build t ps => jb P t ps
 | .alloc t => qU P (.alloc t)
 | .box t x => qU P (.box t x)
 | .buildSlice t n ps => qU P (.buildSlice t n ps)
 | .makeSlice t l c => qU P (.makeSlice t l c)
 | .call c => qG P c
 | .defer c => jV P c
 | .panic x => ku x
 | .lookup t x i ok => wb P t x i ok
 | .makeMap _ r => yE r
 | .mapUpdate t m k x => ji P t m k x
 | .insert t m k x => ji P t m k x
 | _ => wS
abbrev Env := T2 AVal
def aev (env : Env) (x : Operand) : AVal :=
 Operand.rec (motive := fun _ => Env → AVal) (fun t env => Bool.rec .und (get2 t env) (Nat.ble t 255)) (fun v _ => vR v) (fun g _ => .gptr g 0) (fun f _ => .func (.func f) [] []) x env
def put (d : Option Nat) (v : AVal) (env : Env) : Env := Option.rec (motive := fun _ => AVal → Env → Env) (fun _ env => env) (fun d v env => set2 d v env) d v env
def z0 (nt : Nat) (d : Option Nat) : Bool := Option.rec (motive := fun _ => Bool) true (fun d => Nat.ble (Nat.succ d) nt) d
inductive AMode where
 | returning
 | panicking (l : List (AVal × Bool))
inductive AExit where
 | normal
 | exit (id : Nat)
 | ret
 | pan (l : List (AVal × Bool))
inductive AEnd where
 | ret (v : AVal)
 | pan (l : List (AVal × Bool))
abbrev Dfs := List (FuncId × List AVal)
abbrev Kont := AExit → Env → Heap → Nat → Dfs → Option AMode → Bool
abbrev KEnd := AEnd → Heap → Nat → Bool
abbrev zx := FuncId → List AVal → Heap → Nat → KEnd → Bool
def qu (ops : Array Oper) (g : Option (Nat × Bool)) (env : Env) : Option Bool :=
 match g with
 | none => some true
 | some (j,want) => match (ops[j]?).bind (·.dst) with
  | some t => match Nat.ble t 255 with
   | true => match get2 t env with
    | .bool b => some (Bool.rec (bnot want) want b)
    | .tuple [] => some false
    | _ => none
   | false => none
  | none => some false
def JU (call : zx) (d : Option Nat) (r : ARes) (env : Env) (H : Heap) (nx : Nat) (dfs : Dfs) (rc : Option AMode) (k : Env → Heap → Nat → Dfs → Option AMode → Bool) (K : Kont) : Bool :=
 match r with
 | .val v H' nx' => k (put d v env) H' nx' dfs rc
 | .call f args => call f args H nx fun e H' nx' => match e with
  | .ret v => k (put d v env) H' nx' dfs rc
  | .pan l => K (.pan l) env H' nx' dfs rc
 | .dfr f args => k (put d (.tuple []) env) H nx ((f,args) :: dfs) rc
 | .pan v => K (.pan [(v,false)]) env H nx dfs rc
 | .rcv => match rc with
  | some (.panicking ((v,false) :: older)) => k (put d v env) H nx dfs (some (.panicking ((v,true) :: older)))
  | some .returning => k (put d .nilIface env) H nx dfs rc
  | _ => false
def opK (P : Program) (call : zx) (nt : Nat) (ops : Array Oper) (o : Oper) (env : Env) (H : Heap) (nx : Nat) (dfs : Dfs) (rc : Option AMode) (k : Env → Heap → Nat → Dfs → Option AMode → Bool) (K : Kont) : Bool :=
 match z0 nt o.dst,qu ops o.guard env with
 | true,some true => match aop P o (aev env) H nx with
  | some r => JU call o.dst r env H nx dfs rc k K
  | none => false
 | true,some false => k (put o.dst (.tuple []) env) H nx dfs rc
 | _,_ => false
def cls : Op → Nat
 | .alloc _ | .box _ _ | .buildSlice _ _ _ | .makeSlice _ _ _ => 1
 | .store _ _ _ | .defer _ | .panic _ | .mapUpdate _ _ _ _ | .insert _ _ _ _ | .mapEntry _ _ _ | .entryStore _ _ _ _ | .next _ _ | .go _ | .send _ _ | .recv _ _ _ | .select _ _ | .ready _ | .range _ _ | .makeMap _ _ | .makeChan _ _ => 2
 | .call c => match c.callee with
  | .builtin .len | .builtin .max | .builtin .min => 0
  | _ => 2
 | _ => 0
def z4 : Op → Bool
 | .load _ _ | .slice _ _ _ _ _ | .convert _ _ _ | .lookup _ _ _ _ => true
 | _ => false
def jM (as : List Nat) (es : List Edge) : Nat :=
 List.rec (motive := fun _ => Nat) 0 (fun e _ ih => Bool.rec ih (Nat.lor (Nat.lor (Nat.shiftLeft 1 e.on) (as.getD e.on 0)) ih) (Region.binds .any e)) es
def Jp : List Oper → List Nat → List Nat
 | [],acc => acc
 | o :: l,acc => Jp l (acc ++ [jM acc o.after.toList])
def ahead (ops : Array Oper) : List Nat := Jp ops.toList []
def acts (l : List Oper) (i : Nat) : List Nat :=
 match l with
 | [] => []
 | o :: l => match Nat.beq (cls o.op) 2 with
  | true => i :: acts l (i + 1)
  | false => acts l (i + 1)
def bit (m j : Nat) : Bool := Nat.beq (Nat.mod (Nat.shiftRight m j) 2) 1
def K8 (m : Nat) (es : List Nat) : Nat := List.rec (motive := fun _ => Nat) 0 (fun e _ ih => Bool.rec ih (Nat.succ ih) (bit m e)) es
def vV (l : List Oper) (as : List Nat) (es : List Nat) (k i : Nat) : List Nat :=
 match l,as with
 | o :: l,m :: as => match Nat.beq (cls o.op) 2,Nat.beq (K8 m es) k with
  | false,true => i :: vV l as es k (i + 1)
  | _,_ => vV l as es k (i + 1)
 | _,_ => []
def wD (l : List Oper) (as : List Nat) (es : List Nat) (k me i : Nat) : List Nat :=
 match l,as with
 | o :: l,m :: as => match z4 o.op,Nat.ble (K8 m es) k,bit me i with
  | true,true,false => i :: wD l as es k me (i + 1)
  | _,_,_ => wD l as es k me (i + 1)
 | _,_ => []
def Q3 (l : List Oper) (as : List Nat) (all es : List Nat) (k : Nat) : List (Nat × List Nat × List Nat) :=
 match es with
 | [] => []
 | e :: es => (e,vV l as all k 0,wD l as all k (as.getD e 0) 0) :: Q3 l as all es (k + 1)
def looks (ops : Array Oper) (o : Oper) : List Nat :=
 (o.op.operands.toList.filterMap fun | .tmp t => some t | _ => none) ++ (match o.guard with | some (g,_) => ((ops[g]?).bind (·.dst)).toList | none => [])
def je (l : List Oper) (t i : Nat) : List Nat :=
 match l with
 | [] => []
 | o :: l => match o.dst with
  | some d => match Nat.beq d t with
   | true => i :: je l t (i + 1)
   | false => je l t (i + 1)
  | none => je l t (i + 1)
def allL {α : Type} (p : α → Bool) (l : List α) : Bool := List.rec (motive := fun _ => Bool) true (fun x _ ih => Bool.rec false ih (p x)) l
def opOK (nt : Nat) (ops : Array Oper) (l : List Oper) (as : List Nat) (i : Nat) (o : Oper) : Bool :=
 match z0 nt o.dst,Nat.beq (as.getD i 0) (jM as o.after.toList) with
 | true,true => match allL (fun e => Bool.rec true (Nat.ble (Nat.succ e.on) i) (Region.binds .any e)) o.after.toList,allL (fun t => allL (fun j => bit (as.getD i 0) j) (je l t 0)) (looks ops o) with
  | true,true => match (match o.dst with | some t => allL (fun j => Nat.beq j i) (je l t 0) | none => true) with
   | true => match o.guard with
    | some (g,_) => match (ops[g]?).bind (·.dst) with
     | some _ => true
     | none => false
    | none => true
   | _ => false
  | _,_ => false
 | _,_ => false
def yd (nt : Nat) (ops : Array Oper) (l : List Oper) (as : List Nat) : List Oper → Nat → Bool
 | [],_ => true
 | o :: r,i => match opOK nt ops l as i o with
  | true => yd nt ops l as r (i + 1)
  | false => false
def memN (i : Nat) (l : List Nat) : Bool := List.rec (motive := fun _ => Bool) false (fun j _ ih => Bool.rec ih true (Nat.beq j i)) l
def w9 (ops : Array Oper) (past : List Nat) (i : Nat) (o : Oper) : Bool :=
 allL (fun p => match Nat.beq p i with
  | true => false
  | false => match o.dst,ops[p]? with
   | some d,some q => allL (fun t => bnot (Nat.beq t d)) (looks ops q)
   | none,some _ => true
   | _,none => false) past
def chkF (ops : Array Oper) : List Nat → List Nat → Option (List Nat)
 | [],past => some past
 | i :: l,past => match ops[i]? with
  | some o => match Nat.beq (cls o.op) 2,w9 ops past i o with
   | false,true => chkF ops l (i :: past)
   | _,_ => none
  | none => none
def chkA (ops : Array Oper) (m : Nat) (A past : List Nat) : Bool :=
 allL (fun i => match ops[i]? with
  | some o => match z4 o.op with
   | true => match memN i A with
    | true => true
    | false => bit m i
   | false => true
  | none => false) past
def chkS (ops : Array Oper) (as : List Nat) : List (Nat × List Nat × List Nat) → Option Nat → List Nat → Bool
 | [],_,_ => true
 | (e,F,A) :: rest,prev,past => match ops[e]?,(match prev with | some p => bit (as.getD e 0) p | none => true) with
  | some o,true => match w9 ops past e o,allL (fun i => bit (as.getD i 0) e) F with
   | true,true => match chkF ops F past with
    | some past' => match chkA ops (as.getD e 0) A past' with
     | true => chkS ops as rest (some e) past'
     | false => false
    | none => false
   | _,_ => false
  | _,_ => false
def named (st : List (Nat × List Nat × List Nat)) : List Nat :=
 match st with
 | [] => []
 | (e,F,_) :: rest => e :: (F ++ named rest)
def yP (ops : Array Oper) : List Nat := vV ops.toList (ahead ops) (acts ops.toList 0) 0 0
def yX (ops : Array Oper) : List Nat := wD ops.toList (ahead ops) (acts ops.toList 0) 0 0 0
def yw (ops : Array Oper) : List (Nat × List Nat × List Nat) := Q3 ops.toList (ahead ops) (acts ops.toList 0) (acts ops.toList 0) 1
def Zq (nt : Nat) (ops : Array Oper) : Bool :=
 match Nat.ble nt 256,yd nt ops ops.toList (ahead ops) ops.toList 0,chkF ops (yP ops) [] with
 | true,true,some past => match chkA ops 0 (yX ops) past,chkS ops (ahead ops) (yw ops) none past,allL (fun i => memN i (yP ops ++ named (yw ops))) (List.range ops.size) with
  | true,true,true => true
  | _,_,_ => false
 | _,_,_ => false
def beqA : Nat → AVal → AVal → Bool
 | 0,_,_ => false
 | n + 1,a,b =>
  let beqL : List AVal → List AVal → Bool := fun l m => List.rec (motive := fun _ => List AVal → Bool) (fun m => List.rec (motive := fun _ => Bool) true (fun _ _ _ => false) m)
   (fun a _ ih m => List.rec (motive := fun _ => Bool) false (fun b t _ => Bool.rec false (ih t) (beqA n a b)) m) l m
  match a,b with
  | .und,.und => true
  | .bool x,.bool y => Bool.rec (bnot y) y x
  | .int k x,.int j y => match decide (k = j) with | true => ieq x y | false => false
  | .str x y,.str z w => match Nat.beq x z with | true => Nat.beq y w | false => false
  | .ptr x y,.ptr z w => match Nat.beq x z with | true => Nat.beq y w | false => false
  | .nilPtr,.nilPtr => true
  | .slice x y z u f,.slice x' y' z' u' f' => match Nat.beq x x',Nat.beq y y',Nat.beq z z',Nat.beq u u',(Bool.rec (bnot f') f' f : Bool) with
   | true,true,true,true,true => true
   | _,_,_,_,_ => false
  | .nilSlice,.nilSlice => true
  | .map x,.map y => Nat.beq x y
  | .nilMap,.nilMap => true
  | .func (.func f) l m,.func (.func g) l' m' => match Nat.beq f g,beqL l l' with | true,true => beqL m m' | _,_ => false
  | .nilFunc,.nilFunc => true
  | .iface t v,.iface u w => match Nat.beq t u with | true => beqA n v w | false => false
  | .nilIface,.nilIface => true
  | .agg l,.agg m => beqL l m
  | .tuple l,.tuple m => beqL l m
  | .anyInt k x y,.anyInt j z w => match decide (k = j),Nat.beq x z with | true,true => Nat.beq y w | _,_ => false
  | .anyBool,.anyBool => true
  | .gptr x y,.gptr z w => match Nat.beq x z with | true => Nat.beq y w | false => false
  | .anyStr x,.anyStr y => Nat.beq x y
  | _,_ => false
def zz (P : Program) (ops : Array Oper) (res : Nat) (o : Oper) (i : Nat) (env : Env) (H : Heap) (nx : Nat) (k : Env → Heap → Bool) : Bool :=
 match qu ops o.guard env with
 | some true => match Nat.beq (cls o.op) 1 with
  | true => match made P o.op (aev env) with
   | some m => match Nat.ble m.n 4096 with
    | true => qn (Nat.add res i) fun b => k (put o.dst (m.v b) env) (set5 b (some (.cells m.n (CT.ofL m.n m.l) [] false)) H)
    | false => false
   | none => false
  | false => match aop P o (aev env) H nx with
   | some (.val v _ _) => k (put o.dst v env) H
   | _ => false
 | some false => k (put o.dst (.tuple []) env) H
 | none => false
def jt (P : Program) (ops : Array Oper) (res : Nat) (nx : Nat) (k : Env → Heap → Bool) (l : List Nat) : Env → Heap → Bool :=
 List.rec (motive := fun _ => Env → Heap → Bool) k (fun i _ ih env H => match ops[i]? with
  | some o => zz P ops res o i env H nx ih
  | none => false) l
def ka (P : Program) (ops : Array Oper) (env : Env) (H : Heap) (nx : Nat) (o : Oper) : Bool :=
 match qu ops o.guard env with
 | some true => match aop P o (aev env) H nx with
  | some (.val v _ _) => match o.dst with
   | some d => beqA 9 v (get2 d env)
   | none => true
  | _ => false
 | some false => match o.dst with
  | some d => match get2 d env with
   | .tuple [] => true
   | _ => false
  | none => true
 | none => false
def zR (P : Program) (ops : Array Oper) (env : Env) (H : Heap) (nx : Nat) (l : List Nat) : Bool :=
 allL (fun i => match ops[i]? with
  | some o => ka P ops env H nx o
  | none => false) l
def actK (P : Program) (call : zx) (ops : Array Oper) (o : Oper) (env : Env) (H : Heap) (nx : Nat) (dfs : Dfs) (rc : Option AMode) (k : Env → Heap → Nat → Bool) (K : Kont) (env0 : Env) : Bool :=
 match qu ops o.guard env with
 | some true => match aop P o (aev env) H nx with
  | some (.val v H' nx') => k (put o.dst v env) H' nx'
  | some (.call f args) => call f args H nx fun e H' nx' => match e with
   | .ret v => k (put o.dst v env) H' nx'
   | .pan l => K (.pan l) env0 H' nx' dfs rc
  | some (.pan v) => K (.pan [(v,false)]) env0 H nx dfs rc
  | _ => false
 | some false => k (put o.dst (.tuple []) env) H nx
 | none => false
def jE (l : List Oper) (env : Env) : Env := List.rec (motive := fun _ => Env → Env) (fun env => env) (fun o _ ih env => ih (put o.dst .und env)) l env
def jY (args : List AVal) : Nat → Env → Env := List.rec (motive := fun _ => Nat → Env → Env) (fun _ env => env) (fun v _ ih i env => ih (Nat.succ i) (set2 i v env)) args
def qX (P : Program) (env : Env) (H : Heap) : List ResultVar → Option (List AVal)
 | [] => some []
 | .tmp t :: l => match Nat.ble t 255,qX P env H l with
  | true,some vs => some (get2 t env :: vs)
  | _,_ => none
 | .cell a t :: l => match Nat.ble a 255,qX P env H l with
  | true,some vs => match jN P t H (get2 a env) with
   | some v => some (v :: vs)
   | none => none
  | _,_ => none
def kY (vs : List AVal) : AVal := match vs with
 | [v] => v
 | vs => .tuple vs
def wL : AMode → AMode
 | .panicking ((_,true) :: _) => .returning
 | m => m
def wO (m : AMode) (l : List (AVal × Bool)) : AMode := match m with
 | .panicking old => .panicking (l ++ old)
 | .returning => .panicking l
def Q8 (P : Program) (calld : FuncId → List AVal → AMode → Heap → Nat → (AEnd → AMode → Heap → Nat → Bool) → Bool) (rs : List ResultVar) (env : Env) (dfs : Dfs) : AMode → Heap → Nat → KEnd → Bool :=
 List.rec (motive := fun _ => AMode → Heap → Nat → KEnd → Bool)
  (fun m H nx K => match m with
   | .returning => match qX P env H rs with
    | some vs => K (.ret (kY vs)) H nx
    | none => false
   | .panicking l => K (.pan l) H nx)
  (fun d _ ih m H nx K => calld d.1 d.2 m H nx fun e m' H' nx' => match e with
   | .ret _ => ih (wL m') H' nx' K
   | .pan l => ih (wO m' l) H' nx' K) dfs
def vH : Nat := 1000000000
end
end Go.Ev
end
section
namespace Go.Ev
variable [GTab] {P : Program} {H : Heap} {nx : Nat} {ops : Array Oper} {o : Oper} {nt : Nat} {env : Env}
set_option maxHeartbeats 2000000 in
theorem Zf {c : Call} {ρ : Operand → AVal} {r : ARes} (ho : o.op = .call c) (h : qG P c ρ H nx = some r) : OpOK P o ρ H nx r := by
 unfold qG at h
 split at h <;> try (cases h; done)
 ·exact y8 ho ‹_› h
 ·rename_i hc
  split at h <;> try (cases h; done)
  rename_i sT xT s x hT hA
  split at h <;> try (cases h; done)
  rename_i elem d hu hx
  split at h <;> try (cases h; done)
  ·rename_i e hd he
   split at h <;> try (cases h; done)
   rename_i n l hsrc
   split at h <;> try (cases h; done)
   rename_i hall
   have e1 : c.argTypes = #[sT,xT] := by apply Array.ext'; rw [hT]
   have e2 : c.args = #[s,x] := by apply Array.ext'; rw [hA]
   obtain ⟨v,H',nx',rfl⟩ := kZ h
   intro σ w ρ' hr hdn
   obtain ⟨σ',w',v',R,E,D,hrun⟩ := vI (P := P) (u := o.type) hr (hdn s) (sT := sT) (xT := xT) (x' := ρ' x) (fun n' l' e' z' he' hz' _ hs' => by
    rw [he] at he'; cases he'
    obtain ⟨hll,l1,hl1,hlen,hfc⟩ := QD (P := P) hr (hdn x) hs'
    obtain ⟨_,l2,hl2,_,hfc2⟩ := QD (P := P) hr.drew (hdn x) hs'
    have hq : l' = l := by rw [hsrc] at hs'; cases hs'; rfl
    exact ⟨hll,by rw [hq]; exact hall,⟨l1,hl1,JD hu hx hd he hlen hfc⟩,l2,hl2,Jw hu hx hd he hz' hlen hfc2⟩) h
   refine ⟨σ',w',v',R,E,D,.inl ?_⟩
   simp [execOp,ho,resolve,hc,invoke,builtin,e1,e2,hrun]
  ·rename_i e hd he
   split at h <;> try (cases h; done)
   rename_i n l hi hsrc
   split at h <;> try (cases h; done)
   rename_i hall
   have e1 : c.argTypes = #[sT,xT] := by apply Array.ext'; rw [hT]
   have e2 : c.args = #[s,x] := by apply Array.ext'; rw [hA]
   obtain ⟨k,rfl⟩ : ∃ k,d = .int k := by cases d <;> first | exact ⟨_,rfl⟩ | cases hi
   obtain ⟨v,H',nx',rfl⟩ := kZ h
   intro σ w ρ' hr hdn
   obtain ⟨σ',w',v',R,E,D,hrun⟩ := vI (P := P) (u := o.type) hr (hdn s) (sT := sT) (xT := xT) (x' := ρ' x) (fun n' l' e' z' he' hz' hzs' hs' => by
    rw [he] at he'; cases he'
    have hq : l' = l := by rw [hsrc] at hs'; cases hs'; rfl
    obtain ⟨m,hm,rfl,hle,hden,hll⟩ := Zi (σ := σ) he hz' hs'
    have hdx := hdn x
    rw [hm] at hdx
    have ex : ∀ y,Den σ (.int .i64 (.ofNat m)) y → y = .int .i64 (m : Int) := fun y hy => by cases hy; rfl
    rw [ex _ hdx]
    exact ⟨hll,by rw [hq]; exact hall,⟨_,hden,Qc hu hx he hz' hzs' hle⟩,_,hden,Qg hu hx he hz' hzs' hle⟩) h
   refine ⟨σ',w',v',R,E,D,.inl ?_⟩
   simp [execOp,ho,resolve,hc,invoke,builtin,e1,e2,hrun]
 ·exact Zm ho ‹_› h
 ·exact vZ ho ‹_› h
 ·exact yv ho ‹_› h
theorem z8 {ρ : Operand → AVal} {r : ARes} (h : qU P o.op ρ H nx = some r) : OpOK P o ρ H nx r := by
 unfold qU at h
 split at h <;> try (cases h; done)
 exact Q9 (QF ‹_›) h
theorem kC {ρ : Operand → AVal} {r : ARes} (h : aop P o ρ H nx = some r) : OpOK P o ρ H nx r := by
 unfold aop at h
 cases hop : o.op <;> rw [hop] at h
 case move => exact wo (.inl hop) h
 case assign => exact wo (.inr hop) h
 case pick => exact Zh hop h
 case load => exact Zo hop h
 case store => exact y9 hop h
 case nilCheck => exact vX hop h
 case binOp => exact Z8 hop h
 case unOp => exact Kj hop h
 case convert => exact QS hop h
 case makeInterface => exact ke hop h
 case makeFunc => exact vY hop h
 case slice => exact y0 hop h
 case fieldAddr => exact vq hop h
 case field => exact Qa hop h
 case indexAddr => exact vw hop h
 case index => exact Qb hop h
 case typeAssert => exact yj hop h
 case extract => exact wY hop h
 case build => exact Qk hop h
 case alloc => exact z8 (by rw [hop]; exact h)
 case box => exact z8 (by rw [hop]; exact h)
 case buildSlice => exact z8 (by rw [hop]; exact h)
 case makeSlice => exact z8 (by rw [hop]; exact h)
 case call => exact Zf hop h
 case defer c =>
  have h' : jV P c ρ H nx = some r := h
  unfold jV at h'
  split at h' <;> first | (cases h'; done) | skip
  exact Qi hop ‹_› h'
 case panic => exact Qd hop h
 case lookup => exact Vl hop h
 case makeMap => exact Kt hop h
 case mapUpdate => exact yr (.inl hop) h
 case insert => exact yr (.inr hop) h
 all_goals (have h' : wS ρ H nx = some r := h; cases h')
structure EnvRel (σ : Sg) (nt : Nat) (env : Env) (tmps : Array Value) : Prop where
 size : tmps.size = nt
 le : nt ≤ 256
 den : ∀ t,t < 256 → Den σ (get2 t env) (tmps.getD t undef)
theorem EnvRel.mono {σ σ' : Sg} {tmps : Array Value} (hs : ∀ b p,σ b = some p → σ' b = some p) (h : EnvRel σ nt env tmps) : EnvRel σ' nt env tmps :=
 ⟨h.size,h.le,fun t ht => (h.den t ht).mono hs⟩
theorem EnvRel.aev {σ : Sg} {a : Act} (h : EnvRel σ nt env a.tmps) (x : Operand) : Den σ (aev env x) (a.eval x) := by
 cases x with
 | tmp t =>
  show Den σ (Bool.rec .und (get2 t env) (Nat.ble t 255)) (a.tmps.getD t undef)
  cases hb : Nat.ble t 255 with
  | false => exact .und _
  | true => exact h.den t (by have := Nat.le_of_ble_eq_true hb; omega)
 | const v => exact kF σ v
 | global g => exact .gptr g 0
 | func f => exact .func .nil .nil
theorem jP {d : Nat} {v : AVal} {t : Nat} (hd : d < 256) (ht : t < 256) : get2 t (set2 d v env) = if d = t then v else get2 t env := by
 by_cases h : d = t
 ·subst h; rw [if_pos rfl,zX]
 ·rw [if_neg h,kz]
  rw [Nat.mod_eq_of_lt hd,Nat.mod_eq_of_lt ht]; exact h
theorem zU (tmps : Array Value) (d t : Nat) (v : Value) (h : d < tmps.size) : (tmps.setIfInBounds d v).getD t undef = if d = t then v else tmps.getD t undef := by
 by_cases e : d = t
 ·subst e; rw [if_pos rfl]; simp [h]
 ·rw [if_neg e]; simp [Array.getElem?_setIfInBounds_ne e]
theorem EnvRel.put {σ : Sg} {a : Act} {d : Option Nat} {v : AVal} {v' : Value} (h : EnvRel σ nt env a.tmps) (hd : z0 nt d = true) (hv : Den σ v v') : EnvRel σ nt (put d v env) (a.put d v').tmps := by
 cases d with
 | none => exact h
 | some d =>
  have hlt : d < nt := Nat.le_of_ble_eq_true hd
  have hle := h.le
  have hsz := h.size
  refine ⟨?_,h.le,fun t ht => ?_⟩
  ·show (a.tmps.setIfInBounds d v').size = nt
   rw [Array.size_setIfInBounds]; exact h.size
  ·show Den σ (get2 t (set2 d v env)) ((a.tmps.setIfInBounds d v').getD t undef)
   rw [jP (by omega) ht,zU _ _ _ _ (by omega)]
   by_cases e : d = t
   ·rw [if_pos e,if_pos e]; exact hv
   ·rw [if_neg e,if_neg e]; exact h.den t ht
inductive DfsRel (σ : Sg) : Dfs → List Deferred → Prop
 | nil : DfsRel σ [] []
 | cons {f : FuncId} {args : List AVal} {d : Deferred} {l : Dfs} {l' : List Deferred} (h : DDen σ f args d) (t : DfsRel σ l l') : DfsRel σ ((f,args) :: l) (d :: l')
theorem DDen.mono {σ σ' : Sg} {f : FuncId} {args : List AVal} {d : Deferred} (hs : ∀ b p,σ b = some p → σ' b = some p) (h : DDen σ f args d) : DDen σ' f args d := by
 obtain ⟨cap,h1,h2⟩ := h
 exact ⟨cap,h1,h2.mono hs⟩
theorem DfsRel.mono {σ σ' : Sg} (hs : ∀ b p,σ b = some p → σ' b = some p) : ∀ {l : Dfs} {l' : List Deferred},DfsRel σ l l' → DfsRel σ' l l'
 | _,_,.nil => .nil
 | _,_,.cons h t => .cons (h.mono hs) (DfsRel.mono hs t)
structure ARel (σ : Sg) (nt : Nat) (env : Env) (dfs : Dfs) (a : Act) : Prop where
 env : EnvRel σ nt env a.tmps
 dfs : DfsRel σ dfs a.defers
theorem ARel.mono {σ σ' : Sg} {dfs : Dfs} {a : Act} (hs : ∀ b p,σ b = some p → σ' b = some p) (h : ARel σ nt env dfs a) : ARel σ' nt env dfs a := ⟨h.env.mono hs,h.dfs.mono hs⟩
theorem ARel.put {σ : Sg} {dfs : Dfs} {a : Act} {d : Option Nat} {v : AVal} {v' : Value} (h : ARel σ nt env dfs a) (hd : z0 nt d = true) (hv : Den σ v v') : ARel σ nt (put d v env) dfs (a.put d v') :=
 ⟨h.env.put hd hv,by cases d <;> exact h.dfs⟩
inductive Chain (σ : Sg) : List (AVal × Bool) → List PanicEntry → Prop
 | nil : Chain σ [] []
 | cons {v : AVal} {r : Bool} {p : PanicEntry} {l : List (AVal × Bool)} {l' : List PanicEntry} (hv : Den σ v p.v) (hr : p.recovered = r) (hg : p.goexit = false) (t : Chain σ l l') : Chain σ ((v,r) :: l) (p :: l')
theorem Chain.mono {σ σ' : Sg} (hs : ∀ b p,σ b = some p → σ' b = some p) : ∀ {l : List (AVal × Bool)} {l' : List PanicEntry},Chain σ l l' → Chain σ' l l'
 | _,_,.nil => .nil
 | _,_,.cons hv hr hg t => .cons (hv.mono hs) hr hg (Chain.mono hs t)
theorem Chain.append {σ : Sg} : ∀ {l : List (AVal × Bool)} {l' : List PanicEntry} {m : List (AVal × Bool)} {m' : List PanicEntry},Chain σ l l' → Chain σ m m' → Chain σ (l ++ m) (l' ++ m')
 | _,_,_,_,.nil,h => h
 | _,_,_,_,.cons hv hr hg t,h => .cons hv hr hg (Chain.append t h)
def Qw (σ : Sg) : AExit → Exit → Prop
 | .normal,.normal => True
 | .exit i,.exit j => i = j
 | .ret,.ret => True
 | .pan l,.panic c => Chain σ l c
 | _,_ => False
def yu (σ : Sg) : AEnd → Ending → Prop
 | .ret v,.returned v' => Den σ v v'
 | .pan l,.panicked c => Chain σ l c
 | _,_ => False
def MRel (σ : Sg) : AMode → FrameMode → Prop
 | .returning,.returning => True
 | .panicking l,.panicking c => Chain σ l c
 | _,_ => False
theorem MRel.mono {σ σ' : Sg} {m : AMode} {u : FrameMode} (hs : ∀ b p,σ b = some p → σ' b = some p) (h : MRel σ m u) : MRel σ' m u := by
 cases m <;> cases u <;> first | exact h | exact Chain.mono hs h
theorem zp {σ : Sg} {a : Act} {b : Bool} (h : qu ops o.guard env = some b) (he : EnvRel σ nt env a.tmps) : Region.wanted o (yielded ops a.tmps) = b := by
 unfold qu at h
 unfold Region.wanted
 split at h
 ·rename_i hg; cases h; rw [hg]
 ·rename_i j want hg
  rw [hg]
  split at h
  ·rename_i t ht
   split at h <;> try (cases h; done)
   rename_i hle
   have hlt : t < 256 := Nat.lt_of_le_of_lt (Nat.le_of_ble_eq_true hle) (by decide)
   have hd := he.den t hlt
   have hy : yielded ops a.tmps j = match a.tmps[t]? with | some (.bool b) => some b | _ => none := by
    unfold yielded; rw [ht]; rfl
   split at h <;> try (cases h; done)
   ·rename_i x hx
    cases h
    rw [hx] at hd
    have hg2 : a.tmps[t]? = some (.bool x) := by
     cases hq : a.tmps[t]? with
     | none => simp [hq] at hd; cases hd
     | some v => simp [hq] at hd; cases hd; rfl
    simp only [hy,hg2]
    cases x <;> cases want <;> rfl
   ·rename_i hx
    cases h
    rw [hx] at hd
    have hn : yielded ops a.tmps j = none := by
     rw [hy]
     cases hq : a.tmps[t]? with
     | none => rfl
     | some v =>
      simp [hq] at hd
      cases hd
      rfl
    simp [hn]
  ·rename_i ht
   cases h
   have hn : yielded ops a.tmps j = none := by unfold yielded; rw [ht]; rfl
   simp [hn]
def We (P : Program) (o : Oper) (a : Act) (w : World) : Prop := ∀ w',(execOp a.eval o).run P w ≠ .ok .recover w'
theorem Jy {Q : Exit → Act → World → Prop} {l : List Oper} {a : Act} {w : World} (h : Region.wanted o (yielded ops a.tmps) = false) (hn : wpList P ops Q l (a.put o.dst undef) w) :
  wpList P ops Q (o :: l) a w := by
 unfold wpList
 rw [if_neg (by rw [h]; simp)]
 exact hn
end Go.Ev
end
section
namespace Go.Ev
variable [GTab] {P : Program} {H : Heap} {nx : Nat} {o : Oper}
theorem jH {place : Nat → Option (Nat × Nat)} {ρ ρ2 : Operand → AVal} : ∀ (l : List (Nat × Operand)) (cells : List AVal),(∀ x,x ∈ l.map (·.2) → ρ x = ρ2 x) → jD place ρ cells l = jD place ρ2 cells l
 | [],_,_ => rfl
 | (i,x) :: rest,cells,h => by
  have h1 : ρ x = ρ2 x := h x (by simp)
  have h2 := fun c => jH (place := place) rest c (fun y hy => h y (by simp at hy ⊢; exact .inr hy))
  simp only [jD,h1,h2]
theorem zB {ρ ρ2 : Operand → AVal} {l : List Operand} (h : ∀ x,x ∈ l → ρ x = ρ2 x) : l.map ρ = l.map ρ2 := List.map_congr_left h
theorem wc {ρ ρ2 : Operand → AVal} {d : Nat} {x : Option Operand} (h : ∀ y,x = some y → ρ y = ρ2 y) : bnd d x ρ = bnd d x ρ2 := by
 cases x with
 | none => rfl
 | some y => unfold bnd; simp only [h y rfl]
theorem jj {op : Op} {ρ ρ2 : Operand → AVal} (h : ∀ x ∈ op.operands,ρ x = ρ2 x) : made P op ρ = made P op ρ2 := by
 unfold made
 cases op <;> simp only [Op.operands] at h <;> simp only []
 case box t x => unfold kU; rw [h x (by simp)]
 case buildSlice t n ps =>
  unfold zC
  have := fun pl c => jH (place := pl) (ρ := ρ) (ρ2 := ρ2) ps.toList c (fun x hx => h x (by simpa using hx))
  simp only [this]
 case makeSlice t l c => unfold jU; rw [h l (by simp),h c (by simp)]
theorem ya {c : Call} {ρ ρ2 : Operand → AVal} (h : ∀ x ∈ c.operands,ρ x = ρ2 x) : qG P c ρ H nx = qG P c ρ2 H nx := by
 have hargs : ∀ x,x ∈ c.args.toList → ρ x = ρ2 x := fun x hx => h x (by simp [Call.operands]; simp at hx; simp [hx])
 unfold qG
 cases hc : c.callee with
 | value f =>
  simp only [kv]
  rw [h f (by simp [Call.operands,hc]),zB hargs]
 | invoke r m =>
  simp only [jZ]
  rw [h r (by simp [Call.operands,hc]),zB hargs]
 | builtin b =>
  have hb : qy P b c.argTypes c.args ρ H nx = qy P b c.argTypes c.args ρ2 H nx := by
   unfold qy
   split
   ·rename_i hA; rw [hargs _ (by rw [hA]; simp)]
   ·rename_i x l hA; rw [hargs x (by rw [hA]; simp),zB (l := l) fun y hy => hargs y (by rw [hA]; simp [hy])]
   ·rename_i x l hA; rw [hargs x (by rw [hA]; simp),zB (l := l) fun y hy => hargs y (by rw [hA]; simp [hy])]
   ·rfl
   ·rfl
  cases b <;> simp only [] <;> first | exact hb | skip
  case copy =>
   unfold vB
   cases hT : c.argTypes.toList with
   | nil => rfl
   | cons dT tl =>
    cases hA : c.args.toList with
    | nil => rfl
    | cons d al =>
     cases al with
     | nil => rfl
     | cons s al =>
      cases al with
      | cons _ _ => rfl
      | nil =>
       rw [hA] at hargs
       simp only [hargs d (by simp),hargs s (by simp)]
  cases hT : c.argTypes.toList with
  | nil => rfl
  | cons sT tl =>
   cases tl with
   | nil => rfl
   | cons xT tl =>
    cases tl with
    | cons _ _ => rfl
    | nil =>
     cases hA : c.args.toList with
     | nil => rfl
     | cons s al =>
      cases al with
      | nil => rfl
      | cons x al =>
       cases al with
       | cons _ _ => rfl
       | nil =>
        rw [hA] at hargs
        simp only [hargs s (by simp),hargs x (by simp)]
theorem zP {ρ ρ2 : Operand → AVal} (h : ∀ x ∈ o.op.operands,ρ x = ρ2 x) : aop P o ρ H nx = aop P o ρ2 H nx := by
 have hm : qU P o.op ρ H nx = qU P o.op ρ2 H nx := by unfold qU; rw [jj h]
 unfold aop
 cases hop : o.op <;> rw [hop] at h hm <;> simp only [Op.operands] at h <;> simp only []
 case move x => unfold jm; rw [h x (by simp)]
 case assign x => unfold jm; rw [h x (by simp)]
 case pick c a b => unfold jz; rw [h c (by simp),h a (by simp),h b (by simp)]
 case load t a => unfold jl; rw [h a (by simp)]
 case store t a x => unfold jr; rw [h a (by simp),h x (by simp)]
 case nilCheck x => unfold zb; rw [h x (by simp)]
 case binOp op t x y _ => unfold zn; rw [h x (by simp),h y (by simp)]
 case unOp op t x => unfold opUn; rw [h x (by simp)]
 case convert s d x => unfold z5; rw [h x (by simp)]
 case makeInterface t x => unfold qB; rw [h x (by simp)]
 case makeFunc fn a b => unfold zJ; rw [zB (l := a.toList) (fun x hx => h x (by simp at hx; simp [hx])),zB (l := b.toList) (fun x hx => h x (by simp at hx; simp [hx]))]
 case slice t x lo hi mx =>
  unfold ju
  have h1 := fun d => wc (d := d) (x := lo) (ρ := ρ) (ρ2 := ρ2) (fun y e => h y (by subst e; simp))
  have h2 := fun d => wc (d := d) (x := hi) (ρ := ρ) (ρ2 := ρ2) (fun y e => h y (by subst e; simp))
  simp only [h x (by simp),h1,h2]
 case fieldAddr s x f => unfold qT; rw [h x (by simp)]
 case field s x f => unfold zZ; rw [h x (by simp)]
 case indexAddr t x i => unfold qN; rw [h x (by simp),h i (by simp)]
 case index t x i => unfold zN; rw [h x (by simp),h i (by simp)]
 case typeAssert x _ a ok => unfold zT; rw [h x (by simp)]
 case extract t i => unfold zy; rw [h t (by simp)]
 case build t ps =>
  unfold jb vc
  have := fun pl c => jH (place := pl) (ρ := ρ) (ρ2 := ρ2) ps.toList c (fun x hx => h x (by simpa using hx))
  simp only [this]
 case alloc t => exact hm
 case box t x => exact hm
 case buildSlice t n ps => exact hm
 case makeSlice t l c => exact hm
 case call c => exact ya h
 case defer c =>
  unfold jV
  have hargs : ∀ x,x ∈ c.args.toList → ρ x = ρ2 x := fun x hx => h x (by simp [Call.operands]; simp at hx; simp [hx])
  cases hc : c.callee with
  | value f => simp only [kQ]; rw [h f (by simp [Call.operands,hc]),zB hargs]
  | invoke r m => rfl
  | builtin b => rfl
 case panic x => unfold ku; rw [h x (by simp)]
 case lookup t x i ok => unfold wb; rw [h x (by simp),h i (by simp)]
 case makeMap t r => rfl
 case mapUpdate t m k x => unfold ji; rw [h m (by simp),h k (by simp),h x (by simp)]
 case insert t m k x => unfold ji; rw [h m (by simp),h k (by simp),h x (by simp)]
 all_goals rfl
theorem vm {ρ : Operand → AVal} {H H' : Heap} {nx nx' : Nat} {v : AVal} (hc : cls o.op = 0) (h : aop P o ρ H nx = some (.val v H' nx')) : H' = H ∧ nx' = nx := by
 unfold aop at h
 cases hop : o.op <;> rw [hop] at h hc <;> simp only [] at h <;> try (cases hc; done)
 case move => unfold jm at h; cases h; exact ⟨rfl,rfl⟩
 case assign => unfold jm at h; cases h; exact ⟨rfl,rfl⟩
 case call c =>
  simp only [cls] at hc
  unfold qG at h
  cases hce : c.callee with
  | value f => rw [hce] at hc; cases hc
  | invoke r m => rw [hce] at hc; cases hc
  | builtin b =>
   rw [hce] at hc h
   cases b <;> simp only [] at hc h <;> try (cases hc; done)
   all_goals
    unfold qy at h
    split at h <;> try (cases h; done)
    all_goals (repeat' (split at h)) <;> first | (cases h; done) | (cases h; exact ⟨rfl,rfl⟩) | (rw [qp] at h; cases h; exact ⟨rfl,rfl⟩)
 all_goals first
  | (have h' : wS ρ H nx = some (.val v H' nx') := h; cases h'; done)
  | (unfold jz at h) | (unfold jl at h) | (unfold zb at h) | (unfold zn at h) | (unfold opUn at h) | (unfold z5 at h) | (unfold qB at h) | (unfold zJ at h) | (unfold ju at h)
  | (unfold qT at h) | (unfold zZ at h) | (unfold qN at h) | (unfold zN at h) | (unfold zT at h) | (unfold zy at h) | (unfold jb at h) | (unfold wb at h)
 all_goals (repeat' (split at h)) <;> first | (cases h; done) | (cases h; exact ⟨rfl,rfl⟩) | (rw [qb] at h; cases h; exact ⟨rfl,rfl⟩) | (rw [qp] at h; cases h; exact ⟨rfl,rfl⟩) | (rw [qb,qb] at h; cases h; exact ⟨rfl,rfl⟩) | skip
noncomputable def beqL (n : Nat) (l m : List AVal) : Bool :=
 List.rec (motive := fun _ => List AVal → Bool) (fun m => List.rec (motive := fun _ => Bool) true (fun _ _ _ => false) m)
   (fun a _ ih m => List.rec (motive := fun _ => Bool) false (fun b t _ => Bool.rec false (ih t) (beqA n a b)) m) l m
theorem ZZ {n : Nat} (hn : ∀ a b,beqA n a b = true → a = b) : ∀ l m,beqL n l m = true → l = m
 | [],[],_ => rfl
 | [],_ :: _,h => by cases h
 | _ :: _,[],h => by cases h
 | a :: l,b :: m,h => by
  have h' : (Bool.rec false (beqL n l m) (beqA n a b) : Bool) = true := h
  cases e : beqA n a b <;> rw [e] at h'
  ·cases h'
  ·rw [hn a b e,ZZ hn l m h']
theorem Xg {x y : Bool} (h : (Bool.rec (bnot y) y x : Bool) = true) : x = y := by
 cases x <;> cases y <;> first | rfl | cases h
theorem wU : ∀ n a b,beqA n a b = true → a = b
 | 0,_,_,h => by cases h
 | n + 1,a,b,h => by
  have ih := wU n
  have hL : ∀ l m,beqL n l m = true → l = m := ZZ ih
  unfold beqA at h
  simp only [] at h
  split at h <;> first | (cases h; done) | rfl | skip
  ·rw [Xg h]
  ·split at h <;> try (cases h; done)
   rename_i hk
   rw [of_decide_eq_true hk,eq_of_beq ((kJ _ _).symm.trans h)]
  ·split at h <;> try (cases h; done)
   rename_i hk
   rw [Nat.eq_of_beq_eq_true hk,Nat.eq_of_beq_eq_true h]
  ·split at h <;> try (cases h; done)
   rename_i hk
   rw [Nat.eq_of_beq_eq_true hk,Nat.eq_of_beq_eq_true h]
  ·split at h <;> try (cases h; done)
   rename_i h1 h2 h3 h4 h5
   rw [Nat.eq_of_beq_eq_true h1,Nat.eq_of_beq_eq_true h2,Nat.eq_of_beq_eq_true h3,Nat.eq_of_beq_eq_true h4,Xg h5]
  ·rw [Nat.eq_of_beq_eq_true h]
  ·split at h <;> try (cases h; done)
   rename_i h1 h2
   rw [Nat.eq_of_beq_eq_true h1,hL _ _ h2,hL _ _ h]
  ·split at h <;> try (cases h; done)
   rename_i h1
   rw [Nat.eq_of_beq_eq_true h1,ih _ _ h]
  ·rw [hL _ _ h]
  ·rw [hL _ _ h]
  ·split at h <;> try (cases h; done)
   rename_i hk hx
   rw [of_decide_eq_true hk,Nat.eq_of_beq_eq_true hx,Nat.eq_of_beq_eq_true h]
  ·split at h <;> try (cases h; done)
   rename_i hk
   rw [Nat.eq_of_beq_eq_true hk,Nat.eq_of_beq_eq_true h]
  ·rw [Nat.eq_of_beq_eq_true h]
end Go.Ev
end
