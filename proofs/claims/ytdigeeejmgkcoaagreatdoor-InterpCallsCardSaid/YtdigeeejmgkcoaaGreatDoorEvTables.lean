/-
  Own work. Tables of 16 places, and trees of them: what an abstract state is kept in. Written by program (genN16.py). No Go in sight.
-/
namespace Go.Ev


structure N16 (α : Type) where
  (f0 f1 f2 f3 f4 f5 f6 f7 f8 f9 f10 f11 f12 f13 f14 f15 : α)

inductive Ix | i0 | i1 | i2 | i3 | i4 | i5 | i6 | i7 | i8 | i9 | i10 | i11 | i12 | i13 | i14 | i15

namespace N16
variable {α : Type}
noncomputable def set0 (v : α) (e : N16 α) : N16 α := N16.rec (motive := fun _ => α → N16 α) (fun _ a1 a2 a3 a4 a5 a6 a7 a8 a9 a10 a11 a12 a13 a14 a15 v => N16.mk v a1 a2 a3 a4 a5 a6 a7 a8 a9 a10 a11 a12 a13 a14 a15) e v
noncomputable def set1 (v : α) (e : N16 α) : N16 α := N16.rec (motive := fun _ => α → N16 α) (fun a0 _ a2 a3 a4 a5 a6 a7 a8 a9 a10 a11 a12 a13 a14 a15 v => N16.mk a0 v a2 a3 a4 a5 a6 a7 a8 a9 a10 a11 a12 a13 a14 a15) e v
noncomputable def set2 (v : α) (e : N16 α) : N16 α := N16.rec (motive := fun _ => α → N16 α) (fun a0 a1 _ a3 a4 a5 a6 a7 a8 a9 a10 a11 a12 a13 a14 a15 v => N16.mk a0 a1 v a3 a4 a5 a6 a7 a8 a9 a10 a11 a12 a13 a14 a15) e v
noncomputable def set3 (v : α) (e : N16 α) : N16 α := N16.rec (motive := fun _ => α → N16 α) (fun a0 a1 a2 _ a4 a5 a6 a7 a8 a9 a10 a11 a12 a13 a14 a15 v => N16.mk a0 a1 a2 v a4 a5 a6 a7 a8 a9 a10 a11 a12 a13 a14 a15) e v
noncomputable def set4 (v : α) (e : N16 α) : N16 α := N16.rec (motive := fun _ => α → N16 α) (fun a0 a1 a2 a3 _ a5 a6 a7 a8 a9 a10 a11 a12 a13 a14 a15 v => N16.mk a0 a1 a2 a3 v a5 a6 a7 a8 a9 a10 a11 a12 a13 a14 a15) e v
noncomputable def set5 (v : α) (e : N16 α) : N16 α := N16.rec (motive := fun _ => α → N16 α) (fun a0 a1 a2 a3 a4 _ a6 a7 a8 a9 a10 a11 a12 a13 a14 a15 v => N16.mk a0 a1 a2 a3 a4 v a6 a7 a8 a9 a10 a11 a12 a13 a14 a15) e v
noncomputable def set6 (v : α) (e : N16 α) : N16 α := N16.rec (motive := fun _ => α → N16 α) (fun a0 a1 a2 a3 a4 a5 _ a7 a8 a9 a10 a11 a12 a13 a14 a15 v => N16.mk a0 a1 a2 a3 a4 a5 v a7 a8 a9 a10 a11 a12 a13 a14 a15) e v
noncomputable def set7 (v : α) (e : N16 α) : N16 α := N16.rec (motive := fun _ => α → N16 α) (fun a0 a1 a2 a3 a4 a5 a6 _ a8 a9 a10 a11 a12 a13 a14 a15 v => N16.mk a0 a1 a2 a3 a4 a5 a6 v a8 a9 a10 a11 a12 a13 a14 a15) e v
noncomputable def set8 (v : α) (e : N16 α) : N16 α := N16.rec (motive := fun _ => α → N16 α) (fun a0 a1 a2 a3 a4 a5 a6 a7 _ a9 a10 a11 a12 a13 a14 a15 v => N16.mk a0 a1 a2 a3 a4 a5 a6 a7 v a9 a10 a11 a12 a13 a14 a15) e v
noncomputable def set9 (v : α) (e : N16 α) : N16 α := N16.rec (motive := fun _ => α → N16 α) (fun a0 a1 a2 a3 a4 a5 a6 a7 a8 _ a10 a11 a12 a13 a14 a15 v => N16.mk a0 a1 a2 a3 a4 a5 a6 a7 a8 v a10 a11 a12 a13 a14 a15) e v
noncomputable def set10 (v : α) (e : N16 α) : N16 α := N16.rec (motive := fun _ => α → N16 α) (fun a0 a1 a2 a3 a4 a5 a6 a7 a8 a9 _ a11 a12 a13 a14 a15 v => N16.mk a0 a1 a2 a3 a4 a5 a6 a7 a8 a9 v a11 a12 a13 a14 a15) e v
noncomputable def set11 (v : α) (e : N16 α) : N16 α := N16.rec (motive := fun _ => α → N16 α) (fun a0 a1 a2 a3 a4 a5 a6 a7 a8 a9 a10 _ a12 a13 a14 a15 v => N16.mk a0 a1 a2 a3 a4 a5 a6 a7 a8 a9 a10 v a12 a13 a14 a15) e v
noncomputable def set12 (v : α) (e : N16 α) : N16 α := N16.rec (motive := fun _ => α → N16 α) (fun a0 a1 a2 a3 a4 a5 a6 a7 a8 a9 a10 a11 _ a13 a14 a15 v => N16.mk a0 a1 a2 a3 a4 a5 a6 a7 a8 a9 a10 a11 v a13 a14 a15) e v
noncomputable def set13 (v : α) (e : N16 α) : N16 α := N16.rec (motive := fun _ => α → N16 α) (fun a0 a1 a2 a3 a4 a5 a6 a7 a8 a9 a10 a11 a12 _ a14 a15 v => N16.mk a0 a1 a2 a3 a4 a5 a6 a7 a8 a9 a10 a11 a12 v a14 a15) e v
noncomputable def set14 (v : α) (e : N16 α) : N16 α := N16.rec (motive := fun _ => α → N16 α) (fun a0 a1 a2 a3 a4 a5 a6 a7 a8 a9 a10 a11 a12 a13 _ a15 v => N16.mk a0 a1 a2 a3 a4 a5 a6 a7 a8 a9 a10 a11 a12 a13 v a15) e v
noncomputable def set15 (v : α) (e : N16 α) : N16 α := N16.rec (motive := fun _ => α → N16 α) (fun a0 a1 a2 a3 a4 a5 a6 a7 a8 a9 a10 a11 a12 a13 a14 _ v => N16.mk a0 a1 a2 a3 a4 a5 a6 a7 a8 a9 a10 a11 a12 a13 a14 v) e v
noncomputable def get (i : Ix) : N16 α → α := Ix.rec f0 f1 f2 f3 f4 f5 f6 f7 f8 f9 f10 f11 f12 f13 f14 f15 i
noncomputable def set (i : Ix) : α → N16 α → N16 α := Ix.rec set0 set1 set2 set3 set4 set5 set6 set7 set8 set9 set10 set11 set12 set13 set14 set15 i
def all (v : α) : N16 α := ⟨v, v, v, v, v, v, v, v, v, v, v, v, v, v, v, v⟩
theorem get_all (v : α) (i : Ix) : get i (all v) = v := by cases i <;> rfl
theorem get_set_same (i : Ix) (v : α) (e : N16 α) : get i (set i v e) = v := by cases e; cases i <;> rfl
theorem get_set_ne (i j : Ix) (v : α) (e : N16 α) (h : i ≠ j) : get j (set i v e) = get j e := by
  cases e; cases i <;> cases j <;> first | rfl | exact absurd rfl h
end N16

/-- The place of a number below 16. -/
noncomputable def ix (n : Nat) : Ix :=
  (Bool.rec (Bool.rec (Bool.rec (Bool.rec .i15 .i14 (Nat.ble (Nat.succ n) 15)) (Bool.rec .i13 .i12 (Nat.ble (Nat.succ n) 13)) (Nat.ble (Nat.succ n) 14)) (Bool.rec (Bool.rec .i11 .i10 (Nat.ble (Nat.succ n) 11)) (Bool.rec .i9 .i8 (Nat.ble (Nat.succ n) 9)) (Nat.ble (Nat.succ n) 10)) (Nat.ble (Nat.succ n) 12)) (Bool.rec (Bool.rec (Bool.rec .i7 .i6 (Nat.ble (Nat.succ n) 7)) (Bool.rec .i5 .i4 (Nat.ble (Nat.succ n) 5)) (Nat.ble (Nat.succ n) 6)) (Bool.rec (Bool.rec .i3 .i2 (Nat.ble (Nat.succ n) 3)) (Bool.rec .i1 .i0 (Nat.ble (Nat.succ n) 1)) (Nat.ble (Nat.succ n) 2)) (Nat.ble (Nat.succ n) 4)) (Nat.ble (Nat.succ n) 8))

theorem ix_inj {a b : Nat} (ha : a < 16) (hb : b < 16) (h : ix a = ix b) : a = b := by
  have key : ∀ a : Fin 16, ∀ b : Fin 16, ix a.val = ix b.val → a = b := by
    intro a b
    match a, b with
    | ⟨a, ha⟩, ⟨b, hb⟩ =>
      intro h
      have : a = 0 ∨ a = 1 ∨ a = 2 ∨ a = 3 ∨ a = 4 ∨ a = 5 ∨ a = 6 ∨ a = 7 ∨ a = 8 ∨ a = 9 ∨ a = 10 ∨ a = 11 ∨ a = 12 ∨ a = 13 ∨ a = 14 ∨ a = 15 := by omega
      have : b = 0 ∨ b = 1 ∨ b = 2 ∨ b = 3 ∨ b = 4 ∨ b = 5 ∨ b = 6 ∨ b = 7 ∨ b = 8 ∨ b = 9 ∨ b = 10 ∨ b = 11 ∨ b = 12 ∨ b = 13 ∨ b = 14 ∨ b = 15 := by omega
      rcases ‹a = 0 ∨ _› with rfl | rfl | rfl | rfl | rfl | rfl | rfl | rfl | rfl | rfl | rfl | rfl | rfl | rfl | rfl | rfl <;>
      rcases ‹b = 0 ∨ _› with rfl | rfl | rfl | rfl | rfl | rfl | rfl | rfl | rfl | rfl | rfl | rfl | rfl | rfl | rfl | rfl <;>
      first | rfl | (simp [ix] at h)
  have := key ⟨a, ha⟩ ⟨b, hb⟩ h
  exact Fin.mk.inj this

/-- The k-th digit of a number to the base 16. -/
noncomputable def dg (k n : Nat) : Ix := ix (Nat.mod (Nat.shiftRight n k) 16)

theorem dg_eq (k n : Nat) : dg k n = ix (n / 2 ^ k % 16) := by
  show ix ((n >>> k) % 16) = _
  rw [Nat.shiftRight_eq_div_pow]

theorem dg_inj {k a b : Nat} (h : dg k a = dg k b) : a / 2 ^ k % 16 = b / 2 ^ k % 16 := by
  rw [dg_eq, dg_eq] at h
  exact ix_inj (Nat.mod_lt _ (by decide)) (Nat.mod_lt _ (by decide)) h

/-! Trees of one, two, three and five levels. -/
section
variable {α : Type}
abbrev T2 (α : Type) := N16 (N16 α)
abbrev T3 (α : Type) := N16 (T2 α)
abbrev T5 (α : Type) := N16 (N16 (T3 α))
noncomputable def get2 (n : Nat) (t : T2 α) : α := N16.get (dg 0 n) (N16.get (dg 4 n) t)
noncomputable def set2 (n : Nat) (v : α) (t : T2 α) : T2 α := N16.set (dg 4 n) (N16.set (dg 0 n) v (N16.get (dg 4 n) t)) t
noncomputable def get3 (n : Nat) (t : T3 α) : α := get2 n (N16.get (dg 8 n) t)
noncomputable def set3 (n : Nat) (v : α) (t : T3 α) : T3 α := N16.set (dg 8 n) (set2 n v (N16.get (dg 8 n) t)) t
noncomputable def get5 (n : Nat) (t : T5 α) : α := get3 n (N16.get (dg 12 n) (N16.get (dg 16 n) t))
noncomputable def set5 (n : Nat) (v : α) (t : T5 α) : T5 α :=
  N16.set (dg 16 n) (N16.set (dg 12 n) (set3 n v (N16.get (dg 12 n) (N16.get (dg 16 n) t))) (N16.get (dg 16 n) t)) t
def all2 (v : α) : T2 α := .all (.all v)
def all3 (v : α) : T3 α := .all (all2 v)
def all5 (v : α) : T5 α := .all (.all (all3 v))

theorem get2_all (n : Nat) (v : α) : get2 n (all2 v) = v := by simp [get2, all2, N16.get_all]
theorem get3_all (n : Nat) (v : α) : get3 n (all3 v) = v := by simp [get3, all3, N16.get_all, get2_all]
theorem get5_all (n : Nat) (v : α) : get5 n (all5 v) = v := by simp [get5, all5, N16.get_all, get3_all]
theorem get2_set2_same (n : Nat) (v : α) (t : T2 α) : get2 n (set2 n v t) = v := by simp [get2, set2, N16.get_set_same]
theorem get3_set3_same (n : Nat) (v : α) (t : T3 α) : get3 n (set3 n v t) = v := by simp [get3, set3, N16.get_set_same, get2_set2_same]
theorem get5_set5_same (n : Nat) (v : α) (t : T5 α) : get5 n (set5 n v t) = v := by simp [get5, set5, N16.get_set_same, get3_set3_same]
/-- Two numbers whose last 8, 12, 20 bits are not the same. -/
theorem get2_set2_ne (n m : Nat) (v : α) (t : T2 α) (h : n % 256 ≠ m % 256) : get2 m (set2 n v t) = get2 m t := by
  unfold get2 set2
  by_cases h1 : dg 4 n = dg 4 m
  · rw [← h1, N16.get_set_same, N16.get_set_ne]
    intro h0
    have e1 := dg_inj h1
    have e0 := dg_inj h0
    simp at e0 e1
    omega
  · rw [N16.get_set_ne _ _ _ _ h1]
theorem get3_set3_ne (n m : Nat) (v : α) (t : T3 α) (h : n % 4096 ≠ m % 4096) : get3 m (set3 n v t) = get3 m t := by
  unfold get3 set3
  by_cases h1 : dg 8 n = dg 8 m
  · rw [← h1, N16.get_set_same, get2_set2_ne]
    have e1 := dg_inj h1
    simp at e1
    omega
  · rw [N16.get_set_ne _ _ _ _ h1]
theorem get5_set5_ne (n m : Nat) (v : α) (t : T5 α) (h : n % 1048576 ≠ m % 1048576) : get5 m (set5 n v t) = get5 m t := by
  unfold get5 set5
  by_cases h2 : dg 16 n = dg 16 m
  · rw [← h2, N16.get_set_same]
    by_cases h1 : dg 12 n = dg 12 m
    · rw [← h1, N16.get_set_same, get3_set3_ne]
      have e1 := dg_inj h1
      have e2 := dg_inj h2
      simp at e1 e2
      omega
    · rw [N16.get_set_ne _ _ _ _ h1]
  · rw [N16.get_set_ne _ _ _ _ h2]
end
end Go.Ev
