/-
  Own work. Abstract values, abstract heaps, and what they say of a world.
-/
import Derived.Test.YtdigeeejmgkcoaaGreatDoorEvTables
import Derived.Test.YtdigeeejmgkcoaaGreatDoorEvStr
import Derived.Laws.World
import Derived.Laws.Cells
import Derived.Orders
import Derived.Recover
namespace Go.Ev

/-- An abstract value. 'und': nothing is known. A block's number is the state's own. -/
inductive AVal where
  | und
  | bool (b : Bool)
  | int (k : IntKind) (n : Int)
  | str (len x : Nat)
  | ptr (b off : Nat)
  | nilPtr
  | slice (b off len esz : Nat) (full : Bool)
  | nilSlice
  | map (b : Nat)
  | nilMap
  | func (fn : Fn) (first captured : List AVal)
  | nilFunc
  | iface (t : TypeId) (v : AVal)
  | nilIface
  | agg (cs : List AVal)
  | tuple (vs : List AVal)
  | anyInt (k : IntKind) (m i : Nat)
  | anyBool
  | gptr (g off : Nat)
  | anyStr (i : Nat)

/-- A number brought within 0 to m - 1. -/
def pickI (n : Int) (m : Nat) : Int := if n.tmod m < 0 then n.tmod m + m else n.tmod m

/-- Two numbers are the same to 64 bits. -/
def Same64 (a b : Int) : Prop := ∃ q : Int, a = b + q * 18446744073709551616

/-- What is known ahead: package-level variables' cells, at the start and ever after; symbols: numbers and texts that are not known, and what is known of them. -/
class GTab where
  tab : Nat → Option (List AVal)
  val : Nat → Int := fun _ => 0
  blk : Nat → Option Obj := fun _ => none
  txt : Nat → ByteArray := fun _ => .empty
  cat : Nat → Nat → Nat → Option Nat := fun _ _ _ => none
  catL : Nat → Nat → Nat → Option Nat := fun _ _ _ => none
  con : Int → Option Nat := fun _ => none
  lit : Nat → Option Int := fun _ => none
  add : Nat → Nat → Option Nat := fun _ _ => none
  sub : Nat → Nat → Option Nat := fun _ _ => none
  mul : Nat → Nat → Option Nat := fun _ _ => none
  quo : Nat → Nat → Option Nat := fun _ _ => none
  rem : Nat → Nat → Option Nat := fun _ _ => none
  eq : Nat → Nat → Option Bool := fun _ _ => none
  lt : Nat → Nat → Option Bool := fun _ _ => none
  catOK : ∀ i n x r, cat i n x = some r → txt r = txt i ++ dec n x ∧ (txt i).size + n ≤ 9223372036854775807 := by intro i n x r h; cases h
  catLOK : ∀ n x i r, catL n x i = some r → txt r = dec n x ++ txt i ∧ n + (txt i).size ≤ 9223372036854775807 := by intro i n x r h; cases h
  conOK : ∀ n i, con n = some i → Same64 n (val i) := by intro n i h; cases h
  litOK : ∀ i n, lit i = some n → Same64 n (val i) := by intro i n h; cases h
  addOK : ∀ i j r, add i j = some r → Same64 (val i + val j) (val r) := by intro i j r h; cases h
  subOK : ∀ i j r, sub i j = some r → Same64 (val i - val j) (val r) := by intro i j r h; cases h
  mulOK : ∀ i j r, mul i j = some r → Same64 (val i * val j) (val r) := by intro i j r h; cases h
  quoOK : ∀ i j r, quo i j = some r → IntKind.i64.wrap (val j) ≠ 0 ∧ Same64 ((IntKind.i64.wrap (val i)).tdiv (IntKind.i64.wrap (val j))) (val r) := by intro i j r h; cases h
  remOK : ∀ i j r, rem i j = some r → IntKind.i64.wrap (val j) ≠ 0 ∧ Same64 ((IntKind.i64.wrap (val i)).tmod (IntKind.i64.wrap (val j))) (val r) := by intro i j r h; cases h
  eqOK : ∀ i j b, eq i j = some b → (b = true ↔ Same64 (val i) (val j)) := by intro i j b h; cases h
  ltOK : ∀ i j b, lt i j = some b → b = decide (IntKind.i64.wrap (val i) < IntKind.i64.wrap (val j)) := by intro i j b h; cases h

variable [GTab]
set_option linter.unusedSectionVars false

/-- A number that is not known: m = 65536: the symbol i; else Pick(n, m) = i; m = 0: nothing is known of it. -/
def AnyOK (k : IntKind) (m i : Nat) (n : Int) : Prop := if m = 65536 then n = k.wrap (GTab.val i) else (m ≠ 0 → pickI n m = (i : Int))

/-- Where the blocks of a state lie: the block of the world, and how many cells it has. -/
abbrev Sg := Nat → Option (Nat × Nat)

mutual
inductive Den (σ : Sg) : AVal → Value → Prop
  | und (v : Value) : Den σ .und v
  | bool (b : Bool) : Den σ (.bool b) (.bool b)
  | int (k : IntKind) (n : Int) : Den σ (.int k n) (.int k n)
  | str (n x : Nat) (h : x < 256 ^ n) : Den σ (.str n x) (.string (dec n x))
  | ptr {b off cb sz : Nat} (h : σ b = some (cb, sz)) : Den σ (.ptr b off) (.pointer (some ⟨cb, off, none⟩))
  | nilPtr : Den σ .nilPtr (.pointer none)
  | slice {b off len esz cb sz cap : Nat} {full : Bool} (h : σ b = some (cb, sz)) (h1 : len ≤ cap) (h2 : off + cap * esz ≤ sz) (h3 : full = true → cap = len) :
      Den σ (.slice b off len esz full) (.slice (some ⟨cb, off, none⟩) len cap)
  | slice0 {b off off' esz cb sz : Nat} {full : Bool} (h : σ b = some (cb, sz)) : Den σ (.slice b off 0 esz full) (.slice (some ⟨cb, off', none⟩) 0 0)
  | nilSlice : Den σ .nilSlice (.slice none 0 0)
  | map {b cb sz : Nat} (h : σ b = some (cb, sz)) : Den σ (.map b) (.map (some cb))
  | nilMap : Den σ .nilMap (.map none)
  | func {fn : Fn} {a b : List AVal} {a' b' : List Value} (h1 : DenL σ a a') (h2 : DenL σ b b') : Den σ (.func fn a b) (.func fn ⟨a'⟩ ⟨b'⟩)
  | nilFunc : Den σ .nilFunc .nilFunc
  | iface {t : TypeId} {v : AVal} {v' : Value} (h : Den σ v v') : Den σ (.iface t v) (.iface t v')
  | nilIface : Den σ .nilIface .nilIface
  | agg {a : List AVal} {a' : List Value} (h : DenL σ a a') : Den σ (.agg a) (.agg ⟨a'⟩)
  | tuple {a : List AVal} {a' : List Value} (h : DenL σ a a') : Den σ (.tuple a) (.tuple ⟨a'⟩)
  | anyInt (k : IntKind) (m i : Nat) (n : Int) (h : AnyOK k m i n) : Den σ (.anyInt k m i) (.int k n)
  | anyBool (b : Bool) : Den σ .anyBool (.bool b)
  | gptr (g off : Nat) : Den σ (.gptr g off) (.pointer (some ⟨g, off, none⟩))
  | anyStr (i : Nat) : Den σ (.anyStr i) (.string (GTab.txt i))
inductive DenL (σ : Sg) : List AVal → List Value → Prop
  | nil : DenL σ [] []
  | cons {v : AVal} {v' : Value} {l : List AVal} {l' : List Value} (h : Den σ v v') (t : DenL σ l l') : DenL σ (v :: l) (v' :: l')
end

mutual
theorem Den.mono {σ σ' : Sg} (hs : ∀ b p, σ b = some p → σ' b = some p) : ∀ {v : AVal} {v' : Value}, Den σ v v' → Den σ' v v'
  | _, _, .und v => .und v
  | _, _, .bool b => .bool b
  | _, _, .int k n => .int k n
  | _, _, .str n x h => .str n x h
  | _, _, .ptr h => .ptr (hs _ _ h)
  | _, _, .nilPtr => .nilPtr
  | _, _, .slice h h1 h2 h3 => .slice (hs _ _ h) h1 h2 h3
  | _, _, .slice0 h => .slice0 (hs _ _ h)
  | _, _, .nilSlice => .nilSlice
  | _, _, .map h => .map (hs _ _ h)
  | _, _, .nilMap => .nilMap
  | _, _, .func h1 h2 => .func (DenL.mono hs h1) (DenL.mono hs h2)
  | _, _, .nilFunc => .nilFunc
  | _, _, .iface h => .iface (Den.mono hs h)
  | _, _, .nilIface => .nilIface
  | _, _, .agg h => .agg (DenL.mono hs h)
  | _, _, .tuple h => .tuple (DenL.mono hs h)
  | _, _, .anyInt k m i n h => .anyInt k m i n h
  | _, _, .anyBool b => .anyBool b
  | _, _, .gptr g off => .gptr g off
  | _, _, .anyStr i => .anyStr i
theorem DenL.mono {σ σ' : Sg} (hs : ∀ b p, σ b = some p → σ' b = some p) : ∀ {v : List AVal} {v' : List Value}, DenL σ v v' → DenL σ' v v'
  | _, _, .nil => .nil
  | _, _, .cons h t => .cons (Den.mono hs h) (DenL.mono hs t)
end

theorem DenL.length {σ : Sg} : ∀ {l : List AVal} {l' : List Value}, DenL σ l l' → l.length = l'.length
  | _, _, .nil => rfl
  | _, _, .cons _ t => by simp [DenL.length t]

theorem DenL.append {σ : Sg} : ∀ {l : List AVal} {l' : List Value} {m : List AVal} {m' : List Value}, DenL σ l l' → DenL σ m m' → DenL σ (l ++ m) (l' ++ m')
  | _, _, _, _, .nil, h => h
  | _, _, _, _, .cons h t, h' => .cons h (DenL.append t h')

theorem DenL.get {σ : Sg} : ∀ {l : List AVal} {l' : List Value}, DenL σ l l' → ∀ (i : Nat) (v : AVal), l[i]? = some v → ∃ v', l'[i]? = some v' ∧ Den σ v v'
  | _, _, .nil, i, v, h => by simp at h
  | _, _, .cons h t, 0, v, e => by simp at e; subst e; exact ⟨_, by simp, h⟩
  | _, _, .cons h t, i + 1, v, e => by simp at e; simpa using DenL.get t i v e

theorem DenL.drop {σ : Sg} : ∀ {l : List AVal} {l' : List Value}, DenL σ l l' → ∀ n, DenL σ (l.drop n) (l'.drop n)
  | _, _, .nil, n => by simp; exact .nil
  | _, _, .cons h t, 0 => .cons h t
  | _, _, .cons h t, n + 1 => by simpa using DenL.drop t n

theorem DenL.take {σ : Sg} : ∀ {l : List AVal} {l' : List Value}, DenL σ l l' → ∀ n, DenL σ (l.take n) (l'.take n)
  | _, _, .nil, n => by simp; exact .nil
  | _, _, .cons h t, 0 => by simp; exact .nil
  | _, _, .cons h t, n + 1 => by simpa using DenL.cons h (DenL.take t n)

theorem DenL.of_get {σ : Sg} : ∀ {l : List AVal} {l' : List Value}, l.length = l'.length → (∀ (i : Nat) (v : AVal) (v' : Value), l[i]? = some v → l'[i]? = some v' → Den σ v v') → DenL σ l l'
  | [], [], _, _ => .nil
  | [], _ :: _, h, _ => by simp at h
  | _ :: _, [], h, _ => by simp at h
  | _ :: l, _ :: l', h, hh => .cons (hh 0 _ _ (by simp) (by simp)) (DenL.of_get (by simpa using h) fun i v v' e e' => hh (i + 1) v v' (by simpa using e) (by simpa using e'))

/-! ### Cells of a block -/

/-- The cells of a block: up to 16, 256, 4096. -/
inductive CT where
  | c1 (t : N16 AVal)
  | c2 (t : T2 AVal)
  | c3 (t : T3 AVal)

namespace CT
def cap : CT → Nat
  | .c1 _ => 16
  | .c2 _ => 256
  | .c3 _ => 4096

noncomputable def get (i : Nat) (c : CT) : AVal :=
  CT.rec (fun t i => N16.get (dg 0 i) t) (fun t i => get2 i t) (fun t i => get3 i t) c i

noncomputable def set (i : Nat) (v : AVal) (c : CT) : CT :=
  CT.rec (fun t i v => .c1 (N16.set (dg 0 i) v t)) (fun t i v => .c2 (set2 i v t)) (fun t i v => .c3 (set3 i v t)) c i v

theorem cap_set (i : Nat) (v : AVal) (c : CT) : (set i v c).cap = c.cap := by cases c <;> rfl

theorem get_set_same (i : Nat) (v : AVal) (c : CT) : get i (set i v c) = v := by
  cases c with
  | c1 t => exact N16.get_set_same _ _ _
  | c2 t => exact get2_set2_same _ _ _
  | c3 t => exact get3_set3_same _ _ _

theorem get_set_ne (i j : Nat) (v : AVal) (c : CT) (h : i ≠ j) (hi : i < c.cap) (hj : j < c.cap) : get j (set i v c) = get j c := by
  cases c with
  | c1 t =>
    refine N16.get_set_ne _ _ _ _ (fun e => h ?_)
    have := dg_inj e
    simp [cap] at *
    omega
  | c2 t => exact get2_set2_ne _ _ _ _ (by simp [cap] at *; omega)
  | c3 t => exact get3_set3_ne _ _ _ _ (by simp [cap] at *; omega)

/-- The i-th of a list; 'und' behind its end. -/
noncomputable def nth (l : List AVal) : Nat → AVal := List.rec (fun _ => .und) (fun v _ ih i => Nat.rec v (fun j _ => ih j) i) l

theorem nth_eq : ∀ (l : List AVal) (i : Nat), nth l i = l.getD i .und
  | [], _ => by simp [nth]
  | v :: l, 0 => rfl
  | v :: l, i + 1 => by
    show nth l i = _
    rw [nth_eq l i]; simp

noncomputable def rest (l : List AVal) (n : Nat) : List AVal := Nat.rec (fun l => l) (fun _ ih l => List.rec [] (fun _ t _ => ih t) l) n l

theorem rest_eq : ∀ (n : Nat) (l : List AVal), rest l n = l.drop n
  | 0, l => rfl
  | n + 1, [] => by simp [rest]
  | n + 1, _ :: l => by
    show rest l n = _
    rw [rest_eq n l]; simp

noncomputable def of1 (l : List AVal) : N16 AVal :=
  ⟨nth l 0, nth l 1, nth l 2, nth l 3, nth l 4, nth l 5, nth l 6, nth l 7, nth l 8, nth l 9, nth l 10, nth l 11, nth l 12, nth l 13, nth l 14, nth l 15⟩
noncomputable def of2 (l : List AVal) : T2 AVal :=
  ⟨of1 l, of1 (rest l 16), of1 (rest l 32), of1 (rest l 48), of1 (rest l 64), of1 (rest l 80), of1 (rest l 96), of1 (rest l 112), of1 (rest l 128), of1 (rest l 144), of1 (rest l 160), of1 (rest l 176), of1 (rest l 192), of1 (rest l 208), of1 (rest l 224), of1 (rest l 240)⟩
noncomputable def of3 (l : List AVal) : T3 AVal :=
  ⟨of2 l, of2 (rest l 256), of2 (rest l 512), of2 (rest l 768), of2 (rest l 1024), of2 (rest l 1280), of2 (rest l 1536), of2 (rest l 1792), of2 (rest l 2048), of2 (rest l 2304), of2 (rest l 2560), of2 (rest l 2816), of2 (rest l 3072), of2 (rest l 3328), of2 (rest l 3584), of2 (rest l 3840)⟩

theorem ix_cases {a : Nat} (h : a < 16) (p : Nat → Prop) (h0 : p 0) (h1 : p 1) (h2 : p 2) (h3 : p 3) (h4 : p 4) (h5 : p 5) (h6 : p 6) (h7 : p 7) (h8 : p 8) (h9 : p 9) (h10 : p 10) (h11 : p 11) (h12 : p 12) (h13 : p 13) (h14 : p 14) (h15 : p 15) : p a := by
  have : a = 0 ∨ a = 1 ∨ a = 2 ∨ a = 3 ∨ a = 4 ∨ a = 5 ∨ a = 6 ∨ a = 7 ∨ a = 8 ∨ a = 9 ∨ a = 10 ∨ a = 11 ∨ a = 12 ∨ a = 13 ∨ a = 14 ∨ a = 15 := by omega
  rcases this with rfl | rfl | rfl | rfl | rfl | rfl | rfl | rfl | rfl | rfl | rfl | rfl | rfl | rfl | rfl | rfl <;> assumption

theorem get_of1 (l : List AVal) (a : Nat) (h : a < 16) : N16.get (ix a) (of1 l) = l.getD a .und := by
  refine ix_cases h (fun a => N16.get (ix a) (of1 l) = l.getD a .und) ?_ ?_ ?_ ?_ ?_ ?_ ?_ ?_ ?_ ?_ ?_ ?_ ?_ ?_ ?_ ?_ <;> exact nth_eq l _

theorem getD_drop (l : List AVal) (n i : Nat) : (l.drop n).getD i .und = l.getD (n + i) .und := by simp [List.getD]

theorem get_of2 (l : List AVal) (i : Nat) (h : i < 256) : get2 i (of2 l) = l.getD i .und := by
  unfold get2
  rw [dg_eq 0, dg_eq 4]
  have ha : i / 2 ^ 4 % 16 < 16 := Nat.mod_lt _ (by decide)
  have hb : i / 2 ^ 0 % 16 < 16 := Nat.mod_lt _ (by decide)
  have key : ∀ a, a < 16 → N16.get (ix (i / 2 ^ 0 % 16)) (N16.get (ix a) (of2 l)) = l.getD (a * 16 + i / 2 ^ 0 % 16) .und := by
    intro a ha
    refine ix_cases ha (fun a => N16.get (ix (i / 2 ^ 0 % 16)) (N16.get (ix a) (of2 l)) = l.getD (a * 16 + i / 2 ^ 0 % 16) .und) ?_ ?_ ?_ ?_ ?_ ?_ ?_ ?_ ?_ ?_ ?_ ?_ ?_ ?_ ?_ ?_
    · rw [Nat.zero_mul, Nat.zero_add]; exact get_of1 l _ hb
    all_goals (refine (get_of1 (rest l _) _ hb).trans ?_; rw [rest_eq, getD_drop])
  rw [key _ ha]
  congr 1
  omega

theorem get_of3 (l : List AVal) (i : Nat) (h : i < 4096) : get3 i (of3 l) = l.getD i .und := by
  unfold get3
  rw [dg_eq 8]
  have ha : i / 2 ^ 8 % 16 < 16 := Nat.mod_lt _ (by decide)
  have hm : ∀ m : List AVal, get2 i (of2 m) = m.getD (i % 256) .und := by
    intro m
    have e : ∀ t : T2 AVal, get2 i t = get2 (i % 256) t := by
      intro t
      unfold get2
      rw [dg_eq 0, dg_eq 4, dg_eq 0, dg_eq 4]
      have e1 : i / 2 ^ 4 % 16 = i % 256 / 2 ^ 4 % 16 := by omega
      have e2 : i / 2 ^ 0 % 16 = i % 256 / 2 ^ 0 % 16 := by omega
      rw [e1, e2]
    rw [e]
    exact get_of2 m _ (Nat.mod_lt _ (by decide))
  have key : ∀ a, a < 16 → get2 i (N16.get (ix a) (of3 l)) = l.getD (a * 256 + i % 256) .und := by
    intro a ha
    refine ix_cases ha (fun a => get2 i (N16.get (ix a) (of3 l)) = l.getD (a * 256 + i % 256) .und) ?_ ?_ ?_ ?_ ?_ ?_ ?_ ?_ ?_ ?_ ?_ ?_ ?_ ?_ ?_ ?_
    · rw [Nat.zero_mul, Nat.zero_add]; exact hm l
    all_goals (refine (hm (rest l _)).trans ?_; rw [rest_eq, getD_drop])
  rw [key _ ha]
  congr 1
  omega

/-- The cells of a list of so many values (at most 4096). -/
noncomputable def ofL (n : Nat) (l : List AVal) : CT := Bool.rec (Bool.rec (.c3 (of3 l)) (.c2 (of2 l)) (Nat.ble n 256)) (.c1 (of1 l)) (Nat.ble n 16)

theorem ofL_cap (n : Nat) (l : List AVal) (h : n ≤ 4096) : n ≤ (ofL n l).cap := by
  unfold ofL
  cases h1 : Nat.ble n 16 with
  | true => exact Nat.le_of_ble_eq_true h1
  | false =>
    cases h2 : Nat.ble n 256 with
    | true => exact Nat.le_of_ble_eq_true h2
    | false => exact h

theorem get_ofL (n : Nat) (l : List AVal) (i : Nat) (h : n ≤ 4096) (hi : i < n) : get i (ofL n l) = l.getD i .und := by
  unfold ofL
  cases h1 : Nat.ble n 16 with
  | true =>
    have := Nat.le_of_ble_eq_true h1
    show N16.get (dg 0 i) (of1 l) = _
    rw [dg_eq]
    have e : i / 2 ^ 0 % 16 = i := by omega
    rw [e]
    exact get_of1 l i (by omega)
  | false =>
    cases h2 : Nat.ble n 256 with
    | true =>
      have := Nat.le_of_ble_eq_true h2
      exact get_of2 l i (by omega)
    | false => exact get_of3 l i (by omega)

/-- n cells from i on. -/
noncomputable def slab (c : CT) (n : Nat) : Nat → List AVal := Nat.rec (fun _ => []) (fun _ ih i => get i c :: ih (Nat.succ i)) n

theorem slab_succ (c : CT) (n i : Nat) : slab c (n + 1) i = get i c :: slab c n (i + 1) := rfl

theorem slab_length (c : CT) : ∀ (n i : Nat), (slab c n i).length = n
  | 0, _ => rfl
  | n + 1, i => by rw [slab_succ, List.length_cons, slab_length c n]

theorem slab_get (c : CT) : ∀ (n i j : Nat), j < n → (slab c n i)[j]? = some (get (i + j) c)
  | 0, _, _, h => by omega
  | n + 1, i, 0, _ => by simp [slab_succ]
  | n + 1, i, j + 1, h => by
    rw [slab_succ, List.getElem?_cons_succ, slab_get c n (i + 1) j (by omega)]
    congr 2
    omega

/-- Values laid from i on. -/
noncomputable def lay (l : List AVal) : Nat → CT → CT := List.rec (fun _ c => c) (fun v _ ih i c => ih (Nat.succ i) (set i v c)) l

theorem lay_cons (v : AVal) (l : List AVal) (i : Nat) (c : CT) : lay (v :: l) i c = lay l (i + 1) (set i v c) := rfl

theorem lay_cap : ∀ (l : List AVal) (i : Nat) (c : CT), (lay l i c).cap = c.cap
  | [], _, _ => rfl
  | v :: l, i, c => by rw [lay_cons, lay_cap l, cap_set]

theorem lay_get : ∀ (l : List AVal) (i : Nat) (c : CT) (j : Nat), i + l.length ≤ c.cap → j < c.cap →
    get j (lay l i c) = if i ≤ j ∧ j < i + l.length then l.getD (j - i) .und else get j c
  | [], i, c, j, _, _ => by
    have : ¬ (i ≤ j ∧ j < i + ([] : List AVal).length) := by simp
    rw [if_neg this]; rfl
  | v :: l, i, c, j, h, hj => by
    simp only [List.length_cons] at h
    rw [lay_cons, lay_get l (i + 1) (set i v c) j (by rw [cap_set]; omega) (by rw [cap_set]; exact hj)]
    by_cases h1 : i = j
    · subst h1
      rw [if_neg (by omega), get_set_same, if_pos (by simp)]
      simp
    · by_cases h2 : i + 1 ≤ j ∧ j < i + 1 + l.length
      · rw [if_pos h2, if_pos (by simp; omega)]
        have e : j - i = (j - (i + 1)) + 1 := by omega
        rw [e]; simp
      · rw [if_neg h2, get_set_ne _ _ _ _ h1 (by omega) hj, if_neg (by simp; omega)]

/-- Room for at least n cells. -/
noncomputable def widen (n : Nat) (c : CT) : CT :=
  Bool.rec (CT.rec (fun t => Bool.rec (.c3 (.set .i0 (.set .i0 t (.all (.all .und))) (all3 .und))) (.c2 (.set .i0 t (.all (.all .und)))) (Nat.ble n 256)) (fun t => .c3 (.set .i0 t (all3 .und))) (fun t => .c3 t) c) c (Nat.ble n (cap c))

theorem widen_cap (n : Nat) (c : CT) (h : n ≤ 4096) : n ≤ (widen n c).cap := by
  unfold widen
  cases h1 : Nat.ble n (cap c) with
  | true => exact Nat.le_of_ble_eq_true h1
  | false =>
    cases c with
    | c1 t =>
      show n ≤ (Bool.rec (motive := fun _ => CT) _ _ (Nat.ble n 256) : CT).cap
      cases h2 : Nat.ble n 256 with
      | true => exact Nat.le_of_ble_eq_true h2
      | false => exact h
    | c2 t => exact h
    | c3 t => exact h

theorem widen_get (n : Nat) (c : CT) (i : Nat) (hi : i < c.cap) : get i (widen n c) = get i c := by
  unfold widen
  cases h1 : Nat.ble n (cap c) with
  | true => rfl
  | false =>
    have e0 : ix 0 = .i0 := rfl
    cases c with
    | c1 t =>
      simp only [cap] at hi
      have a1 : dg 4 i = .i0 := by rw [dg_eq, ← e0]; congr 1; omega
      have a2 : dg 8 i = .i0 := by rw [dg_eq, ← e0]; congr 1; omega
      show get i (Bool.rec (motive := fun _ => CT) _ _ (Nat.ble n 256) : CT) = _
      cases h2 : Nat.ble n 256 with
      | true =>
        show get2 i (N16.set .i0 t (.all (.all .und))) = N16.get (dg 0 i) t
        unfold get2
        rw [a1, N16.get_set_same]
      | false =>
        show get3 i (N16.set .i0 (N16.set .i0 t (.all (.all .und))) (all3 .und)) = N16.get (dg 0 i) t
        unfold get3 get2
        rw [a2, N16.get_set_same, a1, N16.get_set_same]
    | c2 t =>
      simp only [cap] at hi
      have a2 : dg 8 i = .i0 := by rw [dg_eq, ← e0]; congr 1; omega
      show get3 i (N16.set .i0 t (all3 .und)) = get2 i t
      unfold get3
      rw [a2, N16.get_set_same]
    | c3 t => rfl

end CT
end Go.Ev
