/-
  Own work. Texts of a proof, laid together; no condition.
-/
import Derived.Laws.World
import Derived.Laws.Cells
import Derived.Orders
import Derived.Recover
import GoSem.Dispatch
import Derived.Laws.Strings
import Derived.Laws.Concat
import Derived.Lib.Strings
import Derived.IntWalk
import Derived.Laws.StructEq
import Derived.Laws.BytesString
import Derived.Laws.Append
import Derived.MapKept
import Derived.LoopN
import Derived.Tactics
set_option linter.unusedSectionVars false
set_option linter.unusedVariables false
set_option linter.unusedSimpArgs false
set_option maxRecDepth 1000000
section
namespace Go.Vs
inductive AVal where
 | und
 | bool (b : Bool)
 | int (k : IntKind) (n : Int)
 | str (s : List UInt8)
 | ptr (b off : Nat)
 | nilPtr
 | slice (b off len esz : Nat) (full : Bool)
 | nilSlice
 | map (b : Nat)
 | nilMap
 | func (fn : Fn) (first captured : List AVal)
 | nilFunc
 | iface (t : TypeId) (v : AVal)
 | nilIface
 | agg (cs : List AVal)
 | tuple (vs : List AVal)
 | gptr (g off : Nat)
 | gslice (g off len esz : Nat)
class GTab where
 tab : Nat → Option (List AVal)
 blk : Nat → Option Obj := fun _ => none
variable [GTab]
abbrev Sg := Nat → Option (Nat × Nat)
def txt (s : List UInt8) : ByteArray := ⟨s.toArray⟩
theorem txt_size (s : List UInt8) : (txt s).size = s.length := by show s.toArray.size = _; simp
theorem txt_data (s : List UInt8) : (txt s).data.toList = s := rfl
mutual
inductive Den (σ : Sg) : AVal → Value → Prop
 | und (v : Value) : Den σ .und v
 | bool (b : Bool) : Den σ (.bool b) (.bool b)
 | int (k : IntKind) (n : Int) : Den σ (.int k n) (.int k n)
 | str (s : List UInt8) : Den σ (.str s) (.string (txt s))
 | ptr {b off cb sz : Nat} (h : σ b = some (cb, sz)) : Den σ (.ptr b off) (.pointer (some ⟨cb, off, none⟩))
 | nilPtr : Den σ .nilPtr (.pointer none)
 | slice {b off len esz cb sz cap : Nat} {full : Bool} (h : σ b = some (cb, sz)) (h1 : len ≤ cap) (h2 : off + cap * esz ≤ sz) (h3 : full = true → cap = len) :
   Den σ (.slice b off len esz full) (.slice (some ⟨cb, off, none⟩) len cap)
 | slice0 {b off off' esz cb sz : Nat} {full : Bool} (h : σ b = some (cb, sz)) : Den σ (.slice b off 0 esz full) (.slice (some ⟨cb, off', none⟩) 0 0)
 | nilSlice : Den σ .nilSlice (.slice none 0 0)
 | map {b cb sz : Nat} (h : σ b = some (cb, sz)) : Den σ (.map b) (.map (some cb))
 | nilMap : Den σ .nilMap (.map none)
 | func {fn : Fn} {a b : List AVal} {a' b' : List Value} (h1 : DenL σ a a') (h2 : DenL σ b b') : Den σ (.func fn a b) (.func fn ⟨a'⟩ ⟨b'⟩)
 | nilFunc : Den σ .nilFunc .nilFunc
 | iface {t : TypeId} {v : AVal} {v' : Value} (h : Den σ v v') : Den σ (.iface t v) (.iface t v')
 | nilIface : Den σ .nilIface .nilIface
 | agg {a : List AVal} {a' : List Value} (h : DenL σ a a') : Den σ (.agg a) (.agg ⟨a'⟩)
 | tuple {a : List AVal} {a' : List Value} (h : DenL σ a a') : Den σ (.tuple a) (.tuple ⟨a'⟩)
 | gptr (g off : Nat) : Den σ (.gptr g off) (.pointer (some ⟨g, off, none⟩))
 | gslice {g off len esz cap : Nat} (h : len ≤ cap) : Den σ (.gslice g off len esz) (.slice (some ⟨g, off, none⟩) len cap)
 | gslice0 {g off esz cap : Nat} {a : Addr} : Den σ (.gslice g off 0 esz) (.slice (some a) 0 cap)
inductive DenL (σ : Sg) : List AVal → List Value → Prop
 | nil : DenL σ [] []
 | cons {v : AVal} {v' : Value} {l : List AVal} {l' : List Value} (h : Den σ v v') (t : DenL σ l l') : DenL σ (v :: l) (v' :: l')
end
mutual
theorem Den.mono {σ σ' : Sg} (hs : ∀ b p, σ b = some p → σ' b = some p) : ∀ {v : AVal} {v' : Value}, Den σ v v' → Den σ' v v'
 | _, _, .und v => .und v
 | _, _, .bool b => .bool b
 | _, _, .int k n => .int k n
 | _, _, .str s => .str s
 | _, _, .ptr h => .ptr (hs _ _ h)
 | _, _, .nilPtr => .nilPtr
 | _, _, .slice h h1 h2 h3 => .slice (hs _ _ h) h1 h2 h3
 | _, _, .slice0 h => .slice0 (hs _ _ h)
 | _, _, .nilSlice => .nilSlice
 | _, _, .map h => .map (hs _ _ h)
 | _, _, .nilMap => .nilMap
 | _, _, .func h1 h2 => .func (DenL.mono hs h1) (DenL.mono hs h2)
 | _, _, .nilFunc => .nilFunc
 | _, _, .iface h => .iface (Den.mono hs h)
 | _, _, .nilIface => .nilIface
 | _, _, .agg h => .agg (DenL.mono hs h)
 | _, _, .tuple h => .tuple (DenL.mono hs h)
 | _, _, .gptr g off => .gptr g off
 | _, _, .gslice h => .gslice h
 | _, _, .gslice0 => .gslice0
theorem DenL.mono {σ σ' : Sg} (hs : ∀ b p, σ b = some p → σ' b = some p) : ∀ {v : List AVal} {v' : List Value}, DenL σ v v' → DenL σ' v v'
 | _, _, .nil => .nil
 | _, _, .cons h t => .cons (Den.mono hs h) (DenL.mono hs t)
end
theorem DenL.length {σ : Sg} : ∀ {l : List AVal} {l' : List Value}, DenL σ l l' → l.length = l'.length
 | _, _, .nil => rfl
 | _, _, .cons _ t => by simp [DenL.length t]
theorem DenL.append {σ : Sg} : ∀ {l : List AVal} {l' : List Value} {m : List AVal} {m' : List Value}, DenL σ l l' → DenL σ m m' → DenL σ (l ++ m) (l' ++ m')
 | _, _, _, _, .nil, h => h
 | _, _, _, _, .cons h t, h' => .cons h (DenL.append t h')
theorem DenL.get {σ : Sg} : ∀ {l : List AVal} {l' : List Value}, DenL σ l l' → ∀ (i : Nat) (v : AVal), l[i]? = some v → ∃ v', l'[i]? = some v' ∧ Den σ v v'
 | _, _, .nil, i, v, h => by simp at h
 | _, _, .cons h t, 0, v, e => by simp at e; subst e; exact ⟨_, by simp, h⟩
 | _, _, .cons h t, i + 1, v, e => by simp at e; simpa using DenL.get t i v e
theorem DenL.drop {σ : Sg} : ∀ {l : List AVal} {l' : List Value}, DenL σ l l' → ∀ n, DenL σ (l.drop n) (l'.drop n)
 | _, _, .nil, n => by simp; exact .nil
 | _, _, .cons h t, 0 => .cons h t
 | _, _, .cons h t, n + 1 => by simpa using DenL.drop t n
theorem DenL.take {σ : Sg} : ∀ {l : List AVal} {l' : List Value}, DenL σ l l' → ∀ n, DenL σ (l.take n) (l'.take n)
 | _, _, .nil, n => by simp; exact .nil
 | _, _, .cons h t, 0 => by simp; exact .nil
 | _, _, .cons h t, n + 1 => by simpa using DenL.cons h (DenL.take t n)
theorem DenL.of_get {σ : Sg} : ∀ {l : List AVal} {l' : List Value}, l.length = l'.length → (∀ (i : Nat) (v : AVal) (v' : Value), l[i]? = some v → l'[i]? = some v' → Den σ v v') → DenL σ l l'
 | [], [], _, _ => .nil
 | [], _ :: _, h, _ => by simp at h
 | _ :: _, [], h, _ => by simp at h
 | _ :: l, _ :: l', h, hh => .cons (hh 0 _ _ (by simp) (by simp)) (DenL.of_get (by simpa using h) fun i v v' e e' => hh (i + 1) v v' (by simpa using e) (by simpa using e'))
abbrev CT := List AVal
namespace CT
def cap (c : CT) : Nat := c.length
def get (i : Nat) (c : CT) : AVal := c.getD i .und
def set (i : Nat) (v : AVal) (c : CT) : CT := List.set c i v
theorem cap_set (i : Nat) (v : AVal) (c : CT) : (set i v c).cap = c.cap := by simp [set, cap]
theorem get_set_same (i : Nat) (v : AVal) (c : CT) (h : i < c.cap) : get i (set i v c) = v := by
 simp only [cap] at h
 simp [get, set, List.getD, h]
theorem get_set_ne (i j : Nat) (v : AVal) (c : CT) (h : i ≠ j) : get j (set i v c) = get j c := by
 simp [get, set, List.getD, List.getElem?_set_ne h]
def ofL (n : Nat) (l : List AVal) : CT := l ++ List.replicate (n - l.length) .und
theorem ofL_cap (n : Nat) (l : List AVal) {lim : Nat} (_h : n ≤ lim) : n ≤ (ofL n l).cap := by simp [ofL, cap]; omega
theorem get_ofL (n : Nat) (l : List AVal) (i : Nat) {lim : Nat} (_h : n ≤ lim) (_hi : i < n) : get i (ofL n l) = l.getD i .und := by
 simp only [ofL, get, List.getD]
 by_cases h : i < l.length
 ·rw [List.getElem?_append_left h]
 ·rw [List.getElem?_append_right (by omega), List.getElem?_eq_none (by omega : l.length ≤ i), List.getElem?_replicate]
  split <;> rfl
theorem ofL_eq {n : Nat} {l : List AVal} (h : l.length = n) : ofL n l = l := by subst h; simp [ofL]
def slab (c : CT) (n i : Nat) : List AVal := (List.range n).map fun j => get (i + j) c
theorem slab_length (c : CT) (n i : Nat) : (slab c n i).length = n := by simp [slab]
theorem slab_get (c : CT) (n i j : Nat) (hj : j < n) : (slab c n i)[j]? = some (get (i + j) c) := by simp [slab, hj]
theorem slab_eq {c : CT} {n i : Nat} (h : i + n ≤ c.length) : slab c n i = (c.drop i).take n := by
 refine List.ext_getElem? fun j => ?_
 by_cases hj : j < n
 ·rw [slab_get c n i j hj, List.getElem?_take_of_lt hj, List.getElem?_drop]
  simp [get, List.getElem?_eq_getElem (show i + j < c.length by omega)]
 ·rw [List.getElem?_eq_none (by rw [slab_length]; omega), List.getElem?_eq_none (by simp; omega)]
def lay (l : List AVal) (i : Nat) (c : CT) : CT := match l with
 | [] => c
 | v :: l => lay l (i + 1) (set i v c)
theorem lay_cons (v : AVal) (l : List AVal) (i : Nat) (c : CT) : lay (v :: l) i c = lay l (i + 1) (set i v c) := rfl
theorem lay_cap : ∀ (l : List AVal) (i : Nat) (c : CT), (lay l i c).cap = c.cap
 | [], _, _ => rfl
 | v :: l, i, c => by rw [lay_cons, lay_cap l, cap_set]
theorem lay_get : ∀ (l : List AVal) (i : Nat) (c : CT) (j : Nat), i + l.length ≤ c.cap → j < c.cap →
  get j (lay l i c) = if i ≤ j ∧ j < i + l.length then l.getD (j - i) .und else get j c
 | [], i, c, j, _, _ => by
  have : ¬ (i ≤ j ∧ j < i + ([] : List AVal).length) := by simp
  rw [if_neg this]; rfl
 | v :: l, i, c, j, h, hj => by
  simp only [List.length_cons] at h
  rw [lay_cons, lay_get l (i + 1) (set i v c) j (by rw [cap_set]; omega) (by rw [cap_set]; exact hj)]
  by_cases h1 : i = j
  ·subst h1
   rw [if_neg (by omega), get_set_same _ _ _ (by omega), if_pos (by simp)]
   simp
  ·by_cases h2 : i + 1 ≤ j ∧ j < i + 1 + l.length
   ·rw [if_pos h2, if_pos (by simp; omega)]
    have e : j - i = (j - (i + 1)) + 1 := by omega
    rw [e]; simp
   ·rw [if_neg h2, get_set_ne _ _ _ _ h1, if_neg (by simp; omega)]
theorem lay_eq : ∀ {l : List AVal} {i : Nat} {c : CT}, i + l.length ≤ c.length → lay l i c = c.take i ++ l ++ c.drop (i + l.length)
 | [], i, c, _ => by simp [lay]
 | v :: l, i, c, h => by
  simp only [List.length_cons] at h
  rw [lay_cons, lay_eq (by simp [set]; omega)]
  have e1 : (set i v c).take (i + 1) = c.take i ++ [v] := by
   simp only [set]
   rw [List.take_add_one, List.take_set_of_le (by omega)]
   simp [show i < c.length by omega]
  have e2 : (set i v c).drop (i + 1 + l.length) = c.drop (i + 1 + l.length) := by
   simp only [set]; rw [List.drop_set_of_lt (by omega)]
  rw [e1, e2]
  simp [Nat.add_assoc, Nat.add_comm 1]
def widen (n : Nat) (c : CT) : CT := c ++ List.replicate (n - c.length) .und
theorem widen_cap (n : Nat) (c : CT) {lim : Nat} (_h : n ≤ lim) : n ≤ (widen n c).cap := by simp [widen, cap]; omega
theorem widen_get (n : Nat) (c : CT) (i : Nat) (_hi : i < c.cap) : get i (widen n c) = get i c := by
 simp only [widen, get, List.getD]
 by_cases h : i < c.length
 ·rw [List.getElem?_append_left h]
 ·rw [List.getElem?_append_right (by omega), List.getElem?_eq_none (by omega : c.length ≤ i), List.getElem?_replicate]
  split <;> rfl
end CT
end Go.Vs
end
section
namespace Go.Vs
variable [GTab]
structure AEnt where
 key : AVal
 val : AVal
 born : Nat
inductive AObj where
 | cells (n : Nat) (ct : CT) (olds : List Nat) (sup : Bool)
 | map (es : List AEnt) (clock : Nat)
 | iter (m since : Nat) (seen : List Nat) (last : Nat)
def AObj.olds : AObj → List Nat
 | .cells _ _ o _ => o
 | .map _ _ => []
 | .iter _ _ _ _ => []
def AObj.sup : AObj → Bool
 | .cells _ _ _ s => s
 | .map _ _ => false
 | .iter _ _ _ _ => false
abbrev Heap := Nat → Option AObj
def get5 (b : Nat) (H : Heap) : Option AObj := H b
def set5 (b : Nat) (x : Option AObj) (H : Heap) : Heap := fun c => if c = b then x else H c
def all5 (x : Option AObj) : Heap := fun _ => x
theorem get5_set5_same (b : Nat) (x : Option AObj) (H : Heap) : get5 b (set5 b x H) = x := by simp [get5, set5]
inductive DenE (σ : Sg) : List AEnt → List MapEntry → Prop
 | nil : DenE σ [] []
 | cons {e : AEnt} {e' : MapEntry} {l : List AEnt} {l' : List MapEntry} (hk : Den σ e.key e'.key) (hv : Den σ e.val e'.val) (hb : e'.born = e.born) (t : DenE σ l l') : DenE σ (e :: l) (e' :: l')
theorem DenE.mono {σ σ' : Sg} (hs : ∀ b p, σ b = some p → σ' b = some p) : ∀ {l : List AEnt} {l' : List MapEntry}, DenE σ l l' → DenE σ' l l'
 | _, _, .nil => .nil
 | _, _, .cons hk hv hb t => .cons (hk.mono hs) (hv.mono hs) hb (DenE.mono hs t)
abbrev at' (cb i : Nat) : Addr := ⟨cb, i, none⟩
def ORel (σ : Sg) (o : AObj) (cb sz : Nat) (w : World) : Prop :=
 match o with
 | .cells n ct _ _ => n ≤ sz ∧ n ≤ ct.cap ∧ (∀ i, i < sz → w.frozen? (at' cb i) = false ∧ ∃ v, w.cell? (at' cb i) = some v) ∧
   (∀ i, i < n → ∃ v', w.cell? (at' cb i) = some v' ∧ Den σ (ct.get i) v')
 | .map es clock => ∃ es' : Array MapEntry, w.heap[cb]? = some (.map es' clock) ∧ DenE σ es es'.toList
 | .iter m since seen last => ∃ mc ms, σ m = some (mc, ms) ∧ w.heap[cb]? = some (.mapIter (some mc) since seen.toArray last)
structure Glob (σ : Sg) (w : World) : Prop where
 var : ∀ g l, GTab.tab g = some l → g < w.heap.size ∧ (∀ b sz, σ b ≠ some (g, sz)) ∧ ∀ (i : Nat) (v : AVal), l[i]? = some v → ∃ v', w.cell? (at' g i) = some v' ∧ ∀ τ : Sg, Den τ v v'
 blk : ∀ g o, GTab.blk g = some o → g < w.heap.size ∧ (∀ b sz, σ b ≠ some (g, sz)) ∧ w.heap[g]? = some o
theorem Glob.of {σ σ' : Sg} {w w' : World} (h : Glob σ w) (hs : w.heap.size ≤ w'.heap.size) (hb : ∀ i, i < w.heap.size → (∀ b sz, σ b ≠ some (i, sz)) → w'.heap[i]? = w.heap[i]?)
  (hr : ∀ b cb sz, σ' b = some (cb, sz) → cb < w.heap.size → ∃ b' sz', σ b' = some (cb, sz')) : Glob σ' w' := by
 refine ⟨fun g l hg => ?_, fun g o hg => ?_⟩
 ·obtain ⟨h1, h2, h3⟩ := h.var g l hg
  refine ⟨Nat.lt_of_lt_of_le h1 hs, ?_, ?_⟩
  ·intro b sz e
   obtain ⟨b', sz', e'⟩ := hr b g sz e h1
   exact h2 b' sz' e'
  ·intro i v hv
   obtain ⟨v', e, d⟩ := h3 i v hv
   exact ⟨v', by simpa [World.cell?, hb g h1 h2] using e, d⟩
 ·obtain ⟨h1, h2, h3⟩ := h.blk g o hg
  refine ⟨Nat.lt_of_lt_of_le h1 hs, ?_, ?_⟩
  ·intro b sz e
   obtain ⟨b', sz', e'⟩ := hr b g sz e h1
   exact h2 b' sz' e'
  ·rw [hb g h1 h2, h3]
structure Rel (σ : Sg) (H : Heap) (nx : Nat) (w : World) : Prop where
 lim : nx ≤ nx
 dom : ∀ b cb sz, σ b = some (cb, sz) → b < nx ∧ cb < w.heap.size
 obj : ∀ b o cb sz, get5 b H = some o → σ b = some (cb, sz) → ORel σ o cb sz w
 sep : ∀ b b' o o' cb sz sz', get5 b H = some o → get5 b' H = some o' → σ b = some (cb, sz) → σ b' = some (cb, sz') → b = b' ∨ b ∈ o'.olds ∨ b' ∈ o.olds
 sup : ∀ b b' o o' p, get5 b H = some o → get5 b' H = some o' → σ b' = some p → b ∈ o'.olds → o.sup = true
 old : ∀ b o p, get5 b H = some o → σ b = some p → ∀ b', b' ∈ o.olds → ∃ p', σ b' = some p'
 glob : Glob σ w
structure Ext (σ σ' : Sg) (H H' : Heap) (nx nx' : Nat) (w w' : World) : Prop where
 sub : ∀ b p, σ b = some p → σ' b = some p
 rng : ∀ b cb sz, σ' b = some (cb, sz) → cb < w.heap.size → ∃ b' sz', σ b' = some (cb, sz')
 pend : ∀ b, b < nx → σ b = none → σ' b = none ∧ get5 b H' = get5 b H
 le : nx ≤ nx'
 os : w'.os = w.os
 tape : w'.tape = w.tape
 output : w'.output = w.output
 size : w.heap.size ≤ w'.heap.size
 frame : ∀ i, i < w.heap.size → (∀ b sz, σ b ≠ some (i, sz)) → w'.heap[i]? = w.heap[i]?
 drawn : w.drawn ≤ w'.drawn
theorem Ext.refl (σ : Sg) (H : Heap) (nx : Nat) (w : World) : Ext σ σ H H nx nx w w :=
 ⟨fun _ _ h => h, fun b _ sz h _ => ⟨b, sz, h⟩, fun _ _ h => ⟨h, rfl⟩, Nat.le_refl _, rfl, rfl, rfl, Nat.le_refl _, fun _ _ _ => rfl, Nat.le_refl _⟩
theorem Ext.trans {σ₁ σ₂ σ₃ : Sg} {H₁ H₂ H₃ : Heap} {n₁ n₂ n₃ : Nat} {w₁ w₂ w₃ : World} (a : Ext σ₁ σ₂ H₁ H₂ n₁ n₂ w₁ w₂) (b : Ext σ₂ σ₃ H₂ H₃ n₂ n₃ w₂ w₃) :
  Ext σ₁ σ₃ H₁ H₃ n₁ n₃ w₁ w₃ where
 sub := fun x p h => b.sub x p (a.sub x p h)
 rng := fun x cb sz h hlt => by
  obtain ⟨b', sz', h'⟩ := b.rng x cb sz h (Nat.lt_of_lt_of_le hlt a.size)
  exact a.rng b' cb sz' h' hlt
 pend := fun x hx h => by
  obtain ⟨h1, h2⟩ := a.pend x hx h
  obtain ⟨h3, h4⟩ := b.pend x (Nat.lt_of_lt_of_le hx a.le) h1
  exact ⟨h3, h4.trans h2⟩
 le := Nat.le_trans a.le b.le
 os := b.os.trans a.os
 tape := b.tape.trans a.tape
 output := b.output.trans a.output
 size := Nat.le_trans a.size b.size
 frame := fun i hi h => by
  rw [b.frame i (Nat.lt_of_lt_of_le hi a.size), a.frame i hi h]
  intro x sz e
  obtain ⟨b', sz', h'⟩ := a.rng x i sz e hi
  exact h b' sz' h'
 drawn := Nat.le_trans a.drawn b.drawn
theorem ORel.mono {σ σ' : Sg} {o : AObj} {cb sz : Nat} {w : World} (hs : ∀ b p, σ b = some p → σ' b = some p) (h : ORel σ o cb sz w) : ORel σ' o cb sz w := by
 cases o with
 | cells n ct olds sup =>
  obtain ⟨h1, h2, h3, h4⟩ := h
  exact ⟨h1, h2, h3, fun i hi => let ⟨v', e, d⟩ := h4 i hi; ⟨v', e, d.mono hs⟩⟩
 | map es clock =>
  obtain ⟨es', h1, h2⟩ := h
  exact ⟨es', h1, h2.mono hs⟩
 | iter m since seen last =>
  obtain ⟨mc, ms, h1, h2⟩ := h
  exact ⟨mc, ms, hs _ _ h1, h2⟩
theorem ORel.of_block {σ : Sg} {o : AObj} {cb sz : Nat} {w w' : World} (e : w'.heap[cb]? = w.heap[cb]?) (h : ORel σ o cb sz w) : ORel σ o cb sz w' := by
 have e1 : ∀ i, w'.cell? (at' cb i) = w.cell? (at' cb i) := fun i => by simp [World.cell?, e]
 have e2 : ∀ i, w'.frozen? (at' cb i) = w.frozen? (at' cb i) := fun i => by simp [World.frozen?, e]
 cases o with
 | cells n ct olds sup =>
  obtain ⟨h1, h2, h3, h4⟩ := h
  exact ⟨h1, h2, fun i hi => by rw [e1, e2]; exact h3 i hi, fun i hi => by rw [e1]; exact h4 i hi⟩
 | map es clock =>
  obtain ⟨es', h1, h2⟩ := h
  exact ⟨es', e.trans h1, h2⟩
 | iter m since seen last =>
  obtain ⟨mc, ms, h1, h2⟩ := h
  exact ⟨mc, ms, h1, e.trans h2⟩
theorem Rel.drew {σ : Sg} {H : Heap} {nx : Nat} {w : World} (h : Rel σ H nx w) : Rel σ H nx { w with drawn := w.drawn + 1 } :=
 ⟨h.lim, h.dom, fun b o cb sz e1 e2 => (h.obj b o cb sz e1 e2).of_block rfl, h.sep, h.sup, h.old, h.glob.of (Nat.le_refl _) (fun _ _ _ => rfl) fun b _ sz e _ => ⟨b, sz, e⟩⟩
theorem Ext.drew (σ : Sg) (H : Heap) (nx : Nat) (w : World) : Ext σ σ H H nx nx w { w with drawn := w.drawn + 1 } :=
 ⟨fun _ _ h => h, fun b _ sz h _ => ⟨b, sz, h⟩, fun _ _ h => ⟨h, rfl⟩, Nat.le_refl _, rfl, rfl, rfl, Nat.le_refl _, fun _ _ _ => rfl, Nat.le_succ _⟩
theorem get5_ne {H : Heap} {b b' : Nat} {x : Option AObj} (h : b ≠ b') (_ : b < b + 1) (_ : b' < b' + 1) : get5 b' (set5 b x H) = get5 b' H := by
 have : ¬ b' = b := fun e => h e.symm
 simp [get5, set5, this]
theorem Rel.pend {σ : Sg} {H : Heap} {nx nx' b : Nat} {w : World} {x : Option AObj} (h : Rel σ H nx w) (hb : σ b = none) (hn : nx ≤ nx') (hl : nx' ≤ nx') (hb2 : b < b + 1) :
  Rel σ (set5 b x H) nx' w := by
 have ne : ∀ {c p}, σ c = some p → get5 c (set5 b x H) = get5 c H := by
  intro c p hc
  obtain ⟨cb, sz⟩ := p
  have := (h.dom c cb sz hc).1
  have := h.lim
  exact get5_ne (fun e => by subst e; rw [hb] at hc; cases hc) hb2 (by omega)
 refine ⟨hl, fun c cb sz hc => ⟨Nat.lt_of_lt_of_le (h.dom c cb sz hc).1 hn, (h.dom c cb sz hc).2⟩, ?_, ?_, ?_, ?_, h.glob⟩
 ·intro c o cb sz e1 e2; rw [ne e2] at e1; exact h.obj c o cb sz e1 e2
 ·intro c c' o o' cb sz sz' e1 e2 e3 e4; rw [ne e3] at e1; rw [ne e4] at e2; exact h.sep c c' o o' cb sz sz' e1 e2 e3 e4
 ·intro c c' o o' p e1 e2 e3 e4
  rw [ne e3] at e2
  obtain ⟨p', hp'⟩ := h.old c' o' p e2 e3 c e4
  rw [ne hp'] at e1
  exact h.sup c c' o o' p e1 e2 e3 e4
 ·intro c o p e1 e2 c' e3; rw [ne e2] at e1; exact h.old c o p e1 e2 c' e3
theorem Rel.forget {σ : Sg} {H : Heap} {nx b : Nat} {w : World} (h : Rel σ H nx w) (hb2 : b < b + 1) : Rel σ (set5 b none H) nx w := by
 have key : ∀ c o, c < c + 1 → get5 c (set5 b none H) = some o → get5 c H = some o := by
  intro c o hc e
  by_cases hcb : b = c
  ·subst hcb; rw [get5_set5_same] at e; cases e
  ·rwa [get5_ne hcb hb2 hc] at e
 have lt : ∀ {c p}, σ c = some p → c < c + 1 := fun {c p} hc => by obtain ⟨cb, sz⟩ := p; have := (h.dom c cb sz hc).1; have := h.lim; omega
 refine ⟨h.lim, h.dom, ?_, ?_, ?_, ?_, h.glob⟩
 ·intro c o cb sz e1 e2; exact h.obj c o cb sz (key c o (lt e2) e1) e2
 ·intro c c' o o' cb sz sz' e1 e2 e3 e4; exact h.sep c c' o o' cb sz sz' (key _ _ (lt e3) e1) (key _ _ (lt e4) e2) e3 e4
 ·intro c c' o o' p e1 e2 e3 e4
  have e2' := key _ _ (lt e3) e2
  obtain ⟨p', hp'⟩ := h.old c' o' p e2' e3 c e4
  exact h.sup c c' o o' p (key _ _ (lt hp') e1) e2' e3 e4
 ·intro c o p e1 e2 c' e3; exact h.old c o p (key _ _ (lt e2) e1) e2 c' e3
noncomputable def dels (l : List Nat) : Heap → Heap := List.rec (fun H => H) (fun b _ ih H => ih (set5 b none H)) l
theorem dels_cons (b : Nat) (l : List Nat) (H : Heap) : dels (b :: l) H = dels l (set5 b none H) := rfl
theorem get5_dels : ∀ (l : List Nat) (H : Heap) (c : Nat), (∀ b, b ∈ l → b < b + 1) → c < c + 1 → get5 c (dels l H) = if c ∈ l then none else get5 c H
 | [], H, c, _, _ => by rw [if_neg (by simp)]; rfl
 | b :: l, H, c, hl, hc => by
  rw [dels_cons, get5_dels l _ c (fun x hx => hl x (List.mem_cons_of_mem _ hx)) hc]
  by_cases h1 : c ∈ l
  ·rw [if_pos h1, if_pos (List.mem_cons_of_mem _ h1)]
  ·rw [if_neg h1]
   by_cases h2 : b = c
   ·subst h2; rw [get5_set5_same, if_pos (List.mem_cons_self ..)]
   ·rw [get5_ne h2 (hl b (List.mem_cons_self ..)) hc, if_neg (by simp [h1]; exact fun e => h2 e.symm)]
def upd (σ : Sg) (b : Nat) (p : Nat × Nat) : Sg := fun c => if c = b then some p else σ c
theorem upd_sub {σ : Sg} {b : Nat} {p : Nat × Nat} (hb : σ b = none) : ∀ c q, σ c = some q → upd σ b p c = some q := by
 intro c q hc
 unfold upd
 rw [if_neg (fun e => by subst e; rw [hb] at hc; cases hc)]
 exact hc
theorem upd_inv {σ : Sg} {b c : Nat} {p q : Nat × Nat} (h : upd σ b p c = some q) : (c = b ∧ q = p) ∨ (c ≠ b ∧ σ c = some q) := by
 unfold upd at h
 by_cases e : c = b
 ·rw [if_pos e] at h; exact .inl ⟨e, (Option.some.inj h).symm⟩
 ·rw [if_neg e] at h; exact .inr ⟨e, h⟩
theorem Rel.alloc_at {σ : Sg} {H : Heap} {nx b n sz : Nat} {w : World} {ct : CT} {c : Array Value} {t : TypeId} {fz : Nat × Nat} (h : Rel σ H nx w) (hb : σ b = none) (hlt : b < nx)
  (ho : get5 b H = some (.cells n ct [] false)) (hn : n ≤ ct.cap) (hsz : sz = c.size) (hnc : n ≤ sz) (hfz : ∀ i, i < sz → ¬ (fz.1 ≤ i ∧ i < fz.2))
  (hd : ∀ i, i < n → ∃ v', c[i]? = some v' ∧ Den σ (ct.get i) v') :
  Rel (upd σ b (w.heap.size, sz)) H nx (w.alloc (.cells c t fz)) := by
 have sub := upd_sub (p := (w.heap.size, sz)) hb
 have blk : ∀ i, i < w.heap.size → (w.alloc (.cells c t fz)).heap[i]? = w.heap[i]? := by
  intro i hi
  show (w.heap.push _)[i]? = _
  rw [Array.getElem?_push, if_neg (by omega)]
 have newb : (w.alloc (.cells c t fz)).heap[w.heap.size]? = some (.cells c t fz) := by
  show (w.heap.push _)[w.heap.size]? = _
  simp
 have newc : ∀ i, (w.alloc (.cells c t fz)).cell? (at' w.heap.size i) = c[i]? := by
  intro i
  unfold World.cell?
  rw [newb]
  rfl
 have hglob : Glob (upd σ b (w.heap.size, sz)) (w.alloc (.cells c t fz)) := by
  refine h.glob.of (by simp) (fun i hi _ => blk i hi) fun x cb s e hlt => ?_
  rcases upd_inv e with ⟨rfl, q⟩ | ⟨_, q⟩
  ·cases q; omega
  ·exact ⟨x, s, q⟩
 refine ⟨h.lim, ?_, ?_, ?_, ?_, ?_, hglob⟩
 ·intro x cb s e
  rcases upd_inv e with ⟨rfl, q⟩ | ⟨_, q⟩
  ·cases q; exact ⟨hlt, by simp⟩
  ·have := h.dom x cb s q
   exact ⟨this.1, by simp; omega⟩
 ·intro x o cb s e1 e2
  rcases upd_inv e2 with ⟨rfl, e⟩ | ⟨_, e⟩
  ·cases e
   rw [ho] at e1
   cases e1
   refine ⟨hnc, hn, ?_, ?_⟩
   ·intro i hi
    refine ⟨?_, ?_⟩
    ·have := hfz i hi
     simp only [World.frozen?, newb]
     simp
     intro h1
     have : ¬ (fz.1 ≤ i ∧ i < fz.2) := this
     omega
    ·refine ⟨c[i]'(by omega), ?_⟩
     rw [newc, Array.getElem?_eq_getElem]
   ·intro i hi
    obtain ⟨v', e, d⟩ := hd i hi
    exact ⟨v', by rw [newc, e], d.mono sub⟩
  ·have hlt' := (h.dom x cb s e).2
   exact (ORel.mono sub (h.obj x o cb s e1 e)).of_block (blk cb hlt')
 ·intro x x' o o' cb s s' e1 e2 e3 e4
  rcases upd_inv e3 with ⟨rfl, e⟩ | ⟨_, e⟩
  ·cases e
   rcases upd_inv e4 with ⟨rfl, _⟩ | ⟨_, e'⟩
   ·exact .inl rfl
   ·have := (h.dom x' _ s' e').2; omega
  ·rcases upd_inv e4 with ⟨rfl, e'⟩ | ⟨_, e'⟩
   ·cases e'; have := (h.dom x _ s e).2; omega
   ·exact h.sep x x' o o' cb s s' e1 e2 e e'
 ·intro x x' o o' p e1 e2 e3 e4
  rcases upd_inv e3 with ⟨rfl, e⟩ | ⟨_, e⟩
  ·rw [ho] at e2; cases e2; simp [AObj.olds] at e4
  ·exact h.sup x x' o o' p e1 e2 e e4
 ·intro x o p e1 e2 x' e3
  rcases upd_inv e2 with ⟨rfl, e⟩ | ⟨_, e⟩
  ·rw [ho] at e1; cases e1; simp [AObj.olds] at e3
  ·obtain ⟨p', hp'⟩ := h.old x o p e1 e x' e3
   exact ⟨p', sub _ _ hp'⟩
theorem Ext.alloc_at {σ : Sg} {H : Heap} {nx b sz : Nat} {w : World} (o : Obj) (_h : Rel σ H nx w) (hb : σ b = none) :
  (∀ c, c ≠ b → c < nx → σ c = none → upd σ b (w.heap.size, sz) c = none) ∧
  (∀ c p, σ c = some p → upd σ b (w.heap.size, sz) c = some p) ∧
  (∀ c cb s, upd σ b (w.heap.size, sz) c = some (cb, s) → cb < w.heap.size → ∃ b' sz', σ b' = some (cb, sz')) ∧
  (∀ i, i < w.heap.size → (w.alloc o).heap[i]? = w.heap[i]?) := by
 refine ⟨?_, upd_sub hb, ?_, ?_⟩
 ·intro c hc _ hn
  unfold upd; rw [if_neg hc]; exact hn
 ·intro c cb s e hlt
  rcases upd_inv e with ⟨rfl, q⟩ | ⟨_, q⟩
  ·cases q; omega
  ·exact ⟨c, s, q⟩
 ·intro i hi
  show (w.heap.push _)[i]? = _
  rw [Array.getElem?_push, if_neg (by omega)]
theorem Rel.alloc {σ : Sg} {H : Heap} {nx n sz : Nat} {w : World} {ct : CT} {c : Array Value} {t : TypeId} {fz : Nat × Nat} (h : Rel σ H nx w) (hx : nx < nx + 1)
  (hn : n ≤ ct.cap) (hsz : sz = c.size) (hnc : n ≤ sz) (hfz : ∀ i, i < sz → ¬ (fz.1 ≤ i ∧ i < fz.2)) (hd : ∀ i, i < n → ∃ v', c[i]? = some v' ∧ Den σ (ct.get i) v') :
  Rel (upd σ nx (w.heap.size, sz)) (set5 nx (some (.cells n ct [] false)) H) (nx + 1) (w.alloc (.cells c t fz)) ∧
  Ext σ (upd σ nx (w.heap.size, sz)) H (set5 nx (some (.cells n ct [] false)) H) nx (nx + 1) w (w.alloc (.cells c t fz)) := by
 have hb : σ nx = none := by
  cases e : σ nx with
  | none => rfl
  | some p => obtain ⟨cb, s⟩ := p; have := (h.dom nx cb s e).1; omega
 have h1 : Rel σ (set5 nx (some (.cells n ct [] false)) H) (nx + 1) w := h.pend hb (by omega) (by omega) hx
 obtain ⟨e1, e2, e3, e4⟩ := Ext.alloc_at (sz := sz) (.cells c t fz) h hb
 refine ⟨h1.alloc_at hb (by omega) (get5_set5_same _ _ _) hn hsz hnc hfz hd, ⟨e2, e3, ?_, by omega, rfl, rfl, rfl, by simp, fun i hi _ => e4 i hi, Nat.le_refl _⟩⟩
 intro c hc hn
 exact ⟨e1 c (by omega) hc hn, get5_ne (by omega) hx (by omega)⟩
def setCells (w : World) (cb : Nat) : Nat → List Value → World
 | _, [] => w
 | i, v :: l => setCells (w.setCell (at' cb i) v) cb (i + 1) l
theorem setCells_block : ∀ (l : List Value) (w : World) (cb i k : Nat), k ≠ cb → (setCells w cb i l).heap[k]? = w.heap[k]?
 | [], _, _, _, _, _ => rfl
 | v :: l, w, cb, i, k, h => by
  show (setCells (w.setCell (at' cb i) v) cb (i + 1) l).heap[k]? = _
  rw [setCells_block l _ cb (i + 1) k h]
  simp only [World.setCell, Array.getElem?_modify]
  rw [if_neg (fun e => h e.symm)]
theorem setCells_rest : ∀ (l : List Value) (w : World) (cb i : Nat), (setCells w cb i l).os = w.os ∧ (setCells w cb i l).tape = w.tape ∧ (setCells w cb i l).output = w.output ∧ (setCells w cb i l).heap.size = w.heap.size
 | [], _, _, _ => ⟨rfl, rfl, rfl, rfl⟩
 | v :: l, w, cb, i => by
  obtain ⟨h1, h2, h3, h4⟩ := setCells_rest l (w.setCell (at' cb i) v) cb (i + 1)
  exact ⟨h1, h2, h3, h4.trans (by simp)⟩
theorem setCells_drawn : ∀ (l : List Value) (w : World) (cb i : Nat), (setCells w cb i l).drawn = w.drawn
 | [], _, _, _ => rfl
 | v :: l, w, cb, i => setCells_drawn l (w.setCell (at' cb i) v) cb (i + 1)
theorem setCells_frozen : ∀ (l : List Value) (w : World) (cb i : Nat) (a : Addr), (setCells w cb i l).frozen? a = w.frozen? a
 | [], _, _, _, _ => rfl
 | v :: l, w, cb, i, a => by
  show (setCells (w.setCell (at' cb i) v) cb (i + 1) l).frozen? a = _
  rw [setCells_frozen l, World.frozen?_setCell]
theorem setCells_cell : ∀ (l : List Value) (w : World) (cb i j : Nat), (∀ k, i ≤ k → k < i + l.length → ∃ v, w.cell? (at' cb k) = some v) →
  (setCells w cb i l).cell? (at' cb j) = if i ≤ j ∧ j < i + l.length then l[j - i]? else w.cell? (at' cb j)
 | [], w, cb, i, j, _ => by
  have : ¬ (i ≤ j ∧ j < i + ([] : List Value).length) := by simp
  rw [if_neg this]; rfl
 | v :: l, w, cb, i, j, h => by
  show (setCells (w.setCell (at' cb i) v) cb (i + 1) l).cell? (at' cb j) = _
  obtain ⟨u, hu⟩ := h i (Nat.le_refl _) (by simp)
  have same : (w.setCell (at' cb i) v).cell? (at' cb i) = some v := World.cell?_setCell_same (w := w) (a := at' cb i) (v := v) (u := u) hu
  have other : ∀ k, k ≠ i → (w.setCell (at' cb i) v).cell? (at' cb k) = w.cell? (at' cb k) := fun k hk =>
   World.cell?_setCell_other (w := w) (a := at' cb i) (b := at' cb k) (v := v) (fun e => hk (by cases e; rfl))
  rw [setCells_cell l _ cb (i + 1) j]
  ·by_cases h1 : j = i
   ·subst h1
    rw [if_neg (by omega), same, if_pos (by simp)]
    simp
   ·rw [other j h1]
    by_cases h2 : i + 1 ≤ j ∧ j < i + 1 + l.length
    ·rw [if_pos h2, if_pos (by simp; omega)]
     have e : j - i = (j - (i + 1)) + 1 := by omega
     rw [e]; simp
    ·rw [if_neg h2, if_neg (by simp; omega)]
  ·intro k hk1 hk2
   rw [other k (by omega)]
   exact h k (by omega) (by simp; omega)
theorem addr_add (cb i n : Nat) : Addr.add (at' cb i) n = at' cb (i + n) := by
 unfold Addr.add
 split
 ·rename_i h; subst h; rfl
 ·rfl
theorem run_storeCells {P : Program} : ∀ (l : List Value) (w : World) (cb off i : Nat), (∀ v, v ∈ l → v.oneCell' = true) →
  (∀ k, off + i ≤ k → k < off + i + l.length → w.frozen? (at' cb k) = false ∧ ∃ v, w.cell? (at' cb k) = some v) →
  (storeCells (at' cb off) l i).run P w = .ok () (setCells w cb (off + i) l)
 | [], w, cb, off, i, _, _ => rfl
 | v :: l, w, cb, off, i, h1, h2 => by
  obtain ⟨hf, u, hu⟩ := h2 (off + i) (Nat.le_refl _) (by simp)
  have hs : (store (Addr.add (at' cb off) i) v).run P w = .ok () (w.setCell (at' cb (off + i)) v) := by
   rw [run_store P w _ v .plain (h1 v (List.mem_cons_self ..)), addr_add, hu]
   simp [hf]
  have ih := run_storeCells (P := P) l (w.setCell (at' cb (off + i)) v) cb off (i + 1) (fun x hx => h1 x (List.mem_cons_of_mem _ hx)) (by
   intro k hk1 hk2
   have := h2 k (by omega) (by simp; omega)
   rw [World.frozen?_setCell, World.cell?_setCell_other]
   ·exact this
   ·intro e; have := congrArg Addr.off e; simp at this; omega)
  simp only [storeCells, Sem.run_bind, hs, Result.andThen_ok, ih]
  rfl
theorem Rel.store {σ : Sg} {H : Heap} {nx b n off cb sz : Nat} {w : World} {ct : CT} {olds : List Nat} {l : List AVal} {l' : List Value} (h : Rel σ H nx w)
  (hb : σ b = some (cb, sz)) (ho : get5 b H = some (.cells n ct olds false)) (hoff : off + l.length ≤ n) (hd : DenL σ l l') :
  Rel σ (set5 b (some (.cells n (CT.lay l off ct) [] false)) (dels olds H)) nx (setCells w cb off l') ∧
  Ext σ σ H (set5 b (some (.cells n (CT.lay l off ct) [] false)) (dels olds H)) nx nx w (setCells w cb off l') := by
 have hlim := h.lim
 have lt : ∀ {c p}, σ c = some p → c < c + 1 := fun {c p} hc => by obtain ⟨cb, sz⟩ := p; have := (h.dom c cb sz hc).1; omega
 have hold : ∀ c, c ∈ olds → ∃ p', σ c = some p' := fun c hc => h.old b _ _ ho hb c hc
 have holt : ∀ c, c ∈ olds → c < c + 1 := fun c hc => let ⟨_, e⟩ := hold c hc; lt e
 obtain ⟨r1, r2, r3, r4⟩ := setCells_rest l' w cb off
 obtain ⟨o1, o2, o3, o4⟩ := h.obj b _ cb sz ho hb
 have hlen : l.length = l'.length := hd.length
 have bn : b < b + 1 := lt hb
 have key : ∀ c o, c ≠ b → c < c + 1 → get5 c (set5 b (some (.cells n (CT.lay l off ct) [] false)) (dels olds H)) = some o → get5 c H = some o ∧ c ∉ olds := by
  intro c o hcb hc e
  rw [get5_ne (fun e => hcb e.symm) bn hc, get5_dels olds H c holt hc] at e
  by_cases hm : c ∈ olds
  ·rw [if_pos hm] at e; cases e
  ·rw [if_neg hm] at e; exact ⟨e, hm⟩
 have keyb : get5 b (set5 b (some (.cells n (CT.lay l off ct) [] false)) (dels olds H)) = some (.cells n (CT.lay l off ct) [] false) := get5_set5_same _ _ _
 have alone : ∀ c o s, c ≠ b → c ∉ olds → get5 c H = some o → σ c = some (cb, s) → False := by
  intro c o s hcb hno hc hs
  rcases h.sep c b o _ cb s sz hc ho hs hb with e | e | e
  ·exact hcb e
  ·exact hno e
  ·have := h.sup b c _ o _ ho hc hs e
   simp [AObj.sup] at this
 have hglob : Glob σ (setCells w cb off l') := by
  refine h.glob.of (Nat.le_of_eq r4.symm) (fun i hi hno => setCells_block l' w cb off i (fun e => by subst e; exact hno b sz hb)) fun x cb s e _ => ⟨x, s, e⟩
 refine ⟨⟨hlim, ?_, ?_, ?_, ?_, ?_, hglob⟩, ⟨fun _ _ e => e, fun c _ s e _ => ⟨c, s, e⟩, ?_, Nat.le_refl _, r1, r2, r3, Nat.le_of_eq r4.symm, ?_, Nat.le_of_eq (setCells_drawn l' w cb off).symm⟩⟩
 ·intro c x s e; have := h.dom c x s e; rw [r4]; exact this
 ·intro c o x s e1 e2
  by_cases hcb : c = b
  ·subst hcb
   rw [hb] at e2
   cases e2
   rw [keyb] at e1
   cases e1
   have cells : ∀ k, off ≤ k → k < off + l'.length → ∃ v, w.cell? (at' cb k) = some v := fun k hk1 hk2 => (o3 k (by omega)).2
   refine ⟨o1, by rw [CT.lay_cap]; exact o2, ?_, ?_⟩
   ·intro i hi
    rw [setCells_frozen, setCells_cell l' w cb off i cells]
    refine ⟨(o3 i hi).1, ?_⟩
    by_cases hin : off ≤ i ∧ i < off + l'.length
    ·rw [if_pos hin]; exact ⟨l'[i - off]'(by omega), by simp [List.getElem?_eq_getElem (show i - off < l'.length by omega)]⟩
    ·rw [if_neg hin]; exact (o3 i hi).2
   ·intro i hi
    rw [setCells_cell l' w cb off i cells, CT.lay_get l off ct i (by omega) (by omega)]
    by_cases hin : off ≤ i ∧ i < off + l.length
    ·rw [if_pos hin, if_pos (by omega)]
     have hlt : i - off < l.length := by omega
     obtain ⟨v', e, d⟩ := hd.get (i - off) (l[i - off]) (by simp [List.getElem?_eq_getElem hlt])
     refine ⟨v', e, ?_⟩
     simpa [List.getD, List.getElem?_eq_getElem hlt] using d
    ·rw [if_neg hin, if_neg (by omega)]; exact o4 i hi
  ·obtain ⟨e1', hno⟩ := key c o hcb (lt e2) e1
   refine (h.obj c o x s e1' e2).of_block (setCells_block l' w cb off x ?_)
   intro e
   subst e
   exact alone c o s hcb hno e1' e2
 ·intro c c' o o' x s s' e1 e2 e3 e4
  by_cases h1 : c = b
  ·subst h1
   by_cases h2 : c' = c
   ·exact .inl h2.symm
   ·obtain ⟨e2', hno⟩ := key c' o' h2 (lt e4) e2
    rw [hb] at e3
    cases e3
    exact (alone c' o' s' h2 hno e2' e4).elim
  ·obtain ⟨e1', hno⟩ := key c o h1 (lt e3) e1
   by_cases h2 : c' = b
   ·subst h2
    rw [hb] at e4
    cases e4
    exact (alone c o s h1 hno e1' e3).elim
   ·obtain ⟨e2', hno'⟩ := key c' o' h2 (lt e4) e2
    exact h.sep c c' o o' x s s' e1' e2' e3 e4
 ·intro c c' o o' p e1 e2 e3 e4
  by_cases h2 : c' = b
  ·subst h2
   rw [keyb] at e2; cases e2; simp [AObj.olds] at e4
  ·obtain ⟨e2', hno'⟩ := key c' o' h2 (lt e3) e2
   obtain ⟨p', hp'⟩ := h.old c' o' p e2' e3 c e4
   by_cases h1 : c = b
   ·subst h1
    have := h.sup c c' _ o' p ho e2' e3 e4
    simp [AObj.sup] at this
   ·obtain ⟨e1', hno⟩ := key c o h1 (lt hp') e1
    exact h.sup c c' o o' p e1' e2' e3 e4
 ·intro c o p e1 e2 c' e3
  by_cases h1 : c = b
  ·subst h1
   rw [keyb] at e1; cases e1; simp [AObj.olds] at e3
  ·obtain ⟨e1', _⟩ := key c o h1 (lt e2) e1
   exact h.old c o p e1' e2 c' e3
 ·intro c hc hn
  refine ⟨hn, ?_⟩
  have hcb : b ≠ c := fun e => by subst e; rw [hb] at hn; cases hn
  have hno : c ∉ olds := fun hm => by obtain ⟨_, e⟩ := hold c hm; rw [hn] at e; cases e
  rw [get5_ne hcb bn (by omega), get5_dels olds H c holt (by omega), if_neg hno]
 ·intro i hi hno
  exact setCells_block l' w cb off i (fun e => by subst e; exact hno b sz hb)
end Go.Vs
end
section
namespace Go.Vs
variable [GTab]
noncomputable section
inductive ARes where
 | val (v : AVal) (H : Heap) (nx : Nat)
 | call (f : FuncId) (args : List AVal)
 | dfr (f : FuncId) (args : List AVal)
 | pan (v : AVal)
 | rcv
 | any (Q : AVal → Heap → Nat → Prop)
def DDen (σ : Sg) (f : FuncId) (args : List AVal) (d : Deferred) : Prop :=
 ∃ cap, d.target = .fn (.func f) cap ∧ DenL σ args (d.args ++ cap).toList
def OpOK (P : Program) (o : Oper) (ρ : Operand → AVal) (H : Heap) (nx : Nat) (r : ARes) : Prop :=
 ∀ (σ : Sg) (w : World) (ρ' : Operand → Value), Rel σ H nx w → (∀ x, Den σ (ρ x) (ρ' x)) →
  match r with
  | .val v H' nx' => ∃ σ' w' v', Rel σ' H' nx' w' ∧ Ext σ σ' H H' nx nx' w w' ∧ Den σ' v v' ∧
    ((execOp ρ' o).run P w = .ok (.value v') w' ∨ ((execOp ρ' o).run P w = .ok .skip w' ∧ v' = undef))
  | .call f args => ∃ args', DenL σ args args' ∧ (execOp ρ' o).run P w = .ok (.enter f ⟨args'⟩) w
  | .dfr f args => ∃ d, DDen σ f args d ∧ (execOp ρ' o).run P w = .ok (.defer d) w
  | .pan v => ∃ v', Den σ v v' ∧ (execOp ρ' o).run P w = .halt (.panic v') w
  | .rcv => (execOp ρ' o).run P w = .ok .recover w
  | .any Q => ∃ v H' nx' σ' w' v', Q v H' nx' ∧ Rel σ' H' nx' w' ∧ Ext σ σ' H H' nx nx' w w' ∧ Den σ' v v' ∧ (execOp ρ' o).run P w = .ok (.value v') w'
theorem OpOK.pure {P : Program} {o : Oper} {ρ : Operand → AVal} {H : Heap} {nx : Nat} {v : AVal}
  (h : ∀ (σ : Sg) (w : World) (ρ' : Operand → Value), Rel σ H nx w → (∀ x, Den σ (ρ x) (ρ' x)) → ∃ v', Den σ v v' ∧ (execOp ρ' o).run P w = .ok (.value v') w) :
  OpOK P o ρ H nx (.val v H nx) := by
 intro σ w ρ' hr hd
 obtain ⟨v', h1, h2⟩ := h σ w ρ' hr hd
 exact ⟨σ, w, v', hr, Ext.refl _ _ _ _, h1, .inl h2⟩
theorem run_underlying' {P : Program} {w : World} {t : TypeId} {d : TypeDesc} (h : P.underlying t = some d) : (underlying t).run P w = .ok d w := by
 simp [underlying, h]
theorem run_typeInfo' {P : Program} {w : World} {t : TypeId} {i : TypeInfo} (h : P.info? t = some i) : (typeInfo t).run P w = .ok i w := by
 simp [typeInfo, h]
theorem run_sizeOf' {P : Program} {w : World} {t : TypeId} {i : TypeInfo} (h : P.info? t = some i) : (sizeOf t).run P w = .ok i.size w := by
 simp [sizeOf, run_typeInfo' h]
theorem run_zeroValue' {P : Program} {w : World} {t : TypeId} {i : TypeInfo} {v : Value} (h : P.info? t = some i) (hz : i.zero = some v) : (zeroValue t).run P w = .ok v w := by
 simp [zeroValue, run_typeInfo' h, hz]
def aggD : TypeDesc → Bool
 | .struct _ | .array _ _ => true
 | _ => false
theorem run_isAgg' {P : Program} {w : World} {t : TypeId} {d : TypeDesc} (h : P.underlying t = some d) : (isAgg t).run P w = .ok (aggD d) w := by
 simp only [isAgg, Sem.run_bind, run_underlying' h, Result.andThen_ok]
 cases d <;> rfl
def ofCell : Value → AVal
 | .bool b => .bool b
 | .int k n => .int k n
 | .string s => .str s.data.toList
 | .pointer none => .nilPtr
 | .slice none 0 0 => .nilSlice
 | .map none => .nilMap
 | .nilFunc => .nilFunc
 | .nilIface => .nilIface
 | _ => .und
def ofVal : Value → AVal
 | .agg cs => .agg (cs.toList.map ofCell)
 | v => ofCell v
theorem den_ofCell (σ : Sg) (v : Value) : Den σ (ofCell v) v := by
 unfold ofCell
 split <;> first | constructor | skip
theorem denL_ofCell (σ : Sg) : ∀ l : List Value, DenL σ (l.map ofCell) l
 | [] => .nil
 | v :: l => .cons (den_ofCell σ v) (denL_ofCell σ l)
theorem den_ofVal (σ : Sg) (v : Value) : Den σ (ofVal v) v := by
 unfold ofVal
 split
 ·rename_i cs; exact Den.agg (denL_ofCell σ cs.toList)
 ·exact den_ofCell σ v
def opMove (x : Operand) (ρ : Operand → AVal) (H : Heap) (nx : Nat) : Option ARes := some (.val (ρ x) H nx)
theorem opMove_ok {P : Program} {o : Oper} {x : Operand} {ρ : Operand → AVal} {H : Heap} {nx : Nat} {r : ARes} (ho : o.op = .move x ∨ o.op = .assign x)
  (h : opMove x ρ H nx = some r) : OpOK P o ρ H nx r := by
 cases h
 refine OpOK.pure fun σ w ρ' _ hd => ⟨ρ' x, hd x, ?_⟩
 rcases ho with e | e <;> simp [execOp, e]
def opPick (c a b : Operand) (ρ : Operand → AVal) (H : Heap) (nx : Nat) : Option ARes :=
 match ρ c with
 | .bool true => some (.val (ρ a) H nx)
 | .bool false => some (.val (ρ b) H nx)
 | _ => none
theorem opPick_ok {P : Program} {o : Oper} {c a b : Operand} {ρ : Operand → AVal} {H : Heap} {nx : Nat} {r : ARes} (ho : o.op = .pick c a b)
  (h : opPick c a b ρ H nx = some r) : OpOK P o ρ H nx r := by
 unfold opPick at h
 split at h
 ·rename_i hc
  cases h
  refine OpOK.pure fun σ w ρ' _ hd => ⟨ρ' a, hd a, ?_⟩
  have := hd c; rw [hc] at this
  cases hv : ρ' c <;> rw [hv] at this <;> cases this
  simp [execOp, ho, hv, asBool]
 ·rename_i hc
  cases h
  refine OpOK.pure fun σ w ρ' _ hd => ⟨ρ' b, hd b, ?_⟩
  have := hd c; rw [hc] at this
  cases hv : ρ' c <;> rw [hv] at this <;> cases this
  simp [execOp, ho, hv, asBool]
 ·cases h
def aLoad (P : Program) (t : TypeId) (H : Heap) (v : AVal) : Option AVal :=
 match v with
 | .ptr b off =>
  match get5 b H with
  | some (.cells n ct _ _) =>
   match P.underlying t, P.info? t with
   | some d, some i =>
    match aggD d with
    | true => match Nat.ble (Nat.add off i.size) n with
     | true => some (.agg (CT.slab ct i.size off))
     | false => none
    | false => match Nat.ble (Nat.succ off) n with
     | true => some (CT.get off ct)
     | false => none
   | _, _ => none
  | _ => none
 | .gptr g off =>
  match GTab.tab g with
  | some l =>
   match P.underlying t, P.info? t with
   | some d, some i =>
    match aggD d with
    | true => match Nat.ble (Nat.add off i.size) l.length with
     | true => some (.agg ((l.drop off).take i.size))
     | false => none
    | false => l[off]?
   | _, _ => none
  | none => none
 | _ => none
theorem load_glob {σ : Sg} {w : World} {g : Nat} {l : List AVal} (h : Glob σ w) (hl : GTab.tab g = some l) (P : Program) (off k : Nat) (hk : off + k ≤ l.length) :
  ∃ l' : List Value, (∀ τ : Sg, DenL τ ((l.drop off).take k) l') ∧ (loadCells (at' g off) k).run P w = .ok ⟨l'⟩ w := by
 obtain ⟨_, _, h3⟩ := h.var g l hl
 have hf : ∀ j, j < k → ∃ v', w.cell? (at' g (off + j)) = some v' ∧ ∀ τ : Sg, Den τ (l[off + j]?.getD .und) v' := by
  intro j hj
  have hlt : off + j < l.length := by omega
  obtain ⟨v', e, d⟩ := h3 (off + j) l[off + j] (by simp [List.getElem?_eq_getElem hlt])
  exact ⟨v', e, by simpa [List.getElem?_eq_getElem hlt] using d⟩
 refine ⟨(List.range k).map fun j => (w.cell? (at' g (off + j))).getD undef, fun τ => ?_, ?_⟩
 ·refine DenL.of_get (by simp; omega) ?_
  intro i v v' e1 e2
  have hi : i < k := by
   rcases Nat.lt_or_ge i k with h | h
   ·exact h
   ·rw [List.getElem?_eq_none (by simp; omega)] at e2; cases e2
  obtain ⟨u, q1, q2⟩ := hf i hi
  simp [hi, q1] at e2
  subst e2
  have hlt : off + i < l.length := by omega
  have : v = l[off + i]?.getD .und := by
   simp [hi, List.getElem?_drop, List.getElem?_eq_getElem hlt] at e1
   simp [List.getElem?_eq_getElem hlt, e1]
  rw [this]
  exact q2 τ
 ·refine run_loadCells (P := P) w (at' g off) k _ (fun j hj => ?_)
  obtain ⟨u, q1, _⟩ := hf j hj
  rw [addr_add, q1]
  simp
theorem load_slab {σ : Sg} {H : Heap} {nx b n cb sz : Nat} {w : World} {ct : CT} {olds : List Nat} {s : Bool} (h : Rel σ H nx w) (ho : get5 b H = some (.cells n ct olds s)) (hb : σ b = some (cb, sz))
  (P : Program) (off k : Nat) (hk : off + k ≤ n) : ∃ l : List Value, l.length = k ∧ DenL σ (CT.slab ct k off) l ∧ (∀ j, j < k → w.cell? (at' cb (off + j)) = l[j]?) ∧ (loadCells (at' cb off) k).run P w = .ok ⟨l⟩ w := by
 obtain ⟨_, _, _, h4⟩ := h.obj b _ cb sz ho hb
 have f : ∃ f : Nat → Value, ∀ j, j < k → w.cell? (at' cb (off + j)) = some (f j) ∧ Den σ (ct.get (off + j)) (f j) := by
  refine ⟨fun j => (w.cell? (at' cb (off + j))).getD undef, fun j hj => ?_⟩
  obtain ⟨v', e, d⟩ := h4 (off + j) (by omega)
  simp only [e, Option.getD_some]
  exact ⟨trivial, d⟩
 obtain ⟨f, hf⟩ := f
 refine ⟨(List.range k).map f, by simp, ?_, ?_, ?_⟩
 ·refine DenL.of_get (by simp [CT.slab_length]) ?_
  intro i v v' e1 e2
  have hi : i < k := by
   rcases Nat.lt_or_ge i k with h | h
   ·exact h
   ·rw [List.getElem?_eq_none (by simp [CT.slab_length]; exact h)] at e1; cases e1
  rw [CT.slab_get ct k off i hi] at e1
  cases e1
  simp [hi] at e2
  subst e2
  exact (hf i hi).2
 ·intro j hj
  rw [(hf j hj).1]
  simp [hj]
 ·exact run_loadCells (P := P) w (at' cb off) k f (fun j hj => by rw [addr_add]; exact (hf j hj).1)
theorem aLoad_ok {P : Program} {t : TypeId} {H : Heap} {v x : AVal} {σ : Sg} {nx : Nat} {w : World} {v' : Value} (hr : Rel σ H nx w) (hv : Den σ v v') (h : aLoad P t H v = some x) :
  ∃ x', Den σ x x' ∧ (Instr.loadAt t v').run P w = .ok x' w := by
 unfold aLoad at h
 split at h
 ·rename_i b off
  split at h
  ·rename_i n ct olds s ho
   split at h
   ·rename_i d i hd hi
    cases hv with
    | @ptr _ _ cb sz hb =>
     split at h
     ·rename_i hagg
      split at h
      ·rename_i hle
       have hle' := Nat.le_of_ble_eq_true hle
       cases h
       obtain ⟨l, _, hl, _, hrun⟩ := load_slab hr ho hb P off i.size hle'
       exact ⟨_, .agg hl, by simp [Instr.loadAt, Instr.sureAddr, loadVar, run_isAgg' hd, hagg, run_sizeOf' hi, hrun]⟩
      ·cases h
     ·rename_i hagg
      split at h
      ·rename_i hle
       have hle' := Nat.le_of_ble_eq_true hle
       cases h
       obtain ⟨_, _, _, h4⟩ := hr.obj b _ cb sz ho hb
       obtain ⟨u, e, du⟩ := h4 off (by omega)
       exact ⟨u, du, by simp [Instr.loadAt, Instr.sureAddr, loadVar, run_isAgg' hd, hagg, e]⟩
      ·cases h
   ·cases h
  ·cases h
 ·rename_i g off
  split at h <;> try (cases h; done)
  rename_i l hl
  split at h <;> try (cases h; done)
  rename_i d i hd hi
  cases hv
  split at h
  ·rename_i hagg
   split at h <;> try (cases h; done)
   rename_i hle
   have hle' : off + i.size ≤ l.length := Nat.le_of_ble_eq_true hle
   cases h
   obtain ⟨l', hd', hrun⟩ := load_glob hr.glob hl P off i.size hle'
   exact ⟨_, .agg (hd' σ), by simp [Instr.loadAt, Instr.sureAddr, loadVar, run_isAgg' hd, hagg, run_sizeOf' hi, hrun]⟩
  ·rename_i hagg
   obtain ⟨_, _, h3⟩ := hr.glob.var g l hl
   obtain ⟨v', e, du⟩ := h3 off x h
   exact ⟨v', du σ, by simp [Instr.loadAt, Instr.sureAddr, loadVar, run_isAgg' hd, hagg, e]⟩
 ·cases h
def opLoad (P : Program) (t : TypeId) (a : Operand) (ρ : Operand → AVal) (H : Heap) (nx : Nat) : Option ARes :=
 match aLoad P t H (ρ a) with
 | some v => some (.val v H nx)
 | none => none
theorem opLoad_ok {P : Program} {o : Oper} {t : TypeId} {a : Operand} {ρ : Operand → AVal} {H : Heap} {nx : Nat} {r : ARes} (ho : o.op = .load t a)
  (h : opLoad P t a ρ H nx = some r) : OpOK P o ρ H nx r := by
 unfold opLoad at h
 split at h
 ·rename_i v hv
  cases h
  refine OpOK.pure fun σ w ρ' hr hd => ?_
  obtain ⟨x', dx, hrun⟩ := aLoad_ok hr (hd a) hv
  exact ⟨x', dx, by simp [execOp, ho, hrun]⟩
 ·cases h
def acells : AVal → Option (List AVal)
 | .und => none
 | .tuple _ => none
 | .agg cs => some cs
 | v => some [v]
theorem acells_ok {σ : Sg} {v : AVal} {v' : Value} {cs : List AVal} (h : acells v = some cs) (hd : Den σ v v') : DenL σ cs v'.cells.toList := by
 unfold acells at h
 split at h
 ·cases h
 ·cases h
 ·cases h; cases hd with | agg hl => exact hl
 ·rename_i h1 h2 h3
  cases h
  have e : v'.cells = #[v'] := by
   cases hd <;> first
    | rfl
    | exact (h1 rfl).elim
    | exact (h2 _ rfl).elim
    | exact (h3 _ rfl).elim
  rw [e]
  exact .cons hd .nil
def cellv : AVal → Bool
 | .und | .agg _ | .tuple _ => false
 | _ => true
theorem cellv_ok {σ : Sg} {v : AVal} {v' : Value} (h : cellv v = true) (hd : Den σ v v') : v'.oneCell' = true := by
 cases hd <;> first | rfl | (simp [cellv] at h)
def allCell : List AVal → Bool
 | [] => true
 | v :: l => match cellv v with | true => allCell l | false => false
theorem allCell_ok {σ : Sg} : ∀ {l : List AVal} {l' : List Value}, allCell l = true → DenL σ l l' → ∀ v, v ∈ l' → v.oneCell' = true
 | _, _, _, .nil, v, h => by simp at h
 | a :: l, b :: l', ha, .cons hd t, v, h => by
  unfold allCell at ha
  split at ha
  ·rename_i hc
   rcases List.mem_cons.1 h with rfl | h
   ·exact cellv_ok hc hd
   ·exact allCell_ok ha t v h
  ·cases ha
def relay (l : List AVal) (len off n : Nat) (ct : CT) : CT :=
 match Nat.beq off 0, Nat.beq len n, Nat.ble n 9223372036854775807 with
 | true, true, true => CT.ofL n l
 | _, _, _ => CT.lay l off ct
theorem relay_cap {l : List AVal} {off n : Nat} {ct : CT} (h : n ≤ ct.cap) : n ≤ (relay l l.length off n ct).cap := by
 unfold relay
 split
 ·rename_i h3; exact CT.ofL_cap n l (Nat.le_of_ble_eq_true h3)
 ·rw [CT.lay_cap]; exact h
theorem relay_get {l : List AVal} {off n : Nat} {ct : CT} (h : n ≤ ct.cap) (_ho : off + l.length ≤ n) (i : Nat) (hi : i < n) : (relay l l.length off n ct).get i = (CT.lay l off ct).get i := by
 unfold relay
 split
 ·rename_i h1 h2 h3
  have e1 := Nat.eq_of_beq_eq_true h1
  have e2 := Nat.eq_of_beq_eq_true h2
  rw [CT.get_ofL n l i (Nat.le_of_ble_eq_true h3) hi, CT.lay_get l off ct i (by omega) (by omega), if_pos (by omega)]
  congr 1
  omega
 ·rfl
def aStore (P : Program) (t : TypeId) (H : Heap) (a x : AVal) : Option Heap :=
 match a, acells x, P.info? t with
 | .ptr b off, some cs, some i =>
  match get5 b H with
  | some (.cells n ct olds false) =>
   match Nat.beq cs.length i.size, Nat.ble (Nat.add off i.size) n, allCell cs with
   | true, true, true => some (set5 b (some (.cells n (relay cs i.size off n ct) [] false)) (dels olds H))
   | _, _, _ => none
  | _ => none
 | _, _, _ => none
theorem Rel.relay {σ : Sg} {H : Heap} {nx b n : Nat} {w : World} {ct ct' : CT} {olds : List Nat} {s : Bool} (h : Rel σ (set5 b (some (.cells n ct olds s)) H) nx w) (hb : ∃ p, σ b = some p)
  (hcap : n ≤ ct'.cap) (hg : ∀ i, i < n → ct'.get i = ct.get i) : Rel σ (set5 b (some (.cells n ct' olds s)) H) nx w := by
 obtain ⟨⟨cb, sz⟩, hb⟩ := hb
 have hlim := h.lim
 have lt : ∀ {c p}, σ c = some p → c < c + 1 := fun {c p} hc => by obtain ⟨cb, sz⟩ := p; have := (h.dom c cb sz hc).1; omega
 have bn := lt hb
 have key : ∀ c o, c < c + 1 → get5 c (set5 b (some (.cells n ct' olds s)) H) = some o → ∃ o', get5 c (set5 b (some (.cells n ct olds s)) H) = some o' ∧ o'.olds = o.olds ∧ o'.sup = o.sup := by
  intro c o hc e
  by_cases hcb : b = c
  ·subst hcb; rw [get5_set5_same] at e; cases e; exact ⟨_, get5_set5_same _ _ _, rfl, rfl⟩
  ·rw [get5_ne hcb bn hc] at e; exact ⟨o, by rw [get5_ne hcb bn hc]; exact e, rfl, rfl⟩
 refine ⟨h.lim, h.dom, ?_, ?_, ?_, ?_, h.glob⟩
 ·intro c o x z e1 e2
  by_cases hcb : b = c
  ·subst hcb
   rw [get5_set5_same] at e1
   cases e1
   obtain ⟨a1, a2, a3, a4⟩ := h.obj b _ x z (get5_set5_same _ _ _) e2
   exact ⟨a1, hcap, a3, fun i hi => by rw [hg i hi]; exact a4 i hi⟩
  ·rw [get5_ne hcb bn (lt e2)] at e1
   exact h.obj c o x z (by rw [get5_ne hcb bn (lt e2)]; exact e1) e2
 ·intro c c' o o' x z z' e1 e2 e3 e4
  obtain ⟨p, f1, g1, _⟩ := key c o (lt e3) e1
  obtain ⟨q, f2, g2, _⟩ := key c' o' (lt e4) e2
  rw [← g1, ← g2]
  exact h.sep c c' p q x z z' f1 f2 e3 e4
 ·intro c c' o o' p e1 e2 e3 e4
  obtain ⟨q, f2, g2, _⟩ := key c' o' (lt e3) e2
  rw [← g2] at e4
  obtain ⟨p', hp'⟩ := h.old c' q p f2 e3 c e4
  obtain ⟨r, f1, _, g1⟩ := key c o (lt hp') e1
  rw [← g1]
  exact h.sup c c' r q p f1 f2 e3 e4
 ·intro c o p e1 e2 c' e3
  obtain ⟨q, f1, g1, _⟩ := key c o (lt e2) e1
  rw [← g1] at e3
  exact h.old c q p f1 e2 c' e3
theorem Ext.relay {σ σ' : Sg} {H H' : Heap} {nx nx' b : Nat} {w w' : World} {x y : Option AObj} (h : Ext σ σ' H (set5 b x H') nx nx' w w') (hb : ∃ p, σ b = some p) (bn : b < b + 1) (_hl : nx ≤ nx) :
  Ext σ σ' H (set5 b y H') nx nx' w w' := by
 obtain ⟨p, hb⟩ := hb
 refine { h with pend := fun c hc hn => ?_ }
 obtain ⟨h1, h2⟩ := h.pend c hc hn
 refine ⟨h1, ?_⟩
 have hcb : b ≠ c := fun e => by subst e; rw [hb] at hn; cases hn
 rw [get5_ne hcb bn (by omega)] at h2 ⊢
 exact h2
theorem aStore_ok {P : Program} {t : TypeId} {H H' : Heap} {a x : AVal} {σ : Sg} {nx : Nat} {w : World} {a' x' : Value} (hr : Rel σ H nx w) (ha : Den σ a a') (hx : Den σ x x')
  (h : aStore P t H a x = some H') : ∃ w', Rel σ H' nx w' ∧ Ext σ σ H H' nx nx w w' ∧ (Instr.storeAt t a' x').run P w = .ok () w' := by
 unfold aStore at h
 split at h
 ·rename_i b off cs i hcs hi
  split at h
  ·rename_i n ct olds ho
   split at h
   ·rename_i h1 h2 h3
    have e1 := Nat.eq_of_beq_eq_true h1
    have e2 := Nat.le_of_ble_eq_true h2
    cases h
    cases ha with
    | @ptr _ _ cb sz hb =>
     have hlim := hr.lim
     have bn : b < b + 1 := by have := (hr.dom b cb sz hb).1; omega
     have hl := acells_ok hcs hx
     obtain ⟨o1, o2, o3, o4⟩ := hr.obj b _ cb sz ho hb
     have hadd : off + cs.length ≤ n := by simp at e2; omega
     obtain ⟨r1, r2⟩ := hr.store hb ho hadd hl
     rw [← e1]
     refine ⟨setCells w cb off x'.cells.toList, r1.relay ⟨_, hb⟩ (relay_cap o2) (relay_get o2 hadd), r2.relay ⟨_, hb⟩ bn hlim, ?_⟩
     have hlen := hl.length
     have hrun := run_storeCells (P := P) x'.cells.toList w cb off 0 (allCell_ok h3 hl) (fun k hk1 hk2 => o3 k (by omega))
     have hsz : x'.cells.size = i.size := by rw [← e1, hlen]; simp
     simp only [Instr.storeAt, Instr.sureAddr, storeVar, Sem.run_bind, Sem.run_pure, Result.andThen_ok, run_sizeOf' hi, hsz, Sem.run_ite]
     simpa using hrun
   ·cases h
  ·cases h
 ·cases h
def opStore (P : Program) (t : TypeId) (a x : Operand) (ρ : Operand → AVal) (H : Heap) (nx : Nat) : Option ARes :=
 match aStore P t H (ρ a) (ρ x) with
 | some H' => some (.val .und H' nx)
 | none => none
theorem opStore_ok {P : Program} {o : Oper} {t : TypeId} {a x : Operand} {ρ : Operand → AVal} {H : Heap} {nx : Nat} {r : ARes} (ho : o.op = .store t a x)
  (h : opStore P t a x ρ H nx = some r) : OpOK P o ρ H nx r := by
 unfold opStore at h
 split at h
 ·rename_i H' hv
  cases h
  intro σ w ρ' hr hd
  obtain ⟨w', r1, r2, hrun⟩ := aStore_ok hr (hd a) (hd x) hv
  exact ⟨σ, w', undef, r1, r2, .und _, .inr ⟨by simp [execOp, ho, hrun], rfl⟩⟩
 ·cases h
end
end Go.Vs
namespace Go.Vs
variable [GTab]
noncomputable section
def forceI {β : Type} (n : Int) (k : Int → β) : β :=
 Int.rec (motive := fun _ => (Int → β) → β) (fun a k => Nat.rec (k (.ofNat 0)) (fun m _ => k (.ofNat (Nat.succ m))) a) (fun a k => Nat.rec (k (.negSucc 0)) (fun m _ => k (.negSucc (Nat.succ m))) a) n k
theorem forceI_eq {β : Type} (n : Int) (k : Int → β) : forceI n k = k n := by
 cases n with
 | ofNat a => cases a <;> rfl
 | negSucc a => cases a <;> rfl
def forceN {β : Type} (n : Nat) (k : Nat → β) : β := Nat.rec (motive := fun _ => β) (k 0) (fun m _ => k (Nat.succ m)) n
theorem forceN_eq {β : Type} (n : Nat) (k : Nat → β) : forceN n k = k n := by cases n <;> rfl
def fits (k : IntKind) (n : Int) : Bool :=
 Int.rec (motive := fun _ => IntKind → Bool)
  (fun a k => IntKind.rec (Nat.ble a 127) (Nat.ble a 32767) (Nat.ble a 2147483647) (Nat.ble a 9223372036854775807) (Nat.ble a 255) (Nat.ble a 65535) (Nat.ble a 4294967295) (Nat.ble a 18446744073709551615) k)
  (fun a k => IntKind.rec (Nat.ble a 127) (Nat.ble a 32767) (Nat.ble a 2147483647) (Nat.ble a 9223372036854775807) false false false false k) n k
theorem fits_ok {k : IntKind} {n : Int} (h : fits k n = true) : k.wrap n = n := by
 have le : ∀ {a b : Nat}, Nat.ble a b = true → a ≤ b := fun h => Nat.le_of_ble_eq_true h
 cases n with
 | ofNat a =>
  have e : Int.ofNat a = (a : Int) := rfl
  rw [e] at h ⊢
  cases k
  ·have := le (b := 127) h; exact IntWalk.i8_in _ (by omega)
  ·have := le (b := 32767) h; exact IntWalk.i16_in _ (by omega)
  ·have := le (b := 2147483647) h; exact IntWalk.i32_in _ (by omega)
  ·have := le (b := 9223372036854775807) h; exact IntWalk.i64_in _ (by omega)
  ·have := le (b := 255) h; exact IntWalk.u8_in _ (by omega)
  ·have := le (b := 65535) h; exact IntWalk.u16_in _ (by omega)
  ·have := le (b := 4294967295) h; exact IntWalk.u32_in _ (by omega)
  ·have := le (b := 18446744073709551615) h; exact IntWalk.u64_in _ (by omega)
 | negSucc a =>
  cases k
  ·have := le (b := 127) h; exact IntWalk.i8_in _ (by omega)
  ·have := le (b := 32767) h; exact IntWalk.i16_in _ (by omega)
  ·have := le (b := 2147483647) h; exact IntWalk.i32_in _ (by omega)
  ·have := le (b := 9223372036854775807) h; exact IntWalk.i64_in _ (by omega)
  all_goals (cases h)
def awrap (k : IntKind) (n : Int) : Int := Bool.rec (k.wrap n) n (fits k n)
theorem awrap_eq (k : IntKind) (n : Int) : awrap k n = k.wrap n := by
 unfold awrap
 cases h : fits k n with
 | true => exact (fits_ok h).symm
 | false => rfl
def ilt (a b : Int) : Bool := Int.rec (motive := fun _ => Int → Bool) (fun x b => Int.rec (motive := fun _ => Nat → Bool) (fun y x => Nat.ble (Nat.succ x) y) (fun _ _ => false) b x) (fun x b => Int.rec (motive := fun _ => Nat → Bool) (fun _ _ => true) (fun y x => Nat.ble (Nat.succ y) x) b x) a b
def ieq (a b : Int) : Bool := Int.rec (motive := fun _ => Int → Bool) (fun x b => Int.rec (motive := fun _ => Nat → Bool) (fun y x => Nat.beq x y) (fun _ _ => false) b x) (fun x b => Int.rec (motive := fun _ => Nat → Bool) (fun _ _ => false) (fun y x => Nat.beq x y) b x) a b
theorem ilt_eq (a b : Int) : ilt a b = decide (a < b) := by
 rw [Bool.eq_iff_iff, decide_eq_true_iff]
 cases a with
 | ofNat x => cases b with
  | ofNat y => show Nat.ble (x + 1) y = true ↔ _; rw [Nat.ble_eq]; simp; omega
  | negSucc y => show false = true ↔ _; simp; omega
 | negSucc x => cases b with
  | ofNat y => show true = true ↔ _; simp; omega
  | negSucc y => show Nat.ble (y + 1) x = true ↔ _; rw [Nat.ble_eq]; omega
theorem ieq_eq (a b : Int) : ieq a b = (a == b) := by
 rw [Bool.eq_iff_iff, beq_iff_eq]
 cases a with
 | ofNat x => cases b with
  | ofNat y => show Nat.beq x y = true ↔ _; rw [Nat.beq_eq]; simp; omega
  | negSucc y => show false = true ↔ _; simp
 | negSucc x => cases b with
  | ofNat y => show false = true ↔ _; simp
  | negSucc y => show Nat.beq x y = true ↔ _; rw [Nat.beq_eq]; simp
def bnot (b : Bool) : Bool := Bool.rec true false b
theorem bnot_eq (b : Bool) : bnot b = !b := by cases b <;> rfl
def aInt (op : BinOp) (k : IntKind) (a b : Int) : Option AVal :=
 match op with
 | .add => forceI (awrap k (Int.add a b)) fun r => some (.int k r)
 | .sub => forceI (awrap k (Int.sub a b)) fun r => some (.int k r)
 | .mul => forceI (awrap k (Int.mul a b)) fun r => some (.int k r)
 | .quo => match ieq b 0 with | true => none | false => forceI (awrap k (Int.tdiv a b)) fun r => some (.int k r)
 | .rem => match ieq b 0 with | true => none | false => forceI (Int.tmod a b) fun r => some (.int k r)
 | .and => forceI (k.wrap (BitVec.ofInt k.bits a &&& BitVec.ofInt k.bits b).toNat) fun r => some (.int k r)
 | .or => forceI (k.wrap (BitVec.ofInt k.bits a ||| BitVec.ofInt k.bits b).toNat) fun r => some (.int k r)
 | .xor => forceI (k.wrap (BitVec.ofInt k.bits a ^^^ BitVec.ofInt k.bits b).toNat) fun r => some (.int k r)
 | .andNot => forceI (k.wrap (BitVec.ofInt k.bits a &&& ~~~BitVec.ofInt k.bits b).toNat) fun r => some (.int k r)
 | .eql => some (.bool (ieq a b))
 | .neq => some (.bool (bnot (ieq a b)))
 | .lss => some (.bool (ilt a b))
 | .leq => some (.bool (bnot (ilt b a)))
 | .gtr => some (.bool (ilt b a))
 | .geq => some (.bool (bnot (ilt a b)))
 | _ => none
def aShift (op : BinOp) (k : IntKind) (a b : Int) : Option AVal :=
 match ilt b 0, op with
 | false, .shl => forceI (k.wrap (a * 2 ^ (min b.toNat k.bits))) fun r => some (.int k r)
 | false, .shr => forceI (a.fdiv (2 ^ (min b.toNat k.bits))) fun r => some (.int k r)
 | _, _ => none
theorem aInt_ok {P : Program} {w : World} {op : BinOp} {k : IntKind} {a b : Int} {t : TypeId} {v : AVal} (σ : Sg) (h : aInt op k a b = some v) :
  ∃ v', Den σ v v' ∧ (binOp op t (.int k a) (.int k b)).run P w = .ok v' w := by
 unfold aInt at h
 split at h
 all_goals (try (cases h; done))
 all_goals (simp only [forceI_eq, awrap_eq, ieq_eq, ilt_eq, bnot_eq] at h)
 case h_4 => split at h <;> first | (cases h; done) | (rename_i hz; cases h; exact ⟨_, .int _ _, by have : ¬ b = 0 := (by simpa using hz); simp [binOp, Op.intDiv, this]⟩)
 case h_5 => split at h <;> first | (cases h; done) | (rename_i hz; cases h; exact ⟨_, .int _ _, by have : ¬ b = 0 := (by simpa using hz); simp [binOp, Op.intDiv, this]⟩)
 all_goals (cases h)
 all_goals first
  | (refine ⟨_, .int _ _, ?_⟩; simp only [binOp, ne_eq, not_true_eq_false, if_false, Op.intArith, Op.intBits]; rfl)
  | (refine ⟨_, .bool _, ?_⟩; simp only [binOp, ne_eq, not_true_eq_false, if_false, Op.intCmp, Sem.run_pure]; done)
  | (refine ⟨_, .bool _, ?_⟩; simp only [binOp, ne_eq, not_true_eq_false, if_false, Op.intCmp, Sem.run_pure]; rfl)
  | (refine ⟨_, .bool _, ?_⟩; simp only [binOp, ne_eq, not_true_eq_false, if_false, Op.intCmp, Sem.run_pure]; congr 2; rw [Bool.eq_iff_iff]; simp)
theorem aShift_ok {P : Program} {w : World} {op : BinOp} {k k' : IntKind} {a b : Int} {t : TypeId} {v : AVal} (σ : Sg) (h : aShift op k a b = some v) :
  ∃ v', Den σ v v' ∧ (binOp op t (.int k a) (.int k' b)).run P w = .ok v' w := by
 unfold aShift at h
 split at h
 ·rename_i h1
  rw [ilt_eq] at h1
  have h2 : ¬ b < 0 := by simpa using h1
  rw [forceI_eq] at h
  cases h
  exact ⟨_, .int _ _, by simp [binOp, Op.shift, h2]⟩
 ·rename_i h1
  rw [ilt_eq] at h1
  have h2 : ¬ b < 0 := by simpa using h1
  rw [forceI_eq] at h
  cases h
  exact ⟨_, .int _ _, by simp [binOp, Op.shift, h2]⟩
 ·cases h
theorem txt_toList (s : List UInt8) : (txt s).toList = s := by rw [ByteArray.toList_eq]; rfl
theorem txt_append (s t : List UInt8) : txt s ++ txt t = txt (s ++ t) := by
 unfold txt
 rw [ByteArray.mk_append_mk]
def aText (op : BinOp) (s t : List UInt8) : Option AVal :=
 match op with
 | .add => match Nat.ble (s.length + t.length) 9223372036854775807 with
  | true => some (.str (s ++ t))
  | false => none
 | .eql => some (.bool (s == t))
 | .neq => some (.bool (!(s == t)))
 | .lss => some (.bool (Op.bytesLess s t))
 | .leq => some (.bool (Op.bytesLess s t || s == t))
 | .gtr => some (.bool !(Op.bytesLess s t || s == t))
 | .geq => some (.bool !(Op.bytesLess s t))
 | _ => none
theorem aText_ok {P : Program} {w : World} {op : BinOp} {s u : List UInt8} {t : TypeId} {v : AVal} (σ : Sg) (h : aText op s u = some v) :
  ∃ v', Den σ v v' ∧ (binOp op t (.string (txt s)) (.string (txt u))).run P w = .ok v' w := by
 unfold aText at h
 split at h
 ·split at h
  ·rename_i hle
   have hle' := Nat.le_of_ble_eq_true hle
   cases h
   refine ⟨.string (txt (s ++ u)), .str _, ?_⟩
   have hsz : ¬ (((txt s).size + (txt u).size : Nat) : Int) > IntKind.i64.max := by
    rw [txt_size, txt_size]
    simp [IntKind.max, IntKind.signed, IntKind.bits]
    omega
   simp only [binOp, Op.stringOp, if_neg hsz, Sem.run_pure]
   rw [txt_append]
  ·cases h
 all_goals first
  | (cases h; done)
  | (cases h; exact ⟨_, .bool _, by simp only [binOp, Op.stringOp, Sem.run_pure, txt_toList]⟩)
def nilness : TypeDesc → AVal → Option Bool
 | .pointer _, .ptr _ _ => some false
 | .pointer _, .nilPtr => some true
 | .slice _, .slice .. => some false
 | .slice _, .nilSlice => some true
 | .slice _, .gslice .. => some false
 | .map _ _, .map _ => some false
 | .map _ _, .nilMap => some true
 | .func _ _ _, .func _ _ _ => some false
 | .func _ _ _, .nilFunc => some true
 | .interface _, .iface _ _ => some false
 | .interface _, .nilIface => some true
 | _, _ => none
def isConstO : Operand → Bool
 | .const _ => true
 | _ => false
def aEq (P : Program) (t : TypeId) (x y : Operand) (a b : AVal) : Option Bool :=
 match P.underlying t with
 | some .bool => match a, b with
  | .bool p, .bool q => some (Bool.rec (bnot q) q p)
  | _, _ => none
 | some d => match nilness d a, nilness d b with
  | some p, some q => match isConstO x, isConstO y with
   | true, _ => match p with | true => some q | false => none
   | false, true => match q with | true => some p | false => none
   | _, _ => none
  | _, _ => none
 | none => none
theorem eqGuard_run {P : Program} {w : World} {op : BinOp} {t : TypeId} {x y : Operand} {a b : Value} (h : (isConstO x = true ∨ isConstO y = true) ∨ ¬ (∃ cs ds, a = .agg cs ∧ b = .agg ds) ∧ ¬ (a = .nilIface ∧ b = .nilIface)) (hagg : ¬ (∃ cs ds, a = .agg cs ∧ b = .agg ds)) :
  (eqGuard op t x y a b).run P w = .ok () w := by
 have two : op = .eql ∨ op = .neq ∨ (eqGuard op t x y a b).run P w = .ok () w := by
  cases op <;> first | exact .inl rfl | exact .inr (.inl rfl) | exact .inr (.inr rfl)
 rcases two with rfl | rfl | h'
 case inr.inr => exact h'
 all_goals
  unfold eqGuard
  rw [if_neg (by simp)]
  cases a <;> cases b <;> first
   | rfl
   | exact (hagg ⟨_, _, rfl, rfl⟩).elim
   | skip
  rcases h with (h | h) | ⟨_, h⟩
  ·cases x <;> first | (simp [isConstO] at h; done) | rfl
  ·cases y <;> first | (simp [isConstO] at h; done) | (cases x <;> rfl)
  ·exact (h ⟨rfl, rfl⟩).elim
theorem equal_of {P : Program} {w : World} {t : TypeId} {a b : Value} {r : Bool} (h : ∀ d, (Op.equalIn (d + 1) t a b).run P w = .ok r w) : (Op.equal t a b).run P w = .ok r w := h 9999
structure Other (a b : Value) : Prop where
 agg : ¬ (∃ cs ds, a = .agg cs ∧ b = .agg ds)
 int : ∀ k n k' n', ¬ (a = .int k n ∧ b = .int k' n')
 str : ∀ s s', ¬ (a = .string s ∧ b = .string s')
 flt : ∀ k n k' n', ¬ (a = .float k n ∧ b = .float k' n')
 cpl : ∀ k n m k' n' m', ¬ (a = .complex k n m ∧ b = .complex k' n' m')
theorem run_nil {P : Program} {w : World} {t : TypeId} {d : TypeDesc} {a b : AVal} {a' b' : Value} {p q : Bool} {σ : Sg} (hu : P.underlying t = some d) (hp : nilness d a = some p) (hq : nilness d b = some q)
  (hpq : p = true ∨ q = true) (ha : Den σ a a') (hb : Den σ b b') : (Op.equal t a' b').run P w = .ok (Bool.rec p q p) w ∧ Other a' b' := by
 unfold nilness at hp
 split at hp <;> try (cases hp; done)
 all_goals (cases hp; unfold nilness at hq; split at hq <;> try (cases hq; done))
 all_goals (first | contradiction | skip)
 all_goals (cases hq)
 all_goals (first | (rcases hpq with e | e <;> cases e <;> done) | skip)
 all_goals (cases ha <;> cases hb)
 all_goals (refine ⟨equal_of fun d => ?_, ⟨?_, ?_, ?_, ?_, ?_⟩⟩)
 all_goals (first | (simp; done) | skip)
 all_goals (unfold Op.equalIn; simp only [Sem.run_bind, run_underlying' hu, Result.andThen_ok]; rfl)
theorem run_equal {P : Program} {w : World} {t : TypeId} {x y : Operand} {a b : AVal} {a' b' : Value} {r : Bool} {σ : Sg} (h : aEq P t x y a b = some r) (ha : Den σ a a') (hb : Den σ b b') :
  (Op.equal t a' b').run P w = .ok r w ∧ Other a' b' ∧ ((isConstO x = true ∨ isConstO y = true) ∨ ¬ (a' = .nilIface ∧ b' = .nilIface)) := by
 unfold aEq at h
 split at h
 ·rename_i hu
  split at h
  ·cases h
   cases ha
   cases hb
   rename_i p q
   refine ⟨equal_of fun d => ?_, ⟨by simp, by simp, by simp, by simp, by simp⟩, .inr (by simp)⟩
   unfold Op.equalIn
   simp only [Sem.run_bind, run_underlying' hu, Result.andThen_ok, Sem.run_pure]
   cases p <;> cases q <;> rfl
  ·cases h
 ·rename_i d hnb hu
  split at h
  ·rename_i p q hp hq
   split at h
   ·rename_i hc
    split at h
    ·cases h
     obtain ⟨h1, h2⟩ := run_nil (P := P) (w := w) hu hp hq (.inl rfl) ha hb
     exact ⟨h1, h2, .inl (.inl hc)⟩
    ·cases h
   ·rename_i hc
    split at h
    ·cases h
     obtain ⟨h1, h2⟩ := run_nil (P := P) (w := w) hu hp hq (.inr rfl) ha hb
     refine ⟨?_, h2, .inl (.inr hc)⟩
     cases r <;> exact h1
    ·cases h
   ·cases h
  ·cases h
 ·cases h
def flatInts (P : Program) : Nat → List Field → Nat → Bool
 | i, [], n => Nat.beq i n
 | i, f :: fs, n => (match P.underlying f.type with | some (.int _) => true | _ => false) && (Nat.beq f.offset i && (!(f.name == "_") && flatInts P (i + 1) fs n))
@[irreducible] def structOK (P : Program) (t : TypeId) (n : Nat) : Bool :=
 (match P.underlying t with | some (.struct _) => true | _ => false) && (!(P.stoodInHeld t) && (!(P.eqGuardType P.depth t) && flatInts P 0 (P.fieldsOf t).toList n))
def aggEq : List AVal → List AVal → Option Bool
 | [], [] => some true
 | .int k a :: cs, .int k' b :: ds => match decide (k = k') with
  | true => match aggEq cs ds with
   | some r => some (decide (a = b) && r)
   | none => none
  | false => none
 | _, _ => none
theorem aggEq_run {P : Program} {w : World} {σ : Sg} {xs ys : Array Value} {n d : Nat} : ∀ {fs : List Field} {i : Nat} {cs ds : List AVal} {r : Bool}, flatInts P i fs n = true → aggEq cs ds = some r → cs.length = n - i → DenL σ cs (xs.toList.drop i) → DenL σ ds (ys.toList.drop i) → (Op.eqFields (d + 1) xs ys fs).run P w = .ok r w
 | [], i, cs, ds, r, h, e, hl, hx, hy => by
  have h : i = n := Nat.eq_of_beq_eq_true h
  have : cs = [] := List.length_eq_zero_iff.1 (by omega)
  subst this
  cases ds with
  | nil => cases e; simp [Op.eqFields]
  | cons _ _ => cases e
 | f :: fs, i, cs, ds, r, h, e, hl, hx, hy => by
  unfold flatInts at h
  simp only [Bool.and_eq_true] at h
  obtain ⟨h1, h2, h3, h4⟩ := h
  have h2 : f.offset = i := Nat.eq_of_beq_eq_true h2
  have h3 : f.name ≠ "_" := by simpa using h3
  split at h1
  ·rename_i k0 hu
   cases cs with
   | nil =>
    exfalso
    have : ∀ {fs : List Field} {i : Nat}, flatInts P i fs n = true → i ≤ n := by
     intro fs
     induction fs with
     | nil => intro i h; exact Nat.le_of_eq (Nat.eq_of_beq_eq_true h)
     | cons g gs ih =>
      intro i h
      unfold flatInts at h
      simp only [Bool.and_eq_true] at h
      have := ih h.2.2.2
      omega
    have := this h4
    simp at hl
    omega
   | cons c cs =>
    cases c <;> try (cases e; done)
    rename_i k a
    cases ds with
    | nil => cases e
    | cons g ds =>
     cases g <;> try (cases e; done)
     rename_i k' b
     unfold aggEq at e
     split at e
     ·rename_i hk
      have hk : k = k' := of_decide_eq_true hk
      subst hk
      split at e
      ·rename_i r' hr'
       cases e
       generalize hxs : xs.toList.drop i = lx at hx
       generalize hys : ys.toList.drop i = ly at hy
       cases hx with
       | cons da ta =>
        cases hy with
        | cons db tb =>
         rename_i va la vb lb
         cases da
         cases db
         have gx : xs[i]? = some (.int k a) := by rw [← Array.getElem?_toList, ← List.head?_drop, hxs]; rfl
         have gy : ys[i]? = some (.int k b) := by rw [← Array.getElem?_toList, ← List.head?_drop, hys]; rfl
         have tx : xs.toList.drop (i + 1) = la := by rw [← List.tail_drop, hxs]; rfl
         have ty : ys.toList.drop (i + 1) = lb := by rw [← List.tail_drop, hys]; rfl
         have px : ∀ w, (part f.type xs f.offset).run P w = .ok (.int k a) w := fun w => by
          rw [h2]; simp [part, run_isAgg' hu, aggD, gx]
         have py : ∀ w, (part f.type ys f.offset).run P w = .ok (.int k b) w := fun w => by
          rw [h2]; simp [part, run_isAgg' hu, aggD, gy]
         have ih := aggEq_run (P := P) (w := w) (σ := σ) (xs := xs) (ys := ys) (n := n) (d := d) h4 hr' (by simp at hl; omega) (by rw [tx]; exact ta) (by rw [ty]; exact tb)
         unfold Op.eqFields
         rw [if_pos h3]
         simp only [Sem.run_bind, px, py, Result.andThen_ok, run_equalIn_int w d f.type k k0 a b hu]
         by_cases hab : a = b
         ·simp [hab, ih]
         ·simp [hab]
      ·cases e
     ·cases e
  ·cases h1
theorem structOK_run {P : Program} {w : World} {t : TypeId} {x y : Operand} {cs ds : List AVal} {a b : Value} {r : Bool} {σ : Sg} (h : structOK P t cs.length = true) (e : aggEq cs ds = some r) (ha : Den σ (.agg cs) a) (hb : Den σ (.agg ds) b) :
  (∀ op : BinOp, (eqGuard op t x y a b).run P w = .ok () w) ∧ (binOp .eql t a b).run P w = .ok (.bool r) w ∧ (binOp .neq t a b).run P w = .ok (.bool (!r)) w := by
 cases ha with
 | agg ha =>
 cases hb with
 | agg hb =>
 unfold structOK at h
 simp only [Bool.and_eq_true, Bool.not_eq_true'] at h
 obtain ⟨h1, h2, h3, h4⟩ := h
 have hu : P.underlying t = some (.struct (P.fieldsOf t)) := by
  unfold Program.fieldsOf
  split at h1
  ·rename_i fs e; rw [e]
  ·cases h1
 have heq : (Op.equalIn 10000 t (.agg ⟨_⟩) (.agg ⟨_⟩)).run P w = .ok r w := (run_equalIn_agg w 9999 t _ _ hu h2).trans (aggEq_run (d := 9998) h4 e (by omega) (by simpa using ha) (by simpa using hb))
 refine ⟨fun op => run_eqGuard_agg w op t x y _ _ h3, ?_, ?_⟩
 ·rw [run_eql_struct, heq]; rfl
 ·rw [run_neq_struct, heq]; rfl
def aEq2 (P : Program) (t : TypeId) (x y : Operand) (a b : AVal) : Option Bool :=
 match a, b with
 | .agg cs, .agg ds => match structOK P t cs.length with
  | true => aggEq cs ds
  | false => none
 | a, b => aEq P t x y a b
def opBin (P : Program) (op : BinOp) (t : TypeId) (x y : Operand) (ρ : Operand → AVal) (H : Heap) (nx : Nat) : Option ARes :=
 match ρ x, ρ y with
 | .int k a, .int k' b =>
  match op with
  | .shl | .shr => match aShift op k a b with
   | some v => some (.val v H nx)
   | none => none
  | op => match decide (k = k') with
   | true => match aInt op k a b with
    | some v => some (.val v H nx)
    | none => none
   | false => none
 | .str a, .str b => match aText op a b with
  | some v => some (.val v H nx)
  | none => none
 | a, b => match op with
  | .eql => match aEq2 P t x y a b with
   | some r => some (.val (.bool r) H nx)
   | none => none
  | .neq => match aEq2 P t x y a b with
   | some r => some (.val (.bool (bnot r)) H nx)
   | none => none
  | _ => none
theorem guard_int {P : Program} {w : World} {op : BinOp} {t : TypeId} {x y : Operand} {k k' : IntKind} {a b : Int} : (eqGuard op t x y (.int k a) (.int k' b)).run P w = .ok () w := by
 unfold eqGuard; split <;> rfl
theorem guard_str {P : Program} {w : World} {op : BinOp} {t : TypeId} {x y : Operand} {a b : ByteArray} : (eqGuard op t x y (.string a) (.string b)).run P w = .ok () w := by
 unfold eqGuard; split <;> rfl
theorem binOp_eql {t : TypeId} {a b : Value} (h : Other a b) :
  binOp .eql t a b = (do pure (.bool (← Op.equal t a b))) ∧ binOp .neq t a b = (do pure (.bool (!(← Op.equal t a b)))) := by
 cases a <;> cases b <;> first | exact ⟨rfl, rfl⟩ | skip
 all_goals first
  | exact (h.int _ _ _ _ ⟨rfl, rfl⟩).elim
  | exact (h.str _ _ ⟨rfl, rfl⟩).elim
  | exact (h.flt _ _ _ _ ⟨rfl, rfl⟩).elim
  | exact (h.cpl _ _ _ _ _ _ ⟨rfl, rfl⟩).elim
theorem opBin_ok {P : Program} {o : Oper} {op : BinOp} {t u : TypeId} {x y : Operand} {ρ : Operand → AVal} {H : Heap} {nx : Nat} {r : ARes} (ho : o.op = .binOp op t x y u)
  (h : opBin P op t x y ρ H nx = some r) : OpOK P o ρ H nx r := by
 unfold opBin at h
 split at h
 ·rename_i k a k' b hx hy
  split at h
  ·split at h
   ·rename_i v hv
    cases h
    refine OpOK.pure fun σ w ρ' _ hd => ?_
    have d1 := hd x; have d2 := hd y; rw [hx] at d1; rw [hy] at d2
    obtain ⟨v', dv, hrun⟩ := aShift_ok (P := P) (w := w) (t := t) (k' := k') σ hv
    refine ⟨v', dv, ?_⟩
    cases e1 : ρ' x <;> rw [e1] at d1 <;> cases d1
    cases e2 : ρ' y <;> rw [e2] at d2 <;> cases d2
    simp [execOp, ho, e1, e2, guard_int, hrun]
   ·cases h
  ·split at h
   ·rename_i v hv
    cases h
    refine OpOK.pure fun σ w ρ' _ hd => ?_
    have d1 := hd x; have d2 := hd y; rw [hx] at d1; rw [hy] at d2
    obtain ⟨v', dv, hrun⟩ := aShift_ok (P := P) (w := w) (t := t) (k' := k') σ hv
    refine ⟨v', dv, ?_⟩
    cases e1 : ρ' x <;> rw [e1] at d1 <;> cases d1
    cases e2 : ρ' y <;> rw [e2] at d2 <;> cases d2
    simp [execOp, ho, e1, e2, guard_int, hrun]
   ·cases h
  ·split at h
   ·rename_i hk
    have hk' : k = k' := by simpa using hk
    subst hk'
    split at h
    ·rename_i v hv
     cases h
     refine OpOK.pure fun σ w ρ' _ hd => ?_
     have d1 := hd x; have d2 := hd y; rw [hx] at d1; rw [hy] at d2
     obtain ⟨v', dv, hrun⟩ := aInt_ok (P := P) (w := w) (t := t) σ hv
     refine ⟨v', dv, ?_⟩
     cases e1 : ρ' x <;> rw [e1] at d1 <;> cases d1
     cases e2 : ρ' y <;> rw [e2] at d2 <;> cases d2
     simp [execOp, ho, e1, e2, guard_int, hrun]
    ·cases h
   ·cases h
 ·rename_i a b hx hy
  split at h
  ·rename_i v hv
   cases h
   refine OpOK.pure fun σ w ρ' _ hd => ?_
   have d1 := hd x; have d2 := hd y; rw [hx] at d1; rw [hy] at d2
   cases e1 : ρ' x <;> rw [e1] at d1 <;> cases d1
   cases e2 : ρ' y <;> rw [e2] at d2 <;> cases d2
   obtain ⟨v', dv, hrun⟩ := aText_ok (P := P) (w := w) (t := t) σ hv
   refine ⟨v', dv, ?_⟩
   simp [execOp, ho, e1, e2, guard_str, hrun]
  ·cases h
 ·skip
  split at h
  ·split at h
   ·rename_i r' hr'
    cases h
    refine OpOK.pure fun σ w ρ' _ hd => ?_
    refine ⟨.bool r', .bool _, ?_⟩
    unfold aEq2 at hr'
    split at hr'
    ·rename_i cs ds hx hy
     split at hr'
     ·rename_i hok
      have dx := hd x; have dy := hd y; rw [hx] at dx; rw [hy] at dy
      obtain ⟨q1, q2, _⟩ := structOK_run (x := x) (y := y) (w := w) hok hr' dx dy
      simp [execOp, ho, q1, q2]
     ·cases hr'
    obtain ⟨hrun, hoth, hg⟩ := run_equal (P := P) (w := w) hr' (hd x) (hd y)
    have hguard := eqGuard_run (P := P) (w := w) (op := .eql) (t := t) (x := x) (y := y) (a := ρ' x) (b := ρ' y) (hg.imp id fun h => ⟨hoth.agg, h⟩) hoth.agg
    simp [execOp, ho, hguard, (binOp_eql (t := t) hoth).1, hrun]
   ·cases h
  ·split at h
   ·rename_i r' hr'
    cases h
    refine OpOK.pure fun σ w ρ' _ hd => ?_
    refine ⟨.bool (bnot r'), .bool _, ?_⟩
    unfold aEq2 at hr'
    split at hr'
    ·rename_i cs ds hx hy
     split at hr'
     ·rename_i hok
      have dx := hd x; have dy := hd y; rw [hx] at dx; rw [hy] at dy
      obtain ⟨q1, _, q2⟩ := structOK_run (x := x) (y := y) (w := w) hok hr' dx dy
      simp [execOp, ho, q1, q2, bnot_eq]
     ·cases hr'
    obtain ⟨hrun, hoth, hg⟩ := run_equal (P := P) (w := w) hr' (hd x) (hd y)
    have hguard := eqGuard_run (P := P) (w := w) (op := .neq) (t := t) (x := x) (y := y) (a := ρ' x) (b := ρ' y) (hg.imp id fun h => ⟨hoth.agg, h⟩) hoth.agg
    simp [execOp, ho, hguard, (binOp_eql (t := t) hoth).2, hrun, bnot_eq]
   ·cases h
  ·cases h
end
end Go.Vs
end
section
namespace Go.Vs
variable [GTab]
noncomputable section
def opFieldAddr (P : Program) (s : TypeId) (x : Operand) (f : Nat) (ρ : Operand → AVal) (H : Heap) (nx : Nat) : Option ARes :=
 match P.underlying s with
 | some (.struct fields) => match fields[f]? with
  | some fd => match P.info? fd.type with
   | some i => match Nat.beq i.size 0 with
    | false => match ρ x with
     | .ptr b off => some (.val (.ptr b (Nat.add off fd.offset)) H nx)
     | .gptr g off => some (.val (.gptr g (Nat.add off fd.offset)) H nx)
     | _ => none
    | true => none
   | none => none
  | none => none
 | _ => none
theorem opFieldAddr_ok {P : Program} {o : Oper} {s : TypeId} {x : Operand} {f : Nat} {ρ : Operand → AVal} {H : Heap} {nx : Nat} {r : ARes} (ho : o.op = .fieldAddr s x f)
  (h : opFieldAddr P s x f ρ H nx = some r) : OpOK P o ρ H nx r := by
 unfold opFieldAddr at h
 split at h <;> try (cases h; done)
 rename_i fields hu
 split at h <;> try (cases h; done)
 rename_i fd hf
 split at h <;> try (cases h; done)
 rename_i i hi
 split at h <;> try (cases h; done)
 rename_i hz
 have hz' : ¬ i.size = 0 := fun e => by rw [e] at hz; cases hz
 split at h <;> try (cases h; done)
 ·rename_i b off hx
  cases h
  refine OpOK.pure fun σ w ρ' _ hd => ?_
  have d := hd x
  rw [hx] at d
  cases e : ρ' x <;> rw [e] at d <;> cases d
  rename_i cb sz hb
  refine ⟨.pointer (some (at' cb (off + fd.offset))), .ptr hb, ?_⟩
  have := addr_add cb off fd.offset
  simp [execOp, ho, Instr.fieldAt, run_underlying' hu, hf, e, Instr.sureAddr, fieldPlace, run_sizeOf' hi, hz', this]
 ·rename_i g off hx
  cases h
  refine OpOK.pure fun σ w ρ' _ hd => ?_
  have d := hd x
  rw [hx] at d
  cases e : ρ' x <;> rw [e] at d <;> cases d
  refine ⟨.pointer (some (at' g (off + fd.offset))), .gptr _ _, ?_⟩
  have := addr_add g off fd.offset
  simp [execOp, ho, Instr.fieldAt, run_underlying' hu, hf, e, Instr.sureAddr, fieldPlace, run_sizeOf' hi, hz', this]
def aPart (P : Program) (t : TypeId) (cs : List AVal) (off : Nat) : Option AVal :=
 match P.underlying t, P.info? t with
 | some d, some i => match aggD d with
  | true => some (.agg (List.take i.size (List.drop off cs)))
  | false => match List.drop off cs with
   | v :: _ => some v
   | [] => none
 | _, _ => none
theorem aPart_ok {P : Program} {t : TypeId} {cs : List AVal} {cs' : List Value} {off : Nat} {v : AVal} {σ : Sg} {w : World} (h : aPart P t cs off = some v) (hd : DenL σ cs cs') :
  ∃ v', Den σ v v' ∧ (part t ⟨cs'⟩ off).run P w = .ok v' w := by
 unfold aPart at h
 split at h <;> try (cases h; done)
 rename_i d i hu hi
 split at h
 ·rename_i hagg
  cases h
  refine ⟨.agg ⟨(cs'.drop off).take i.size⟩, .agg ((hd.drop off).take i.size), ?_⟩
  have e : (Array.mk cs').extract off (off + i.size) = ⟨(cs'.drop off).take i.size⟩ := by
   apply Array.ext'
   simp [List.extract]
  simp [part, run_isAgg' hu, hagg, run_sizeOf' hi]
 ·rename_i hagg
  split at h <;> try (cases h; done)
  rename_i v0 rest hdrop
  cases h
  have hl := hd.drop off
  rw [hdrop] at hl
  cases hl' : cs'.drop off with
  | nil => rw [hl'] at hl; cases hl
  | cons v' rest' =>
   rw [hl'] at hl
   cases hl with
   | cons hv _ =>
    refine ⟨v', hv, ?_⟩
    have e : (Array.mk cs')[off]? = some v' := by
     have : cs'[off]? = some v' := by
      have := congrArg (fun l : List Value => l[0]?) hl'
      simpa using this
     simpa using this
    simp [part, run_isAgg' hu, hagg, e]
def opField (P : Program) (t : TypeId) (x : Operand) (f : Nat) (ρ : Operand → AVal) (H : Heap) (nx : Nat) : Option ARes :=
 match P.underlying t with
 | some (.struct fields) => match fields[f]? with
  | some fd => match ρ x with
   | .agg cs => match aPart P fd.type cs fd.offset with
    | some v => some (.val v H nx)
    | none => none
   | _ => none
  | none => none
 | _ => none
theorem opField_ok {P : Program} {o : Oper} {t : TypeId} {x : Operand} {f : Nat} {ρ : Operand → AVal} {H : Heap} {nx : Nat} {r : ARes} (ho : o.op = .field t x f)
  (h : opField P t x f ρ H nx = some r) : OpOK P o ρ H nx r := by
 unfold opField at h
 split at h <;> try (cases h; done)
 rename_i fields hu
 split at h <;> try (cases h; done)
 rename_i fd hf
 split at h <;> try (cases h; done)
 rename_i cs hx
 split at h <;> try (cases h; done)
 rename_i v hv
 cases h
 refine OpOK.pure fun σ w ρ' _ hd => ?_
 have d := hd x
 rw [hx] at d
 cases e : ρ' x <;> rw [e] at d <;> cases d
 rename_i cs' hl
 obtain ⟨v', dv, hrun⟩ := aPart_ok (w := w) hv hl
 exact ⟨v', dv, by simp [execOp, ho, Instr.field, run_underlying' hu, hf, e, asAgg, hrun]⟩
def asNat : Int → Option Nat
 | .ofNat n => some n
 | .negSucc _ => none
theorem asNat_ok {i : Int} {n : Nat} (h : asNat i = some n) : i = (n : Int) := by cases i <;> cases h; rfl
def opIndexAddr (P : Program) (t : TypeId) (x ix : Operand) (ρ : Operand → AVal) (H : Heap) (nx : Nat) : Option ARes :=
 match ρ ix with
 | .int _ i => match asNat i with
  | some n => match P.underlying t, ρ x with
   | some (.array len elem), .ptr b off => match Nat.ble (Nat.succ n) len, P.info? elem with
    | true, some e => some (.val (.ptr b (Nat.add off (Nat.mul n e.size))) H nx)
    | _, _ => none
   | some (.array len elem), .gptr g off => match Nat.ble (Nat.succ n) len, P.info? elem with
    | true, some e => some (.val (.gptr g (Nat.add off (Nat.mul n e.size))) H nx)
    | _, _ => none
   | some (.slice elem), .slice b off len _ _ => match Nat.ble (Nat.succ n) len, P.info? elem with
    | true, some e => some (.val (.ptr b (Nat.add off (Nat.mul n e.size))) H nx)
    | _, _ => none
   | some (.slice elem), .gslice g off len _ => match Nat.ble (Nat.succ n) len, P.info? elem with
    | true, some e => some (.val (.gptr g (Nat.add off (Nat.mul n e.size))) H nx)
    | _, _ => none
   | _, _ => none
  | none => none
 | _ => none
theorem opIndexAddr_ok {P : Program} {o : Oper} {t : TypeId} {x ix : Operand} {ρ : Operand → AVal} {H : Heap} {nx : Nat} {r : ARes} (ho : o.op = .indexAddr t x ix)
  (h : opIndexAddr P t x ix ρ H nx = some r) : OpOK P o ρ H nx r := by
 unfold opIndexAddr at h
 split at h <;> try (cases h; done)
 rename_i k i hix
 split at h <;> try (cases h; done)
 rename_i n hn
 have hi := asNat_ok hn
 subst hi
 split at h
 ·rename_i len elem b off hu hx
  split at h <;> try (cases h; done)
  rename_i ei hle he
  have hlt := Nat.le_of_ble_eq_true hle
  cases h
  refine OpOK.pure fun σ w ρ' _ hd => ?_
  have d := hd x; have d2 := hd ix
  rw [hx] at d; rw [hix] at d2
  cases e : ρ' x <;> rw [e] at d <;> cases d
  cases e2 : ρ' ix <;> rw [e2] at d2 <;> cases d2
  rename_i cb sz hb
  refine ⟨.pointer (some (at' cb (off + n * ei.size))), .ptr hb, ?_⟩
  have := addr_add cb off (n * ei.size)
  have h1 : n < len := by omega
  simp [execOp, ho, Instr.indexAt, e, e2, asIntOf, run_underlying' hu, Instr.sureAddr, h1, run_sizeOf' he, this]
 ·rename_i len elem g off hu hx
  split at h <;> try (cases h; done)
  rename_i ei hle he
  have hlt := Nat.le_of_ble_eq_true hle
  cases h
  refine OpOK.pure fun σ w ρ' _ hd => ?_
  have d := hd x; have d2 := hd ix
  rw [hx] at d; rw [hix] at d2
  cases e : ρ' x <;> rw [e] at d <;> cases d
  cases e2 : ρ' ix <;> rw [e2] at d2 <;> cases d2
  refine ⟨.pointer (some (at' g (off + n * ei.size))), .gptr _ _, ?_⟩
  have := addr_add g off (n * ei.size)
  have h1 : n < len := by omega
  simp [execOp, ho, Instr.indexAt, e, e2, asIntOf, run_underlying' hu, Instr.sureAddr, h1, run_sizeOf' he, this]
 ·rename_i elem b off len esz full hu hx
  split at h <;> try (cases h; done)
  rename_i ei hle he
  have hlt := Nat.le_of_ble_eq_true hle
  cases h
  refine OpOK.pure fun σ w ρ' _ hd => ?_
  have d := hd x; have d2 := hd ix
  rw [hx] at d; rw [hix] at d2
  cases e : ρ' x <;> rw [e] at d <;> cases d
  ·cases e2 : ρ' ix <;> rw [e2] at d2 <;> cases d2
   rename_i cb sz hb h1 h2 h3
   refine ⟨.pointer (some (at' cb (off + n * ei.size))), .ptr hb, ?_⟩
   have := addr_add cb off (n * ei.size)
   have h1 : n < len := by omega
   simp [execOp, ho, Instr.indexAt, e, e2, asIntOf, run_underlying' hu, h1, run_sizeOf' he, this]
  ·omega
 ·rename_i elem g off len esz hu hx
  split at h <;> try (cases h; done)
  rename_i ei hle he
  have hlt := Nat.le_of_ble_eq_true hle
  cases h
  refine OpOK.pure fun σ w ρ' _ hd => ?_
  have d := hd x; have d2 := hd ix
  rw [hx] at d; rw [hix] at d2
  cases e : ρ' x <;> rw [e] at d <;> cases d
  ·cases e2 : ρ' ix <;> rw [e2] at d2 <;> cases d2
   refine ⟨.pointer (some (at' g (off + n * ei.size))), .gptr _ _, ?_⟩
   have := addr_add g off (n * ei.size)
   have h1 : n < len := by omega
   simp [execOp, ho, Instr.indexAt, e, e2, asIntOf, run_underlying' hu, h1, run_sizeOf' he, this]
  ·omega
 ·cases h
def opIndex (P : Program) (t : TypeId) (x ix : Operand) (ρ : Operand → AVal) (H : Heap) (nx : Nat) : Option ARes :=
 match ρ ix with
 | .int _ i => match asNat i with
  | some n => match P.underlying t, ρ x with
   | some (.array len elem), .agg cs => match Nat.ble (Nat.succ n) len, P.info? elem with
    | true, some e => match aPart P elem cs (Nat.mul n e.size) with
     | some v => some (.val v H nx)
     | none => none
    | _, _ => none
   | some .string, .str l => match l[n]? with
    | some c => some (.val (.int .u8 (.ofNat c.toNat)) H nx)
    | none => none
   | _, _ => none
  | none => none
 | _ => none
theorem opIndex_ok {P : Program} {o : Oper} {t : TypeId} {x ix : Operand} {ρ : Operand → AVal} {H : Heap} {nx : Nat} {r : ARes} (ho : o.op = .index t x ix)
  (h : opIndex P t x ix ρ H nx = some r) : OpOK P o ρ H nx r := by
 unfold opIndex at h
 split at h <;> try (cases h; done)
 rename_i k i hix
 split at h <;> try (cases h; done)
 rename_i n hn
 have hi := asNat_ok hn
 subst hi
 split at h
 ·rename_i len elem cs hu hx
  split at h <;> try (cases h; done)
  rename_i ei hle he
  have hlt := Nat.le_of_ble_eq_true hle
  split at h <;> try (cases h; done)
  rename_i v hv
  cases h
  refine OpOK.pure fun σ w ρ' _ hd => ?_
  have d := hd x; have d2 := hd ix
  rw [hx] at d; rw [hix] at d2
  cases e : ρ' x <;> rw [e] at d <;> cases d
  cases e2 : ρ' ix <;> rw [e2] at d2 <;> cases d2
  rename_i cs' hl
  obtain ⟨v', dv, hrun⟩ := aPart_ok (w := w) hv hl
  refine ⟨v', dv, ?_⟩
  have h1 : n < len := by omega
  have hrun' : (part elem ⟨cs'⟩ (n * ei.size)).run P w = .ok v' w := hrun
  simp [execOp, ho, Instr.index, e, e2, asIntOf, run_underlying' hu, h1, run_sizeOf' he, hrun']
 ·rename_i l hu hx
  split at h <;> try (cases h; done)
  rename_i c hc
  cases h
  refine OpOK.pure fun σ w ρ' _ hd => ?_
  have d := hd x; have d2 := hd ix
  rw [hx] at d; rw [hix] at d2
  cases e : ρ' x <;> rw [e] at d <;> cases d
  cases e2 : ρ' ix <;> rw [e2] at d2 <;> cases d2
  refine ⟨_, .int _ _, ?_⟩
  have hlt : n < l.length := by
   rcases Nat.lt_or_ge n l.length with h | h
   ·exact h
   ·rw [List.getElem?_eq_none h] at hc; cases hc
  have hg : (txt l)[n]? = some c := by
   have hs : n < (txt l).size := by rw [txt_size]; exact hlt
   rw [ByteArray.getElem?_lt' _ _ hs]
   rw [List.getElem?_eq_getElem hlt] at hc
   exact hc
  simp only [execOp, ho, Instr.index, e, e2, asIntOf, Sem.run_bind, Sem.run_pure, Result.andThen_ok, run_underlying' hu]
  have h0 : (0 : Int) ≤ (n : Int) := by omega
  rw [if_pos h0, Int.toNat_natCast, hg]
  simp only [Sem.run_pure, Result.andThen_ok]
  rfl
 ·cases h
def opExtract (t : Operand) (i : Nat) (ρ : Operand → AVal) (H : Heap) (nx : Nat) : Option ARes :=
 match ρ t with
 | .tuple vs => match vs[i]? with
  | some v => some (.val v H nx)
  | none => none
 | _ => none
theorem opExtract_ok {P : Program} {o : Oper} {t : Operand} {i : Nat} {ρ : Operand → AVal} {H : Heap} {nx : Nat} {r : ARes} (ho : o.op = .extract t i)
  (h : opExtract t i ρ H nx = some r) : OpOK P o ρ H nx r := by
 unfold opExtract at h
 split at h <;> try (cases h; done)
 rename_i vs hx
 split at h <;> try (cases h; done)
 rename_i v hv
 cases h
 refine OpOK.pure fun σ w ρ' _ hd => ?_
 have d := hd t
 rw [hx] at d
 cases e : ρ' t <;> rw [e] at d <;> cases d
 rename_i vs' hl
 obtain ⟨v', hv', dv⟩ := hl.get i v hv
 exact ⟨v', dv, by simp [execOp, ho, Instr.extract, e, hv']⟩
def ifaceD : TypeDesc → Bool
 | .interface _ => true
 | _ => false
def opMakeInterface (P : Program) (t : TypeId) (x : Operand) (ρ : Operand → AVal) (H : Heap) (nx : Nat) : Option ARes :=
 match P.underlying t with
 | some d => match ifaceD d with
  | false => some (.val (.iface t (ρ x)) H nx)
  | true => none
 | none => none
theorem opMakeInterface_ok {P : Program} {o : Oper} {t : TypeId} {x : Operand} {ρ : Operand → AVal} {H : Heap} {nx : Nat} {r : ARes} (ho : o.op = .makeInterface t x)
  (h : opMakeInterface P t x ρ H nx = some r) : OpOK P o ρ H nx r := by
 unfold opMakeInterface at h
 split at h <;> try (cases h; done)
 rename_i d hu
 split at h <;> try (cases h; done)
 rename_i hd'
 cases h
 refine OpOK.pure fun σ w ρ' _ hd => ⟨.iface t (ρ' x), .iface (hd x), ?_⟩
 simp only [execOp, ho, Instr.makeInterface, Sem.run_bind, run_underlying' hu, Result.andThen_ok]
 cases d <;> first | rfl | (cases hd')
theorem denL_map {σ : Sg} {ρ : Operand → AVal} {ρ' : Operand → Value} (h : ∀ x, Den σ (ρ x) (ρ' x)) : ∀ l : List Operand, DenL σ (l.map ρ) (l.map ρ')
 | [] => .nil
 | x :: l => .cons (h x) (denL_map h l)
theorem arr_map {ρ' : Operand → Value} (xs : Array Operand) : xs.map ρ' = ⟨xs.toList.map ρ'⟩ := by
 apply Array.ext'
 simp
def opMakeFunc (fn : Fn) (first captured : Array Operand) (ρ : Operand → AVal) (H : Heap) (nx : Nat) : Option ARes :=
 some (.val (.func fn (first.toList.map ρ) (captured.toList.map ρ)) H nx)
theorem opMakeFunc_ok {P : Program} {o : Oper} {fn : Fn} {first captured : Array Operand} {ρ : Operand → AVal} {H : Heap} {nx : Nat} {r : ARes} (ho : o.op = .makeFunc fn first captured)
  (h : opMakeFunc fn first captured ρ H nx = some r) : OpOK P o ρ H nx r := by
 cases h
 refine OpOK.pure fun σ w ρ' _ hd => ⟨.func fn ⟨first.toList.map ρ'⟩ ⟨captured.toList.map ρ'⟩, .func (denL_map hd _) (denL_map hd _), ?_⟩
 simp only [execOp, ho, Instr.makeFunc, Sem.run_bind, Sem.run_pure, Result.andThen_ok, arr_map]
def opNilCheck (x : Operand) (ρ : Operand → AVal) (H : Heap) (nx : Nat) : Option ARes :=
 match ρ x with
 | .ptr b off => some (.val (.ptr b off) H nx)
 | .gptr g off => some (.val (.gptr g off) H nx)
 | .iface t v => some (.val (.iface t v) H nx)
 | .func (.func f) a b => some (.val (.func (.func f) a b) H nx)
 | _ => none
theorem opNilCheck_ok {P : Program} {o : Oper} {x : Operand} {ρ : Operand → AVal} {H : Heap} {nx : Nat} {r : ARes} (ho : o.op = .nilCheck x)
  (h : opNilCheck x ρ H nx = some r) : OpOK P o ρ H nx r := by
 unfold opNilCheck at h
 split at h <;> try (cases h; done)
 all_goals (rename_i hx; cases h; refine OpOK.pure fun σ w ρ' _ hd => ?_; have d := hd x; rw [hx] at d)
 all_goals (refine ⟨ρ' x, d, ?_⟩; cases e : ρ' x <;> rw [e] at d <;> cases d)
 all_goals (simp [execOp, ho, e])
def opUn (op : UnOp) (x : Operand) (ρ : Operand → AVal) (H : Heap) (nx : Nat) : Option ARes :=
 match op, ρ x with
 | .neg, .int k n => forceI (awrap k (Int.sub 0 n)) fun r => some (.val (.int k r) H nx)
 | .not, .bool b => some (.val (.bool (bnot b)) H nx)
 | _, _ => none
theorem opUn_ok {P : Program} {o : Oper} {op : UnOp} {t : TypeId} {x : Operand} {ρ : Operand → AVal} {H : Heap} {nx : Nat} {r : ARes} (ho : o.op = .unOp op t x)
  (h : opUn op x ρ H nx = some r) : OpOK P o ρ H nx r := by
 unfold opUn at h
 split at h <;> try (cases h; done)
 ·rename_i k n hx
  rw [forceI_eq, awrap_eq] at h
  cases h
  refine OpOK.pure fun σ w ρ' _ hd => ?_
  have d := hd x; rw [hx] at d
  refine ⟨_, .int _ _, ?_⟩
  cases e : ρ' x <;> rw [e] at d <;> cases d
  simp only [execOp, ho, e, Op.unary, Op.intArith, Sem.run_bind, Sem.run_pure, Result.andThen_ok]
  rfl
 ·rename_i b hx
  cases h
  refine OpOK.pure fun σ w ρ' _ hd => ?_
  have d := hd x; rw [hx] at d
  refine ⟨_, .bool _, ?_⟩
  cases e : ρ' x <;> rw [e] at d <;> cases d
  simp [execOp, ho, e, Op.unary, bnot_eq]
def bytesOf : List AVal → Option (List UInt8)
 | [] => some []
 | .int .u8 (.ofNat n) :: l => match Nat.ble n 255, bytesOf l with
  | true, some bs => some (UInt8.ofNat n :: bs)
  | _, _ => none
 | _ => none
theorem bytesOf_ok : ∀ {l : List AVal} {bs : List UInt8}, bytesOf l = some bs → l = bs.map (fun b => AVal.int .u8 (.ofNat b.toNat))
 | [], bs, h => by cases h; rfl
 | v :: l, bs, h => by
  unfold bytesOf at h
  split at h <;> try (cases h; done)
  ·rename_i e; cases e
  ·rename_i n l' e
   cases e
   split at h <;> try (cases h; done)
   rename_i bs' hn hl
   cases h
   have hn' : n < 256 := Nat.lt_of_le_of_lt (Nat.le_of_ble_eq_true hn) (by decide)
   have hb : (UInt8.ofNat n).toNat = n := by simp [UInt8.toNat_ofNat', Nat.mod_eq_of_lt hn']
   rw [List.map_cons, hb, ← bytesOf_ok hl]
theorem denL_bytes {σ : Sg} : ∀ {bs : List UInt8} {l' : List Value}, DenL σ (bs.map fun b => AVal.int .u8 (.ofNat b.toNat)) l' → l' = (bs.map fun b => (b.toNat : Int)).map (Value.int .u8)
 | [], _, .nil => rfl
 | b :: bs, _, .cons h t => by
  cases h
  rw [denL_bytes t]
  rfl
theorem push_bytes : ∀ (bs : List UInt8) (s : ByteArray), (bs.map fun b => (b.toNat : Int)).foldl (fun r n => r.push (UInt8.ofNat n.toNat)) s = ⟨s.data ++ bs.toArray⟩
 | [], s => by simp
 | b :: bs, s => by
  rw [List.map_cons, List.foldl_cons, push_bytes bs]
  have : (s.push (UInt8.ofNat ((b.toNat : Int).toNat))).data = s.data.push b := by simp [ByteArray.push]
  rw [this]
  simp
def opConv (P : Program) (src dst : TypeId) (x : Operand) (ρ : Operand → AVal) (H : Heap) (nx : Nat) : Option ARes :=
 match P.underlying src, P.underlying dst, ρ x with
 | some _, some (.int k), .int _ n => forceI (awrap k n) fun r => some (.val (.int k r) H nx)
 | some _, some .string, .str s => some (.val (.str s) H nx)
 | some (.slice e), some .string, .slice b off n _ _ => match P.underlying e, get5 b H with
  | some (.int .u8), some (.cells cnt ct _ _) => match Nat.ble (Nat.add off n) cnt with
   | true => match bytesOf (CT.slab ct n off) with
    | some z => some (.val (.str z) H nx)
    | none => none
   | false => none
  | _, _ => none
 | some (.slice e), some .string, .nilSlice => match P.underlying e with
  | some (.int .u8) => some (.val (.str []) H nx)
  | _ => none
 | _, _, _ => none
theorem opConv_ok {P : Program} {o : Oper} {src dst : TypeId} {x : Operand} {ρ : Operand → AVal} {H : Heap} {nx : Nat} {r : ARes} (ho : o.op = .convert src dst x)
  (h : opConv P src dst x ρ H nx = some r) : OpOK P o ρ H nx r := by
 unfold opConv at h
 split at h <;> try (cases h; done)
 ·rename_i d k k' n hs hdst hx
  rw [forceI_eq, awrap_eq] at h
  cases h
  refine OpOK.pure fun σ w ρ' _ hd => ?_
  have dx := hd x; rw [hx] at dx
  refine ⟨_, .int _ _, ?_⟩
  cases e : ρ' x <;> rw [e] at dx <;> cases dx
  simp [execOp, ho, e, convert, run_underlying' hs, run_underlying' hdst, Conv.intToInt]
 ·rename_i d s hs hdst hx
  cases h
  refine OpOK.pure fun σ w ρ' _ hd => ?_
  have dx := hd x; rw [hx] at dx
  refine ⟨ρ' x, dx, ?_⟩
  cases e : ρ' x <;> rw [e] at dx <;> cases dx
  simp [execOp, ho, e, convert, run_underlying' hs, run_underlying' hdst]
 ·rename_i el b off n esz full hs hdst hx
  split at h <;> try (cases h; done)
  rename_i cnt ct olds s hel hob
  split at h <;> try (cases h; done)
  rename_i hle
  have hle' : off + n ≤ cnt := Nat.le_of_ble_eq_true hle
  split at h <;> try (cases h; done)
  rename_i bs hz
  cases h
  have e1 := bytesOf_ok hz
  have hlen : bs.length = n := by have := CT.slab_length ct n off; rw [e1] at this; simpa using this
  refine OpOK.pure fun σ w ρ' hr hd => ?_
  have dx := hd x; rw [hx] at dx
  have key : ∀ (a : Addr) (cap : Nat), (loadCells a n).run P w = .ok ((bs.map fun b => (b.toNat : Int)).map (Value.int .u8)).toArray w → ∃ v', Den σ (.str bs) v' ∧ (convert src dst (.slice (some a) n cap)).run P w = .ok v' w := by
   intro a cap hl
   refine ⟨_, Den.str bs, ?_⟩
   rw [run_convert_bytes_string w src dst el _ _ cap hs hel hdst, run_bytesToString w a n cap _ hl, push_bytes]
   have e0 : (ByteArray.empty.data ++ bs.toArray) = bs.toArray := by
    show #[] ++ bs.toArray = bs.toArray
    simp
   rw [e0]
   rfl
  cases e : ρ' x <;> rw [e] at dx <;> cases dx
  ·rename_i cap cb sz hb h1 h2 h3
   obtain ⟨l', _, hl, _, hrun⟩ := load_slab hr hob hb P off n hle'
   rw [e1] at hl
   rw [denL_bytes hl] at hrun
   obtain ⟨v', dv, hv⟩ := key (at' cb off) cap hrun
   exact ⟨v', dv, by simp [execOp, ho, e, hv]⟩
  ·rename_i off' cb sz hb
   have hbs : bs = [] := List.length_eq_zero_iff.1 hlen
   subst hbs
   obtain ⟨v', dv, hv⟩ := key (at' cb off') 0 (by simp [loadCells, loadCellsFrom])
   have hv' : (convert src dst (.slice (some { block := cb, off := off' }) 0 0)).run P w = .ok v' w := hv
   exact ⟨v', dv, by simp [execOp, ho, e, hv']⟩
 ·rename_i el hs hdst hx
  split at h <;> try (cases h; done)
  rename_i hel
  cases h
  refine OpOK.pure fun σ w ρ' hr hd => ?_
  have dx := hd x; rw [hx] at dx
  cases e : ρ' x <;> rw [e] at dx <;> cases dx
  refine ⟨_, Den.str [], ?_⟩
  have := run_convert_bytes_string w src dst el none 0 0 hs hel hdst
  simp only [execOp, ho, e, Sem.run_bind, this]
  simp [Conv.bytesToString, txt, ByteArray.empty, ByteArray.emptyWithCapacity]
  rfl
end
end Go.Vs
namespace Go.Vs
variable [GTab]
noncomputable section
def bnd (d : Nat) (x : Option Operand) (ρ : Operand → AVal) : Option Nat :=
 match x with
 | none => some d
 | some y => match ρ y with
  | .int _ i => asNat i
  | _ => none
theorem bnd_ok {d n : Nat} {x : Option Operand} {ρ : Operand → AVal} {ρ' : Operand → Value} {σ : Sg} (hd : ∀ x, Den σ (ρ x) (ρ' x)) (h : bnd d x ρ = some n) :
  (x.map ρ' = none ∧ n = d) ∨ ∃ k, x.map ρ' = some (.int k (n : Int)) := by
 unfold bnd at h
 split at h
 ·cases h; exact .inl ⟨rfl, rfl⟩
 ·rename_i y
  split at h <;> try (cases h; done)
  rename_i k i hy
  have hi := asNat_ok h
  subst hi
  have := hd y
  rw [hy] at this
  cases e : ρ' y <;> rw [e] at this <;> cases this
  exact .inr ⟨k, by simp [e]⟩
theorem run_sliceBound {P : Program} {w : World} {k : IntKind} {n y : Nat} {c : BoundsCode} (h : n ≤ y) : (Instr.sliceBound (.int k (n : Int)) y c).run P w = .ok n w := by
 simp [Instr.sliceBound, asIntOf, h]
theorem run_sliceBounds {P : Program} {w : World} {isS : Bool} {len cap l h : Nat} {lo hi : Option Value} (hh : (hi = none ∧ h = len) ∨ ∃ k, hi = some (.int k (h : Int))) (hle : h ≤ cap)
  (hl : (lo = none ∧ l = 0) ∨ ∃ k, lo = some (.int k (l : Int))) (hlh : l ≤ h) : (Instr.sliceBounds isS len cap lo hi none).run P w = .ok (l, h, cap) w := by
 rcases hh with ⟨rfl, rfl⟩ | ⟨k, rfl⟩ <;> rcases hl with ⟨rfl, rfl⟩ | ⟨k', rfl⟩
 ·simp [Instr.sliceBounds]
 ·simp [Instr.sliceBounds, run_sliceBound hlh]
 ·simp [Instr.sliceBounds, run_sliceBound hle]
 ·simp [Instr.sliceBounds, run_sliceBound hle, run_sliceBound hlh]
def opSlice (P : Program) (t : TypeId) (x : Operand) (lo hi mx : Option Operand) (ρ : Operand → AVal) (H : Heap) (nx : Nat) : Option ARes :=
 match mx with
 | some _ => none
 | none => match P.underlying t, ρ x with
  | some .string, .str s => match bnd 0 lo ρ, bnd s.length hi ρ with
   | some l, some h => match Nat.ble h s.length, Nat.ble l h with
    | true, true => some (.val (.str ((s.drop l).take (h - l))) H nx)
    | _, _ => none
   | _, _ => none
  | some (.slice elem), .slice b off len esz full => match bnd 0 lo ρ, bnd len hi ρ, P.info? elem with
   | some l, some h, some e => match Nat.ble h len, Nat.ble l h, Nat.beq e.size esz with
    | true, true, true => forceN (Nat.add off (Nat.mul l esz)) fun o => forceN (Nat.sub h l) fun m => some (.val (.slice b o m esz (Bool.rec false full (Nat.beq h len))) H nx)
    | _, _, _ => none
   | _, _, _ => none
  | some (.slice elem), .nilSlice => match bnd 0 lo ρ, bnd 0 hi ρ, P.info? elem with
   | some 0, some 0, some _ => some (.val .nilSlice H nx)
   | _, _, _ => none
  | some (.slice elem), .gslice g off len esz => match bnd 0 lo ρ, bnd len hi ρ, P.info? elem with
   | some l, some h, some e => match Nat.ble h len, Nat.ble l h, Nat.beq e.size esz with
    | true, true, true => some (.val (.gslice g (Nat.add off (Nat.mul l esz)) (Nat.sub h l) esz) H nx)
    | _, _, _ => none
   | _, _, _ => none
  | some (.array n elem), .ptr b off => match bnd 0 lo ρ, bnd n hi ρ, P.info? elem, get5 b H with
   | some l, some h, some e, some (.cells cnt _ _ _) => match Nat.ble h n, Nat.ble l h, Nat.ble (Nat.add off (Nat.mul n e.size)) cnt with
    | true, true, true => forceN (Nat.add off (Nat.mul l e.size)) fun o => forceN (Nat.sub h l) fun m => some (.val (.slice b o m e.size (Nat.beq h n)) H nx)
    | _, _, _ => none
   | _, _, _, _ => none
  | _, _ => none
theorem opSlice_ok {P : Program} {o : Oper} {t : TypeId} {x : Operand} {lo hi mx : Option Operand} {ρ : Operand → AVal} {H : Heap} {nx : Nat} {r : ARes} (ho : o.op = .slice t x lo hi mx)
  (h : opSlice P t x lo hi mx ρ H nx = some r) : OpOK P o ρ H nx r := by
 unfold opSlice at h
 split at h <;> try (cases h; done)
 split at h
 ·rename_i s hu hx
  split at h <;> try (cases h; done)
  rename_i l hh hl hhi
  split at h <;> try (cases h; done)
  rename_i h1 h2
  have h1' := Nat.le_of_ble_eq_true h1
  have h2' := Nat.le_of_ble_eq_true h2
  cases h
  refine OpOK.pure fun σ w ρ' _ hd => ?_
  have d := hd x; rw [hx] at d
  cases e : ρ' x <;> rw [e] at d <;> cases d
  refine ⟨.string (txt ((s.drop l).take (hh - l))), .str _, ?_⟩
  have hb := run_sliceBounds (P := P) (w := w) (isS := false) (len := s.length) (cap := s.length) (bnd_ok hd hhi) h1' (bnd_ok hd hl) h2'
  have hx2 : (txt s).extract l hh = txt ((s.drop l).take (hh - l)) := by rw [Lib.extract_eq, txt_data]; rfl
  have hsz := txt_size s
  simp [execOp, ho, e, Instr.sliceAt, Instr.slice, run_underlying' hu, hsz, hb, hx2]
 ·rename_i elem b off len esz full hu hx
  split at h <;> try (cases h; done)
  rename_i l hh ei hl hhi hei
  split at h <;> try (cases h; done)
  rename_i h1 h2 h3
  have h1' := Nat.le_of_ble_eq_true h1
  have h2' := Nat.le_of_ble_eq_true h2
  have h3' := Nat.eq_of_beq_eq_true h3
  rw [forceN_eq, forceN_eq] at h
  cases h
  refine OpOK.pure fun σ w ρ' _ hd => ?_
  have d := hd x; rw [hx] at d
  cases e : ρ' x <;> rw [e] at d <;> cases d
  ·rename_i cap cb sz hb g1 g2 g3
   have hbd := run_sliceBounds (P := P) (w := w) (isS := true) (len := len) (cap := cap) (bnd_ok hd hhi) (by omega) (bnd_ok hd hl) h2'
   by_cases hm : cap = l
   ·refine ⟨.slice (some (at' cb off)) (hh - l) (cap - l), ?_, ?_⟩
    ·have e1 : hh - l = 0 := by omega
     have e2 : cap - l = 0 := by omega
     rw [e2]
     show Den σ (.slice b _ (hh - l) esz _) (.slice (some (at' cb off)) (hh - l) 0)
     rw [e1]
     exact .slice0 hb
    ·simp only [execOp, ho, e, Instr.sliceAt, Instr.slice, Sem.run_bind, Sem.run_pure, Result.andThen_ok, run_underlying' hu, Option.map_none, hbd, run_sizeOf' hei, if_pos hm]
   ·refine ⟨.slice (some (at' cb (off + l * esz))) (hh - l) (cap - l), .slice hb (show hh - l ≤ cap - l by omega) ?_ ?_, ?_⟩
    ·have : off + l * esz + (cap - l) * esz = off + cap * esz := by
      rw [Nat.add_assoc, ← Nat.add_mul]
      congr 2
      omega
     show off + l * esz + (cap - l) * esz ≤ sz
     omega
    ·intro hf
     cases hq : Nat.beq hh len with
     | true =>
      have := Nat.eq_of_beq_eq_true hq
      rw [hq] at hf
      have := g3 hf
      show cap - l = hh - l
      omega
     | false => rw [hq] at hf; cases hf
    ·have := addr_add cb off (l * esz)
     simp [execOp, ho, e, Instr.sliceAt, Instr.slice, run_underlying' hu, hbd, run_sizeOf' hei, hm, h3', this]
  ·rename_i off' cb sz hb
   have hl0 : l = 0 := by omega
   have hh0 : hh = 0 := by omega
   subst hl0
   subst hh0
   have hbd := run_sliceBounds (P := P) (w := w) (isS := true) (len := 0) (cap := 0) (bnd_ok hd hhi) (by omega) (bnd_ok hd hl) h2'
   refine ⟨.slice (some (at' cb off')) 0 0, .slice0 hb, ?_⟩
   simp [execOp, ho, e, Instr.sliceAt, Instr.slice, run_underlying' hu, hbd, run_sizeOf' hei]
 ·rename_i elem hu hx
  split at h <;> try (cases h; done)
  rename_i ei hl hhi hei
  cases h
  refine OpOK.pure fun σ w ρ' _ hd => ?_
  have d := hd x; rw [hx] at d
  cases e : ρ' x <;> rw [e] at d <;> cases d
  have hbd := run_sliceBounds (P := P) (w := w) (isS := true) (len := 0) (cap := 0) (bnd_ok hd hhi) (by omega) (bnd_ok hd hl) (Nat.le_refl _)
  refine ⟨.slice none 0 0, .nilSlice, ?_⟩
  simp [execOp, ho, e, Instr.sliceAt, Instr.slice, run_underlying' hu, hbd, run_sizeOf' hei]
 ·rename_i elem g off len esz hu hx
  split at h <;> try (cases h; done)
  rename_i l hh ei hl hhi hei
  split at h <;> try (cases h; done)
  rename_i h1 h2 h3
  have h1' := Nat.le_of_ble_eq_true h1
  have h2' := Nat.le_of_ble_eq_true h2
  have h3' := Nat.eq_of_beq_eq_true h3
  cases h
  refine OpOK.pure fun σ w ρ' _ hd => ?_
  have d := hd x; rw [hx] at d
  cases e : ρ' x <;> rw [e] at d <;> cases d
  ·rename_i cap g1
   have hbd := run_sliceBounds (P := P) (w := w) (isS := true) (len := len) (cap := cap) (bnd_ok hd hhi) (by omega) (bnd_ok hd hl) h2'
   by_cases hm : cap = l
   ·refine ⟨.slice (some (at' g off)) (hh - l) (cap - l), ?_, ?_⟩
    ·have e1 : hh - l = 0 := by omega
     show Den σ (.gslice g _ (hh - l) esz) (.slice (some (at' g off)) (hh - l) _)
     rw [e1]
     exact .gslice0
    ·simp only [execOp, ho, e, Instr.sliceAt, Instr.slice, Sem.run_bind, Sem.run_pure, Result.andThen_ok, run_underlying' hu, Option.map_none, hbd, run_sizeOf' hei, if_pos hm]
   ·refine ⟨.slice (some (at' g (off + l * esz))) (hh - l) (cap - l), .gslice (show hh - l ≤ cap - l by omega), ?_⟩
    have := addr_add g off (l * esz)
    simp [execOp, ho, e, Instr.sliceAt, Instr.slice, run_underlying' hu, hbd, run_sizeOf' hei, hm, h3', this]
  ·rename_i cap ad
   have hl0 : l = 0 := by omega
   have hh0 : hh = 0 := by omega
   subst hl0
   subst hh0
   have hbd := run_sliceBounds (P := P) (w := w) (isS := true) (len := 0) (cap := cap) (bnd_ok hd hhi) (by omega) (bnd_ok hd hl) h2'
   by_cases hm : cap = 0
   ·subst hm
    refine ⟨.slice (some ad) 0 0, .gslice0, ?_⟩
    simp [execOp, ho, e, Instr.sliceAt, Instr.slice, run_underlying' hu, hbd, run_sizeOf' hei]
   ·refine ⟨.slice (some (ad.add 0)) 0 cap, .gslice0, ?_⟩
    simp [execOp, ho, e, Instr.sliceAt, Instr.slice, run_underlying' hu, hbd, run_sizeOf' hei, hm, h3']
 ·rename_i n elem b off hu hx
  split at h <;> try (cases h; done)
  rename_i l hh ei cnt ct olds sp hl hhi hei hblk
  split at h <;> try (cases h; done)
  rename_i h1 h2 h3
  have h1' := Nat.le_of_ble_eq_true h1
  have h2' := Nat.le_of_ble_eq_true h2
  have h3' := Nat.le_of_ble_eq_true h3
  rw [forceN_eq, forceN_eq] at h
  cases h
  refine OpOK.pure fun σ w ρ' hr hd => ?_
  have d := hd x; rw [hx] at d
  cases e : ρ' x <;> rw [e] at d <;> cases d
  rename_i cb sz hb
  obtain ⟨o1, _, _, _⟩ := hr.obj b _ cb sz hblk hb
  have hbd := run_sliceBounds (P := P) (w := w) (isS := false) (len := n) (cap := n) (bnd_ok hd hhi) h1' (bnd_ok hd hl) h2'
  by_cases hm : n = l
  ·refine ⟨.slice (some (at' cb off)) (hh - l) (n - l), ?_, ?_⟩
   ·have e1 : hh - l = 0 := by omega
    have e2 : n - l = 0 := by omega
    rw [e2]
    show Den σ (.slice b _ (hh - l) ei.size _) (.slice (some (at' cb off)) (hh - l) 0)
    rw [e1]
    exact .slice0 hb
   ·simp only [execOp, ho, e, Instr.sliceAt, Instr.sureAddr, Sem.run_bind, Sem.run_pure, Result.andThen_ok, run_underlying' hu, Option.map_none, hbd, run_sizeOf' hei, if_pos hm]
  ·refine ⟨.slice (some (at' cb (off + l * ei.size))) (hh - l) (n - l), .slice hb (show hh - l ≤ n - l by omega) ?_ ?_, ?_⟩
   ·have : off + l * ei.size + (n - l) * ei.size = off + n * ei.size := by
     rw [Nat.add_assoc, ← Nat.add_mul]
     congr 2
     omega
    have h3'' : off + n * ei.size ≤ cnt := h3'
    show off + l * ei.size + (n - l) * ei.size ≤ sz
    omega
   ·intro hf
    have := Nat.eq_of_beq_eq_true hf
    show n - l = hh - l
    omega
   ·have := addr_add cb off (l * ei.size)
    simp [execOp, ho, e, Instr.sliceAt, Instr.sureAddr, run_underlying' hu, hbd, run_sizeOf' hei, hm, this]
 ·cases h
def okTuple (ok : Bool) (v : AVal) : AVal := match ok with | true => .tuple [v, .bool true] | false => v
def aFails (P : Program) (asserted : TypeId) (ok : Bool) : Option AVal :=
 match ok with
 | true => match P.info? asserted with
  | some i => match i.zero with
   | some z => some (.tuple [ofVal z, .bool false])
   | none => none
  | none => none
 | false => none
def aAssert (P : Program) (v : AVal) (asserted : TypeId) (ok : Bool) : Option AVal :=
 match P.underlying asserted, v with
 | some (.interface _), .nilIface => aFails P asserted ok
 | some (.interface want), .iface t x => match P.info? t with
  | some i => match Instr.missingMethod want i.methods with
   | none => some (okTuple ok (.iface t x))
   | some _ => aFails P asserted ok
  | none => none
 | some d, .nilIface => match ifaceD d with
  | false => aFails P asserted ok
  | true => none
 | some d, .iface t x => match ifaceD d with
  | false => match Nat.beq t asserted with
   | true => some (okTuple ok x)
   | false => aFails P asserted ok
  | true => none
 | _, _ => none
theorem den_okTuple {σ : Sg} {v : AVal} {v' : Value} (ok : Bool) (h : Den σ v v') : Den σ (okTuple ok v) (if ok then .tuple #[v', .bool true] else v') := by
 cases ok with
 | true => exact .tuple (.cons h (.cons (.bool _) .nil))
 | false => exact h
def opAssert (P : Program) (x : Operand) (asserted : TypeId) (ok : Bool) (ρ : Operand → AVal) (H : Heap) (nx : Nat) : Option ARes :=
 match aAssert P (ρ x) asserted ok with
 | some v => some (.val v H nx)
 | none => none
theorem opAssert_ok {P : Program} {o : Oper} {x : Operand} {xt asserted : TypeId} {ok : Bool} {ρ : Operand → AVal} {H : Heap} {nx : Nat} {r : ARes} (ho : o.op = .typeAssert x xt asserted ok)
  (h : opAssert P x asserted ok ρ H nx = some r) : OpOK P o ρ H nx r := by
 unfold opAssert at h
 split at h <;> try (cases h; done)
 rename_i v hv
 cases h
 have fails : ∀ {u : AVal} {σ : Sg}, aFails P asserted ok = some u → ok = true ∧ ∃ i z, P.info? asserted = some i ∧ i.zero = some z ∧ u = .tuple [ofVal z, .bool false] ∧ Den σ u (.tuple #[z, .bool false]) := by
  intro u σ hu
  unfold aFails at hu
  split at hu <;> try (cases hu; done)
  split at hu <;> try (cases hu; done)
  rename_i i hi
  split at hu <;> try (cases hu; done)
  rename_i z hz
  cases hu
  exact ⟨rfl, i, z, hi, hz, rfl, .tuple (.cons (den_ofVal σ z) (.cons (.bool _) .nil))⟩
 refine OpOK.pure fun σ w ρ' _ hd => ?_
 have d := hd x
 unfold aAssert at hv
 split at hv
 ·rename_i want hu hx
  rw [hx] at d
  cases e : ρ' x <;> rw [e] at d <;> cases d
  obtain ⟨hok, i, z, hi, hz, _, dz⟩ := fails (σ := σ) hv
  exact ⟨_, dz, by simp [execOp, ho, e, Instr.typeAssert, run_underlying' hu, hok, run_zeroValue' hi hz]⟩
 ·rename_i want t y hu hx
  rw [hx] at d
  cases e : ρ' x <;> rw [e] at d <;> cases d
  rename_i y' dy
  split at hv <;> try (cases hv; done)
  rename_i i hi
  split at hv
  ·rename_i hm
   cases hv
   exact ⟨_, den_okTuple ok (.iface dy), by simp [execOp, ho, e, Instr.typeAssert, run_underlying' hu, run_typeInfo' hi, hm]⟩
  ·rename_i m hm
   obtain ⟨hok, j, z, hj, hz, _, dz⟩ := fails (σ := σ) hv
   exact ⟨_, dz, by simp [execOp, ho, e, Instr.typeAssert, run_underlying' hu, run_typeInfo' hi, hm, hok, run_zeroValue' hj hz]⟩
 ·rename_i dd hni hu hx
  rw [hx] at d
  cases e : ρ' x <;> rw [e] at d <;> cases d
  split at hv <;> try (cases hv; done)
  rename_i hif
  obtain ⟨hok, j, z, hj, hz, _, dz⟩ := fails (σ := σ) hv
  refine ⟨_, dz, ?_⟩
  simp only [execOp, ho, e, Instr.typeAssert, Sem.run_bind, run_underlying' hu, Result.andThen_ok]
  cases dd <;> first | (cases hif; done) | (simp [hok, run_zeroValue' hj hz])
 ·rename_i dd t y hni hu hx
  rw [hx] at d
  cases e : ρ' x <;> rw [e] at d <;> cases d
  rename_i y' dy
  split at hv <;> try (cases hv; done)
  rename_i hif
  split at hv
  ·rename_i hq
   have hq' := Nat.eq_of_beq_eq_true hq
   cases hv
   refine ⟨_, den_okTuple ok dy, ?_⟩
   simp only [execOp, ho, e, Instr.typeAssert, Sem.run_bind, run_underlying' hu, Result.andThen_ok]
   cases dd <;> first | (cases hif; done) | (simp [hq'])
  ·rename_i hq
   have hq' : ¬ t = asserted := fun e => by subst e; simp at hq
   obtain ⟨hok, j, z, hj, hz, _, dz⟩ := fails (σ := σ) hv
   refine ⟨_, dz, ?_⟩
   simp only [execOp, ho, e, Instr.typeAssert, Sem.run_bind, run_underlying' hu, Result.andThen_ok]
   cases dd <;> first | (cases hif; done) | (simp [hq', hok, run_zeroValue' hj hz])
 ·cases hv
def hasBody (P : Program) (f : FuncId) : Bool :=
 match P.funcs[f]? with
 | some fn => match fn.body with
  | some _ => !(fn.name == "runtime.NumGoroutine")
  | none => false
 | none => false
theorem run_callFunc {P : Program} {f : FuncId} (h : hasBody P f = true) (args : Array Value) (w : World) : (callFunc f args).run P w = .ok (.enter f args) w := by
 unfold hasBody at h
 split at h <;> try (cases h; done)
 rename_i fn hf
 split at h <;> try (cases h; done)
 rename_i c hb
 have hn : ¬ fn.name = "runtime.NumGoroutine" := by simpa using h
 simp [callFunc, hf, hb, hn]
def callTo (P : Program) (v : AVal) (args : List AVal) : Option (FuncId × List AVal) :=
 match v with
 | .func (.func f) first captured => match hasBody P f with
  | true => some (f, first ++ args ++ captured)
  | false => none
 | _ => none
def lenOfA (P : Program) (t : TypeId) (v : AVal) : Option Nat :=
 match P.underlying t, v with
 | some .string, .str s => some s.length
 | some (.array n _), _ => some n
 | some (.slice _), .slice _ _ n _ _ => some n
 | some (.slice _), .nilSlice => some 0
 | some (.slice _), .gslice _ _ n _ => some n
 | _, _ => none
theorem lenOfA_ok {P : Program} {t : TypeId} {v : AVal} {v' : Value} {n : Nat} {σ : Sg} {w : World} {u : TypeId} (h : lenOfA P t v = some n) (hd : Den σ v v') :
  (Builtin.len_ #[t] u #[v']).run P w = .ok (.int .i64 (n : Int)) w := by
 unfold lenOfA at h
 split at h
 ·rename_i hu; cases h; cases hd
  have := txt_size ‹_›
  simp [Builtin.len_, run_underlying' hu, goInt, this]
 ·rename_i hu; cases h; simp [Builtin.len_, run_underlying' hu, goInt]
 ·rename_i hu; cases h; cases hd <;> simp [Builtin.len_, run_underlying' hu, goInt]
 ·rename_i hu; cases h; cases hd; simp [Builtin.len_, run_underlying' hu, goInt]
 ·rename_i hu; cases h; cases hd <;> simp [Builtin.len_, run_underlying' hu, goInt]
 ·cases h
def opCallV (P : Program) (f : Operand) (args : Array Operand) (ρ : Operand → AVal) (_H : Heap) (_nx : Nat) : Option ARes :=
 match callTo P (ρ f) (args.toList.map ρ) with
 | some (g, as) => some (.call g as)
 | none => none
theorem callTo_ok {P : Program} {v : AVal} {v' : Value} {args : List AVal} {args' : List Value} {f : FuncId} {as : List AVal} {σ : Sg} (h : callTo P v args = some (f, as)) (hv : Den σ v v') (ha : DenL σ args args') :
  hasBody P f = true ∧ ∃ first captured : List Value, v' = .func (.func f) ⟨first⟩ ⟨captured⟩ ∧ DenL σ as (first ++ args' ++ captured) := by
 unfold callTo at h
 split at h <;> try (cases h; done)
 split at h <;> try (cases h; done)
 rename_i hb
 cases h
 cases hv with
 | func h1 h2 => exact ⟨hb, _, _, rfl, (h1.append ha).append h2⟩
theorem opCallV_ok {P : Program} {o : Oper} {f : Operand} {c : Call} {ρ : Operand → AVal} {H : Heap} {nx : Nat} {r : ARes} (ho : o.op = .call c) (hc : c.callee = .value f)
  (h : opCallV P f c.args ρ H nx = some r) : OpOK P o ρ H nx r := by
 unfold opCallV at h
 split at h <;> try (cases h; done)
 rename_i g as hg
 cases h
 intro σ w ρ' hr hd
 obtain ⟨hb, first, captured, e, hl⟩ := callTo_ok hg (hd f) (denL_map hd c.args.toList)
 refine ⟨_, hl, ?_⟩
 simp only [execOp, ho, resolve, hc, e, Deferred.ofValue, Sem.run_bind, Sem.run_pure, Result.andThen_ok, invoke, run_callFunc hb, arr_map]
 simp
def opDefer (P : Program) (f : Operand) (args : Array Operand) (ρ : Operand → AVal) (_H : Heap) (_nx : Nat) : Option ARes :=
 match callTo P (ρ f) (args.toList.map ρ) with
 | some (g, as) => some (.dfr g as)
 | none => none
theorem opDefer_ok {P : Program} {o : Oper} {f : Operand} {c : Call} {ρ : Operand → AVal} {H : Heap} {nx : Nat} {r : ARes} (ho : o.op = .defer c) (hc : c.callee = .value f)
  (h : opDefer P f c.args ρ H nx = some r) : OpOK P o ρ H nx r := by
 unfold opDefer at h
 split at h <;> try (cases h; done)
 rename_i g as hg
 cases h
 intro σ w ρ' hr hd
 obtain ⟨hb, first, captured, e, hl⟩ := callTo_ok hg (hd f) (denL_map hd c.args.toList)
 refine ⟨{ target := .fn (.func g) ⟨captured⟩, args := ⟨first⟩ ++ c.args.map ρ' }, ⟨⟨captured⟩, rfl, ?_⟩, ?_⟩
 ·have e2 : ((⟨first⟩ ++ c.args.map ρ' : Array Value) ++ ⟨captured⟩).toList = first ++ c.args.toList.map ρ' ++ captured := by simp
  rw [e2]; exact hl
 ·simp [execOp, ho, resolve, hc, e, Deferred.ofValue]
def opPanic (x : Operand) (ρ : Operand → AVal) (_H : Heap) (_nx : Nat) : Option ARes :=
 match ρ x with
 | .iface t v => some (.pan (.iface t v))
 | _ => none
theorem opPanic_ok {P : Program} {o : Oper} {x : Operand} {ρ : Operand → AVal} {H : Heap} {nx : Nat} {r : ARes} (ho : o.op = .panic x)
  (h : opPanic x ρ H nx = some r) : OpOK P o ρ H nx r := by
 unfold opPanic at h
 split at h <;> try (cases h; done)
 rename_i t v hx
 cases h
 intro σ w ρ' hr hd
 have d := hd x; rw [hx] at d
 cases e : ρ' x <;> rw [e] at d <;> cases d
 rename_i v' dv
 exact ⟨_, .iface dv, by simp [execOp, ho, e, Instr.panic]⟩
def aMost (greatest : Bool) (k : IntKind) (n : Int) : List AVal → Option Int
 | [] => some n
 | .int _ m :: l => aMost greatest k (Bool.rec (Bool.rec n m (ilt m n)) (Bool.rec n m (ilt n m)) greatest) l
 | _ :: _ => none
theorem aMost_max {P : Program} {w : World} {σ : Sg} {k : IntKind} : ∀ {l : List AVal} {l' : List Value} {n m : Int}, aMost true k n l = some m → DenL σ l l' →
  (l'.foldlM Builtin.max2 (.int k n)).run P w = .ok (.int k m) w
 | [], _, n, m, h, .nil => by cases h; rfl
 | .int j q :: l, v' :: l', n, m, h, .cons hd ht => by
  cases hd
  have e : Bool.rec (motive := fun _ => Int) n q (ilt n q) = if q > n then q else n := by
   rw [ilt_eq]
   by_cases hq : n < q
   ·simp [hq]
   ·simp [hq]
  have := aMost_max (P := P) (w := w) (l := l) (n := Bool.rec (motive := fun _ => Int) n q (ilt n q)) h ht
  simp only [List.foldlM_cons, Builtin.max2, Sem.run_bind, Sem.run_pure, Result.andThen_ok]
  rw [← e]
  exact this
theorem aMost_min {P : Program} {w : World} {σ : Sg} {k : IntKind} : ∀ {l : List AVal} {l' : List Value} {n m : Int}, aMost false k n l = some m → DenL σ l l' →
  (l'.foldlM Builtin.min2 (.int k n)).run P w = .ok (.int k m) w
 | [], _, n, m, h, .nil => by cases h; rfl
 | .int j q :: l, v' :: l', n, m, h, .cons hd ht => by
  cases hd
  have e : Bool.rec (motive := fun _ => Int) n q (ilt q n) = if q < n then q else n := by
   rw [ilt_eq]
   by_cases hq : q < n
   ·simp [hq]
   ·simp [hq]
  have := aMost_min (P := P) (w := w) (l := l) (n := Bool.rec (motive := fun _ => Int) n q (ilt q n)) h ht
  simp only [List.foldlM_cons, Builtin.min2, Sem.run_bind, Sem.run_pure, Result.andThen_ok]
  rw [← e]
  exact this
def opBuiltin0 (P : Program) (b : Builtin) (types : Array TypeId) (args : Array Operand) (ρ : Operand → AVal) (H : Heap) (nx : Nat) : Option ARes :=
 match b, types.toList, args.toList with
 | .len, [t], [x] => match lenOfA P t (ρ x) with
  | some n => some (.val (.int .i64 (.ofNat n)) H nx)
  | none => none
 | .max, _, x :: l => match ρ x with
  | .int k n => match aMost true k n (l.map ρ) with
   | some m => forceI m fun m => some (.val (.int k m) H nx)
   | none => none
  | _ => none
 | .min, _, x :: l => match ρ x with
  | .int k n => match aMost false k n (l.map ρ) with
   | some m => forceI m fun m => some (.val (.int k m) H nx)
   | none => none
  | _ => none
 | .recover, _, [] => some .rcv
 | _, _, _ => none
theorem opBuiltin0_ok {P : Program} {o : Oper} {b : Builtin} {c : Call} {ρ : Operand → AVal} {H : Heap} {nx : Nat} {r : ARes} (ho : o.op = .call c) (hc : c.callee = .builtin b)
  (h : opBuiltin0 P b c.argTypes c.args ρ H nx = some r) : OpOK P o ρ H nx r := by
 unfold opBuiltin0 at h
 split at h <;> try (cases h; done)
 ·rename_i t x ht hx
  split at h <;> try (cases h; done)
  rename_i n hn
  cases h
  refine OpOK.pure fun σ w ρ' _ hd => ⟨.int .i64 (n : Int), .int _ _, ?_⟩
  have e1 : c.argTypes = #[t] := by apply Array.ext'; rw [ht]
  have e2 : c.args = #[x] := by apply Array.ext'; rw [hx]
  simp [execOp, ho, resolve, hc, invoke, builtin, e1, e2, lenOfA_ok (P := P) (w := w) hn (hd x)]
 ·rename_i x l hx
  split at h <;> try (cases h; done)
  rename_i k n hk
  split at h <;> try (cases h; done)
  rename_i m hm
  rw [forceI_eq] at h
  cases h
  refine OpOK.pure fun σ w ρ' _ hd => ⟨.int k m, .int _ _, ?_⟩
  have d := hd x; rw [hk] at d
  cases e : ρ' x <;> rw [e] at d <;> cases d
  have e2 : c.args = ⟨x :: l⟩ := by apply Array.ext'; rw [hx]
  have := aMost_max (P := P) (w := w) hm (denL_map hd l)
  simp [execOp, ho, resolve, hc, invoke, builtin, e2, Builtin.max_, e, this]
 ·rename_i x l hx
  split at h <;> try (cases h; done)
  rename_i k n hk
  split at h <;> try (cases h; done)
  rename_i m hm
  rw [forceI_eq] at h
  cases h
  refine OpOK.pure fun σ w ρ' _ hd => ⟨.int k m, .int _ _, ?_⟩
  have d := hd x; rw [hk] at d
  cases e : ρ' x <;> rw [e] at d <;> cases d
  have e2 : c.args = ⟨x :: l⟩ := by apply Array.ext'; rw [hx]
  have := aMost_min (P := P) (w := w) hm (denL_map hd l)
  simp [execOp, ho, resolve, hc, invoke, builtin, e2, Builtin.min_, e, this]
 ·cases h
  intro σ w ρ' _ hd
  simp [execOp, ho, resolve, hc, invoke, builtin]
end
end Go.Vs
end
section
namespace Go.Vs
variable [GTab]
noncomputable section
def seg (off : Nat) (cs l : List AVal) : List AVal := l.take off ++ cs ++ l.drop (off + cs.length)
def aFill (place : Nat → Option (Nat × Nat)) (ρ : Operand → AVal) (cells : List AVal) : List (Nat × Operand) → Option (List AVal)
 | [] => some cells
 | (i, x) :: rest =>
  match place i, acells (ρ x) with
  | some (off, size), some cs => match Nat.beq cs.length size, Nat.ble (Nat.add off size) cells.length with
   | true, true => aFill place ρ (seg off cs cells) rest
   | _, _ => none
  | _, _ => none
theorem set_fold : ∀ (xs : List Value) (k off : Nat) (A : Array Value), off + k + xs.length ≤ A.size →
  ((xs.zipIdx k).foldl (fun (cs : Array Value) (p : Value × Nat) => cs.setIfInBounds (off + p.2) p.1) A).toList = A.toList.take (off + k) ++ xs ++ A.toList.drop (off + k + xs.length)
 | [], k, off, A, h => by simp
 | x :: xs, k, off, A, h => by
  simp only [List.zipIdx_cons, List.foldl_cons, List.length_cons] at h ⊢
  rw [set_fold xs (k + 1) off _ (by simp; omega)]
  simp only [Array.toList_setIfInBounds]
  have hlt : off + k < A.toList.length := by simp; omega
  rw [List.set_eq_take_append_cons_drop, if_pos hlt]
  have e1 : (List.take (off + k) A.toList ++ x :: List.drop (off + k + 1) A.toList).take (off + (k + 1)) = List.take (off + k) A.toList ++ [x] := by
   rw [List.take_append]
   have : (List.take (off + k) A.toList).length = off + k := by simp; omega
   rw [this, List.take_of_length_le (by simp; omega)]
   have : off + (k + 1) - (off + k) = 1 := by omega
   rw [this]; simp
  have e2 : (List.take (off + k) A.toList ++ x :: List.drop (off + k + 1) A.toList).drop (off + (k + 1) + xs.length) = List.drop (off + k + (xs.length + 1)) A.toList := by
   rw [List.drop_append]
   have : (List.take (off + k) A.toList).length = off + k := by simp; omega
   rw [this, List.drop_of_length_le (by simp; omega)]
   have : off + (k + 1) + xs.length - (off + k) = xs.length + 1 := by omega
   rw [this]
   simp [List.drop_drop]
   congr 1
   omega
  rw [e1, e2]
  simp
theorem fill_ok {σ : Sg} {ρ : Operand → AVal} {ρ' : Operand → Value} (hd : ∀ x, Den σ (ρ x) (ρ' x)) (place : Nat → Option (Nat × Nat)) :
  ∀ (parts : List (Nat × Operand)) (zs cs : List AVal) (zs' : List Value), aFill place ρ zs parts = some cs → DenL σ zs zs' →
   ∃ cs', Instr.fill place ⟨zs'⟩ (parts.map fun p => (p.1, ρ' p.2)) = some ⟨cs'⟩ ∧ DenL σ cs cs' ∧ cs.length = zs.length
 | [], zs, cs, zs', h, hz => by cases h; exact ⟨zs', rfl, hz, rfl⟩
 | (i, x) :: rest, zs, cs, zs', h, hz => by
  unfold aFill at h
  split at h <;> try (cases h; done)
  rename_i off size xs hp hxs
  split at h <;> try (cases h; done)
  rename_i h1 h2
  have h1' := Nat.eq_of_beq_eq_true h1
  have h2' := Nat.le_of_ble_eq_true h2
  have hx := acells_ok hxs (hd x)
  have hlz := hz.length
  have hlx := hx.length
  have hsz : (ρ' x).cells.size = size := by rw [← h1', hlx]; simp
  have hadd : off + size ≤ zs'.length := by simp at h2'; omega
  have hs : DenL σ (seg off xs zs) (zs'.take off ++ (ρ' x).cells.toList ++ zs'.drop (off + (ρ' x).cells.toList.length)) := by
   unfold seg
   rw [← hlx]
   exact ((hz.take off).append hx).append (hz.drop _)
  have hseg : (seg off xs zs).length = zs.length := by unfold seg; simp; omega
  obtain ⟨cs', e, hc, hlen⟩ := fill_ok hd place rest _ cs _ h hs
  refine ⟨cs', ?_, hc, hlen.trans hseg⟩
  have hfold : (ρ' x).cells.zipIdx.foldl (fun (cs : Array Value) (p : Value × Nat) => cs.setIfInBounds (off + p.2) p.1) ⟨zs'⟩ = ⟨zs'.take off ++ (ρ' x).cells.toList ++ zs'.drop (off + (ρ' x).cells.toList.length)⟩ := by
   apply Array.ext'
   rw [← Array.foldl_toList, Array.toList_zipIdx]
   have := set_fold (ρ' x).cells.toList 0 off ⟨zs'⟩ (by simp; omega)
   simpa using this
  simp only [List.map_cons, Instr.fill, hp]
  have hcond : ¬ ((decide ((ρ' x).cells.size ≠ size) || decide (off + (ρ' x).cells.size > (Array.mk zs').size)) = true) := by
   simp
   omega
  rw [if_neg hcond]
  rw [← e]
  congr 1
theorem parts_map {ρ' : Operand → Value} (ps : Array (Nat × Operand)) : (ps.map fun (i, x) => (i, ρ' x)).toList = ps.toList.map fun p => (p.1, ρ' p.2) := by
 simp
def places (P : Program) : List Field → Option (List (Nat × Nat))
 | [] => some []
 | f :: l => match P.info? f.type, places P l with
  | some i, some r => some ((f.offset, i.size) :: r)
  | _, _ => none
theorem places_run {P : Program} {w : World} : ∀ (l : List Field) (r : List (Nat × Nat)), places P l = some r →
  (l.mapM fun f => do pure (f.offset, ← sizeOf f.type) : Sem (List (Nat × Nat))).run P w = .ok r w
 | [], r, h => by cases h; rfl
 | f :: l, r, h => by
  unfold places at h
  split at h <;> try (cases h; done)
  rename_i i r' hi hr
  cases h
  have ih := places_run (P := P) (w := w) l r' hr
  simp only [List.mapM_cons, Sem.run_bind, run_sizeOf' hi, Result.andThen_ok, Sem.run_pure, ih]
def zeroL (P : Program) (t : TypeId) : Option (List AVal) :=
 match P.info? t with
 | some i => match i.zero with
  | some z => match Nat.beq z.cells.toList.length i.size with
   | true => some (z.cells.toList.map ofCell)
   | false => none
  | none => none
 | none => none
theorem zeroL_ok {P : Program} {t : TypeId} {l : List AVal} (h : zeroL P t = some l) : ∃ i z, P.info? t = some i ∧ i.zero = some z ∧ l = z.cells.toList.map ofCell ∧ z.cells.size = i.size := by
 unfold zeroL at h
 split at h <;> try (cases h; done)
 rename_i i hi
 split at h <;> try (cases h; done)
 rename_i z hz
 split at h <;> try (cases h; done)
 rename_i hq
 cases h
 exact ⟨i, z, hi, hz, rfl, by have := Nat.eq_of_beq_eq_true hq; simpa using this⟩
def aBuild (P : Program) (t : TypeId) (parts : Array (Nat × Operand)) (ρ : Operand → AVal) : Option (List AVal) :=
 match zeroL P t, P.underlying t with
 | some z, some (.struct fields) => match places P fields.toList with
  | some pl => aFill (fun i => pl[i]?) ρ z parts.toList
  | none => none
 | some z, some (.array _ elem) => match P.info? elem with
  | some e => aFill (fun i => some (Nat.mul i e.size, e.size)) ρ z parts.toList
  | none => none
 | _, _ => none
def opBuild (P : Program) (t : TypeId) (parts : Array (Nat × Operand)) (ρ : Operand → AVal) (H : Heap) (nx : Nat) : Option ARes :=
 match aBuild P t parts ρ with
 | some cs => some (.val (.agg cs) H nx)
 | none => none
theorem opBuild_ok {P : Program} {o : Oper} {t : TypeId} {parts : Array (Nat × Operand)} {ρ : Operand → AVal} {H : Heap} {nx : Nat} {r : ARes} (ho : o.op = .build t parts)
  (h : opBuild P t parts ρ H nx = some r) : OpOK P o ρ H nx r := by
 unfold opBuild at h
 split at h <;> try (cases h; done)
 rename_i cs hcs
 cases h
 refine OpOK.pure fun σ w ρ' _ hd => ?_
 unfold aBuild at hcs
 split at hcs <;> try (cases hcs; done)
 ·rename_i z fields hz hu
  split at hcs <;> try (cases hcs; done)
  rename_i pl hpl
  obtain ⟨i, zv, hi, hzv, rfl, hsz⟩ := zeroL_ok hz
  obtain ⟨cs', e, hc, _⟩ := fill_ok hd (fun i => pl[i]?) parts.toList _ cs zv.cells.toList hcs (denL_ofCell σ _)
  refine ⟨.agg ⟨cs'⟩, .agg hc, ?_⟩
  have hm : (fields.mapM fun f => do pure (f.offset, ← sizeOf f.type) : Sem (Array (Nat × Nat))).run P w = .ok ⟨pl⟩ w := by
   rw [Array.mapM_eq_mapM_toList]
   have := places_run (P := P) (w := w) fields.toList pl hpl
   simp only [Sem.run_map]
   rw [this]
   rfl
  have e' : Instr.fill (fun x => (Array.mk pl)[x]?) zv.cells (parts.map fun (i, x) => (i, ρ' x)).toList = some ⟨cs'⟩ := by
   rw [parts_map, ← e]
   congr 1
   funext x
   simp
  simp only [execOp, ho, Instr.build, Sem.run_bind, Sem.run_pure, Result.andThen_ok, run_zeroValue' hi hzv, run_underlying' hu, hm, e']
 ·rename_i z len elem hz hu
  split at hcs <;> try (cases hcs; done)
  rename_i ei hei
  obtain ⟨i, zv, hi, hzv, rfl, hsz⟩ := zeroL_ok hz
  obtain ⟨cs', e, hc, _⟩ := fill_ok hd (fun i => some (Nat.mul i ei.size, ei.size)) parts.toList _ cs zv.cells.toList hcs (denL_ofCell σ _)
  refine ⟨.agg ⟨cs'⟩, .agg hc, ?_⟩
  have e' : Instr.fill (fun i => some (i * ei.size, ei.size)) zv.cells (parts.map fun (i, x) => (i, ρ' x)).toList = some ⟨cs'⟩ := by
   rw [parts_map, ← e]
   congr 1
  simp only [execOp, ho, Instr.build, Sem.run_bind, Sem.run_pure, Result.andThen_ok, run_zeroValue' hi hzv, run_underlying' hu, run_sizeOf' hei, e']
structure Made where
 n : Nat
 l : List AVal
 v : Nat → AVal
def MadeOK (P : Program) (o : Oper) (ρ : Operand → AVal) (m : Made) : Prop :=
 ∀ (σ : Sg) (w : World) (ρ' : Operand → Value), (∀ x, Den σ (ρ x) (ρ' x)) →
  ∃ (l' : List Value) (t : TypeId) (v' : Value), DenL σ m.l l' ∧ m.l.length = m.n ∧ (∀ (σ' : Sg) (b : Nat), σ' b = some (w.heap.size, m.n) → Den σ' (m.v b) v') ∧
   (execOp ρ' o).run P w = .ok (.value v') (w.alloc (.cells ⟨l'⟩ t))
def madeAlloc (P : Program) (t : TypeId) : Option Made :=
 match zeroL P t with
 | some z => some ⟨z.length, z, fun b => .ptr b 0⟩
 | none => none
theorem madeAlloc_ok {P : Program} {o : Oper} {t : TypeId} {ρ : Operand → AVal} {m : Made} (ho : o.op = .alloc t) (h : madeAlloc P t = some m) : MadeOK P o ρ m := by
 unfold madeAlloc at h
 split at h <;> try (cases h; done)
 rename_i z hz
 cases h
 obtain ⟨i, zv, hi, hzv, rfl, hsz⟩ := zeroL_ok hz
 intro σ w ρ' hd
 refine ⟨zv.cells.toList, t, .pointer (some (at' w.heap.size 0)), denL_ofCell σ _, rfl, fun σ' b hb => .ptr hb, ?_⟩
 simp [execOp, ho, Instr.alloc, run_zeroValue' hi hzv, newVar, newRow]
def madeBox (x : Operand) (ρ : Operand → AVal) : Option Made :=
 match acells (ρ x) with
 | some cs => forceN cs.length fun n => some ⟨n, cs, fun b => .ptr b 0⟩
 | none => none
theorem madeBox_ok {P : Program} {o : Oper} {t : TypeId} {x : Operand} {ρ : Operand → AVal} {m : Made} (ho : o.op = .box t x) (h : madeBox x ρ = some m) : MadeOK P o ρ m := by
 unfold madeBox at h
 split at h <;> try (cases h; done)
 rename_i cs hcs
 rw [forceN_eq] at h
 cases h
 intro σ w ρ' hd
 refine ⟨(ρ' x).cells.toList, t, .pointer (some (at' w.heap.size 0)), acells_ok hcs (hd x), rfl, fun σ' b hb => .ptr hb, ?_⟩
 simp [execOp, ho, Instr.box, newVar, newRow]
def repL (l : List AVal) (k : Nat) : List AVal := Nat.rec [] (fun _ ih => l ++ ih) k
theorem repL_succ (l : List AVal) (k : Nat) : repL l (k + 1) = l ++ repL l k := rfl
def repV (l : List Value) : Nat → List Value
 | 0 => []
 | k + 1 => l ++ repV l k
theorem repL_den {σ : Sg} {l : List AVal} {l' : List Value} (h : DenL σ l l') : ∀ k, DenL σ (repL l k) (repV l' k)
 | 0 => .nil
 | k + 1 => by rw [repL_succ]; exact h.append (repL_den h k)
theorem repL_length (l : List AVal) : ∀ k, (repL l k).length = k * l.length
 | 0 => by show ([] : List AVal).length = _; simp
 | k + 1 => by rw [repL_succ, List.length_append, repL_length l k, Nat.succ_mul]; omega
theorem repV_eq (z : Array Value) : ∀ k : Nat, ((Array.range (k * z.size)).map (z[· % z.size]!)).toList = repV z.toList k := by
 intro k
 induction k with
 | zero => simp [repV]
 | succ k ih =>
  rw [repV, ← ih]
  simp only [Array.toList_map, Array.toList_range]
  have e : (k + 1) * z.size = z.size + k * z.size := by rw [Nat.succ_mul]; omega
  rw [e, List.range_add, List.map_append]
  congr 1
  ·apply List.ext_getElem
   ·simp
   ·intro i h1 h2
    simp at h1 h2
    simp [Nat.mod_eq_of_lt h1, getElem!_pos z i h1]
  ·rw [List.map_map]
   apply List.map_congr_left
   intro i _
   simp
def madeSliceLit (P : Program) (t : TypeId) (len : Nat) (parts : Array (Nat × Operand)) (ρ : Operand → AVal) : Option Made :=
 match P.underlying t with
 | some (.slice elem) => match zeroL P elem, P.info? elem with
  | some z, some e => match Nat.ble (Nat.mul len e.size) 4096, Nat.beq e.size 0 with
   | true, false => match aFill (fun i => some (Nat.mul i e.size, e.size)) ρ (repL z len) parts.toList with
    | some cs => some ⟨Nat.mul len e.size, cs, fun b => .slice b 0 len e.size true⟩
    | none => none
   | _, _ => none
  | _, _ => none
 | _ => none
theorem madeSliceLit_ok {P : Program} {o : Oper} {t : TypeId} {len : Nat} {parts : Array (Nat × Operand)} {ρ : Operand → AVal} {m : Made} (ho : o.op = .buildSlice t len parts)
  (h : madeSliceLit P t len parts ρ = some m) : MadeOK P o ρ m := by
 unfold madeSliceLit at h
 split at h <;> try (cases h; done)
 rename_i elem hu
 split at h <;> try (cases h; done)
 rename_i z e hz he
 split at h <;> try (cases h; done)
 rename_i h1 h2
 have h1' : len * e.size ≤ 4096 := Nat.le_of_ble_eq_true h1
 have h2' : e.size ≠ 0 := fun q => by rw [q] at h2; cases h2
 split at h <;> try (cases h; done)
 rename_i cs hcs
 cases h
 obtain ⟨i, zv, hi, hzv, rfl, hsz⟩ := zeroL_ok hz
 rw [he] at hi
 cases hi
 intro σ w ρ' hd
 obtain ⟨cs', ef, hc, hlen⟩ := fill_ok hd (fun i => some (Nat.mul i e.size, e.size)) parts.toList _ cs _ hcs (repL_den (denL_ofCell σ zv.cells.toList) len)
 have hlen' : cs.length = len * e.size := by rw [hlen, repL_length]; simp [hsz]
 refine ⟨cs', elem, .slice (some (at' w.heap.size 0)) len len, hc, hlen', fun σ' b hb => .slice hb (Nat.le_refl _) (by simp) (fun _ => rfl), ?_⟩
 have ez : (Array.range (len * e.size)).map (fun x => zv.cells[x % zv.cells.size]!) = ⟨repV zv.cells.toList len⟩ := by
  apply Array.ext'
  rw [← hsz]
  exact repV_eq zv.cells len
 have e' : Instr.fill (fun i => some (i * e.size, e.size)) ⟨repV zv.cells.toList len⟩ (parts.map fun (i, x) => (i, ρ' x)).toList = some ⟨cs'⟩ := by
  rw [parts_map, ← ef]
  congr 1
 have hbig : ¬ len * e.size > 2 ^ 24 := by omega
 simp only [execOp, ho, Instr.buildSlice, Sem.run_bind, Sem.run_pure, Result.andThen_ok, run_underlying' hu, run_sizeOf' he, Sem.run_ite, if_neg hbig]
 by_cases hl0 : len * e.size = 0
 ·have hlen0 : len = 0 := by
   rcases Nat.mul_eq_zero.1 hl0 with h | h
   ·exact h
   ·exact (h2' h).elim
  subst hlen0
  have ez' : (Array.range (0 * e.size)).map (fun x => (#[] : Array Value)[x % (#[] : Array Value).size]!) = ⟨repV zv.cells.toList 0⟩ := by simp [repV]
  simp only [if_pos hl0, Result.andThen_ok, ez', e', newRow, Sem.run_bind, run_newObj, Sem.run_pure]
  rfl
 ·simp only [if_neg hl0, run_zeroValue' he hzv, Sem.run_bind, Sem.run_pure, Result.andThen_ok, ez, e', newRow, run_newObj]
  rfl
def madeMake (P : Program) (t : TypeId) (l c : Operand) (ρ : Operand → AVal) : Option Made :=
 match P.underlying t, ρ l, ρ c with
 | some (.slice elem), .int _ li, .int _ ci => match zeroL P elem, P.info? elem, asNat li, asNat ci with
  | some z, some e, some n, some m => match Nat.beq n m, Nat.ble (Nat.mul n e.size) 9223372036854775807, Nat.ble (Nat.mul n e.bytes) 140737488355328, Nat.beq e.size 0, Nat.ble n 9223372036854775807 with
   | true, true, true, false, true => forceN (Nat.mul n e.size) fun k => some ⟨k, repL z n, fun b => .slice b 0 n e.size true⟩
   | _, _, _, _, _ => none
  | _, _, _, _ => none
 | _, _, _ => none
theorem madeMake_ok {P : Program} {o : Oper} {t : TypeId} {l c : Operand} {ρ : Operand → AVal} {m : Made} (ho : o.op = .makeSlice t l c)
  (h : madeMake P t l c ρ = some m) : MadeOK P o ρ m := by
 unfold madeMake at h
 split at h <;> try (cases h; done)
 rename_i elem k1 li k2 ci hu hl hc
 split at h <;> try (cases h; done)
 rename_i z e n n2 hz he hn hn2
 split at h <;> try (cases h; done)
 rename_i h1 h2 h3 h4 h5
 have h1' := Nat.eq_of_beq_eq_true h1
 subst h1'
 have h2' : n * e.size ≤ 9223372036854775807 := Nat.le_of_ble_eq_true h2
 have h3' : n * e.bytes ≤ 140737488355328 := Nat.le_of_ble_eq_true h3
 have h4' : e.size ≠ 0 := fun q => by rw [q] at h4; cases h4
 have h5' : n ≤ 9223372036854775807 := Nat.le_of_ble_eq_true h5
 have e1 := asNat_ok hn
 have e2 := asNat_ok hn2
 subst e1
 subst e2
 rw [forceN_eq] at h
 cases h
 obtain ⟨i, zv, hi, hzv, rfl, hsz⟩ := zeroL_ok hz
 rw [he] at hi
 cases hi
 intro σ w ρ' hd
 have d1 := hd l; rw [hl] at d1
 have d2 := hd c; rw [hc] at d2
 cases q1 : ρ' l <;> rw [q1] at d1 <;> cases d1
 cases q2 : ρ' c <;> rw [q2] at d2 <;> cases d2
 refine ⟨repV zv.cells.toList n, elem, .slice (some (at' w.heap.size 0)) n n, repL_den (denL_ofCell σ _) n, (by show _ = n * e.size; rw [repL_length, List.length_map, Array.length_toList, hsz]), fun σ' b hb => .slice hb (Nat.le_refl _) (by simp) (fun _ => rfl), ?_⟩
 have ez : (Array.range (n * e.size)).map (fun x => zv.cells[x % zv.cells.size]!) = ⟨repV zv.cells.toList n⟩ := by
  apply Array.ext'
  rw [← hsz]
  exact repV_eq zv.cells n
 have w1 : IntKind.i64.wrap (n : Int) = (n : Int) := IntWalk.i64_in _ (by omega)
 have t1 : ¬ ((n : Int) < 0) := by omega
 have hb : ((e.bytes : Int) * (n : Int)) = ((n * e.bytes : Nat) : Int) := by rw [Int.natCast_mul, Int.mul_comm]
 have t2 : ¬ ((e.bytes : Int) * (n : Int) > 2 ^ 48) := by rw [hb]; omega
 have t3 : ¬ ((n : Int) > (n : Int)) := by omega
 simp only [execOp, ho, Instr.makeSlice, q1, q2, Sem.run_bind, Sem.run_pure, Result.andThen_ok, run_underlying' hu, asInt, asIntOf, run_typeInfo' he, w1]
 have tl : (decide ((n : Int) < 0) || decide ((e.bytes : Int) * (n : Int) > 2 ^ 48)) = false := by rw [decide_eq_false t1, decide_eq_false t2]; rfl
 have cond : ¬ ((((decide ((n : Int) < 0) || decide ((e.bytes : Int) * (n : Int) > 2 ^ 48)) || decide ((n : Int) < 0)) || decide ((n : Int) > (n : Int))) = true) := by
  rw [tl]
  have : decide ((n : Int) < 0) = false := decide_eq_false t1
  rw [this]
  simp
 rw [Sem.run_ite, if_neg cond]
 simp only [Sem.run_bind, Sem.run_pure, Result.andThen_ok, run_askRoom, Int.toNat_natCast, run_sizeOf' he, Sem.run_ite]
 by_cases hl0 : n * e.size = 0
 ·have hn0 : n = 0 := by
   rcases Nat.mul_eq_zero.1 hl0 with h | h
   ·exact h
   ·exact (h4' h).elim
  subst hn0
  have ez' : (Array.range (0 * e.size)).map (fun x => (#[] : Array Value)[x % (#[] : Array Value).size]!) = ⟨repV zv.cells.toList 0⟩ := by simp [repV]
  simp only [if_pos hl0, Sem.run_pure, Result.andThen_ok, ez', newRow, Sem.run_bind, run_newObj]
  rfl
 ·simp only [if_neg hl0, run_zeroValue' he hzv, Sem.run_bind, Sem.run_pure, Result.andThen_ok, ez, newRow, run_newObj]
  rfl
def made (P : Program) (op : Op) (ρ : Operand → AVal) : Option Made :=
 match op with
 | .alloc t => madeAlloc P t
 | .box _ x => madeBox x ρ
 | .buildSlice t len parts => madeSliceLit P t len parts ρ
 | .makeSlice t l c => madeMake P t l c ρ
 | _ => none
theorem made_ok {P : Program} {o : Oper} {ρ : Operand → AVal} {m : Made} (h : made P o.op ρ = some m) : MadeOK P o ρ m := by
 unfold made at h
 split at h <;> try (cases h; done)
 ·exact madeAlloc_ok ‹_› h
 ·exact madeBox_ok ‹_› h
 ·exact madeSliceLit_ok ‹_› h
 ·exact madeMake_ok ‹_› h
theorem made_cells {σ : Sg} {n : Nat} {l : List AVal} {l' : List Value} (hl : DenL σ l l') (hn : l.length = n) (h4 : n ≤ 9223372036854775807) :
  n ≤ (CT.ofL n l).cap ∧ n = (Array.mk l').size ∧ ∀ i, i < n → ∃ v', (Array.mk l')[i]? = some v' ∧ Den σ ((CT.ofL n l).get i) v' := by
 refine ⟨CT.ofL_cap n l h4, by rw [← hn, hl.length]; rfl, fun i hi => ?_⟩
 have hlt : i < l.length := by omega
 obtain ⟨v', e, d⟩ := hl.get i l[i] (by simp [List.getElem?_eq_getElem hlt])
 refine ⟨v', by simpa using e, ?_⟩
 rw [CT.get_ofL n l i h4 hi]
 simpa [List.getD, List.getElem?_eq_getElem hlt] using d
def opMade (m : Made) (H : Heap) (nx : Nat) : Option ARes :=
 match Nat.ble m.n 9223372036854775807, Nat.ble (Nat.succ nx) (Nat.succ nx) with
 | true, true => forceN nx fun b => some (.val (m.v b) (set5 b (some (.cells m.n (CT.ofL m.n m.l) [] false)) H) (Nat.succ b))
 | _, _ => none
theorem opMade_ok {P : Program} {o : Oper} {ρ : Operand → AVal} {H : Heap} {nx : Nat} {m : Made} {r : ARes} (hm : MadeOK P o ρ m) (h : opMade m H nx = some r) : OpOK P o ρ H nx r := by
 unfold opMade at h
 split at h <;> try (cases h; done)
 rename_i h1 h2
 have h1' := Nat.le_of_ble_eq_true h1
 have h2' := Nat.le_of_ble_eq_true h2
 rw [forceN_eq] at h
 cases h
 intro σ w ρ' hr hd
 obtain ⟨l', t, v', hl, hn, hv, hrun⟩ := hm σ w ρ' hd
 obtain ⟨c1, c2, c3⟩ := made_cells hl hn h1'
 obtain ⟨r1, r2⟩ := hr.alloc (t := t) (fz := (0, 0)) (by omega) c1 c2 (Nat.le_refl _) (fun i _ h => by omega) c3
 refine ⟨_, _, v', r1, r2, hv _ nx (by simp [upd]), .inl hrun⟩
end
end Go.Vs
namespace Go.Vs
variable [GTab]
noncomputable section
theorem Rel.demote {σ : Sg} {H : Heap} {nx b n cb sz : Nat} {w : World} {ct : CT} {olds : List Nat} (h : Rel σ H nx w) (hb : σ b = some (cb, sz)) (ho : get5 b H = some (.cells n ct olds false)) :
  Rel σ (set5 b (some (.cells n ct [] true)) (dels olds H)) nx w ∧ (∀ c, c < nx → σ c = none → get5 c (set5 b (some (.cells n ct [] true)) (dels olds H)) = get5 c H) ∧
  (∀ c o s, get5 c (set5 b (some (.cells n ct [] true)) (dels olds H)) = some o → σ c = some (cb, s) → c = b) := by
 have hlim := h.lim
 have lt : ∀ {c p}, σ c = some p → c < c + 1 := fun {c p} hc => by obtain ⟨cb, sz⟩ := p; have := (h.dom c cb sz hc).1; omega
 have hold : ∀ c, c ∈ olds → ∃ p', σ c = some p' := fun c hc => h.old b _ _ ho hb c hc
 have holt : ∀ c, c ∈ olds → c < c + 1 := fun c hc => let ⟨_, e⟩ := hold c hc; lt e
 have bn : b < b + 1 := lt hb
 have key : ∀ c o, c ≠ b → c < c + 1 → get5 c (set5 b (some (.cells n ct [] true)) (dels olds H)) = some o → get5 c H = some o ∧ c ∉ olds := by
  intro c o hcb hc e
  rw [get5_ne (fun e => hcb e.symm) bn hc, get5_dels olds H c holt hc] at e
  by_cases hm : c ∈ olds
  ·rw [if_pos hm] at e; cases e
  ·rw [if_neg hm] at e; exact ⟨e, hm⟩
 have keyb : get5 b (set5 b (some (.cells n ct [] true)) (dels olds H)) = some (.cells n ct [] true) := get5_set5_same _ _ _
 have alone : ∀ c o s, c ≠ b → c ∉ olds → get5 c H = some o → σ c = some (cb, s) → False := by
  intro c o s hcb hno hc hs
  rcases h.sep c b o _ cb s sz hc ho hs hb with e | e | e
  ·exact hcb e
  ·exact hno e
  ·have := h.sup b c _ o _ ho hc hs e
   simp [AObj.sup] at this
 refine ⟨⟨hlim, h.dom, ?_, ?_, ?_, ?_, h.glob⟩, ?_, ?_⟩
 ·intro c o x s e1 e2
  by_cases hcb : c = b
  ·subst hcb; rw [keyb] at e1; cases e1
   have := h.obj c _ x s ho e2
   exact this
  ·exact h.obj c o x s (key c o hcb (lt e2) e1).1 e2
 ·intro c c' o o' x s s' e1 e2 e3 e4
  by_cases h1 : c = b
  ·subst h1
   by_cases h2 : c' = c
   ·exact .inl h2.symm
   ·obtain ⟨e2', hno⟩ := key c' o' h2 (lt e4) e2
    rw [hb] at e3; cases e3
    exact (alone c' o' s' h2 hno e2' e4).elim
  ·obtain ⟨e1', hno⟩ := key c o h1 (lt e3) e1
   by_cases h2 : c' = b
   ·subst h2
    rw [hb] at e4; cases e4
    exact (alone c o s h1 hno e1' e3).elim
   ·exact h.sep c c' o o' x s s' e1' (key c' o' h2 (lt e4) e2).1 e3 e4
 ·intro c c' o o' p e1 e2 e3 e4
  by_cases h2 : c' = b
  ·subst h2; rw [keyb] at e2; cases e2; simp [AObj.olds] at e4
  ·obtain ⟨e2', _⟩ := key c' o' h2 (lt e3) e2
   obtain ⟨p', hp'⟩ := h.old c' o' p e2' e3 c e4
   by_cases h1 : c = b
   ·subst h1; rw [keyb] at e1; cases e1; rfl
   ·exact h.sup c c' o o' p (key c o h1 (lt hp') e1).1 e2' e3 e4
 ·intro c o p e1 e2 c' e3
  by_cases h1 : c = b
  ·subst h1; rw [keyb] at e1; cases e1; simp [AObj.olds] at e3
  ·exact h.old c o p (key c o h1 (lt e2) e1).1 e2 c' e3
 ·intro c hc hn
  have hcb : b ≠ c := fun e => by subst e; rw [hb] at hn; cases hn
  have hno : c ∉ olds := fun hm => by obtain ⟨_, e⟩ := hold c hm; rw [hn] at e; cases e
  rw [get5_ne hcb bn (by omega), get5_dels olds H c holt (by omega), if_neg hno]
 ·intro c o s e1 e2
  by_cases hcb : c = b
  ·exact hcb
  ·obtain ⟨e1', hno⟩ := key c o hcb (lt e2) e1
   exact (alone c o s hcb hno e1' e2).elim
theorem Rel.share {σ : Sg} {H : Heap} {nx cb sz n : Nat} {w w' : World} {ct : CT} {os : List Nat} (h : Rel σ H nx w) (hx : nx < nx + 1) (hcb : cb < w'.heap.size)
  (hsize : w.heap.size ≤ w'.heap.size) (hblk : ∀ i, i < w.heap.size → i ≠ cb → w'.heap[i]? = w.heap[i]?)
  (hos : ∀ c, c ∈ os → (∃ p, σ c = some p) ∧ ∀ o, get5 c H = some o → o.sup = true)
  (hal : ∀ c o s, get5 c H = some o → σ c = some (cb, s) → c ∈ os ∧ ORel σ o cb s w')
  (hnew : ORel (upd σ nx (cb, sz)) (.cells n ct os false) cb sz w') (hrng : cb < w.heap.size → ∃ b' sz', σ b' = some (cb, sz')) :
  Rel (upd σ nx (cb, sz)) (set5 nx (some (.cells n ct os false)) H) (nx + 1) w' := by
 have hb : σ nx = none := by
  cases e : σ nx with
  | none => rfl
  | some p => obtain ⟨cb, s⟩ := p; have := (h.dom nx cb s e).1; omega
 have sub := upd_sub (p := (cb, sz)) hb
 have hlim := h.lim
 have lt : ∀ {c p}, σ c = some p → c < nx := fun {c p} hc => by obtain ⟨cb, sz⟩ := p; exact (h.dom c cb sz hc).1
 have ne : ∀ {c p}, σ c = some p → get5 c (set5 nx (some (.cells n ct os false)) H) = get5 c H := by
  intro c p hc
  have := lt hc
  exact get5_ne (by omega) hx (by omega)
 have hglob : Glob (upd σ nx (cb, sz)) w' := by
  refine h.glob.of hsize (fun i hi hno => hblk i hi fun e => ?_) fun x c s e hlt => ?_
  ·subst e
   obtain ⟨b', sz', e'⟩ := hrng hi
   exact hno b' sz' e'
  ·rcases upd_inv e with ⟨rfl, q⟩ | ⟨_, q⟩
   ·cases q; exact hrng hlt
   ·exact ⟨x, s, q⟩
 refine ⟨by omega, ?_, ?_, ?_, ?_, ?_, hglob⟩
 ·intro c x s e
  rcases upd_inv e with ⟨rfl, q⟩ | ⟨_, q⟩
  ·cases q; exact ⟨by omega, hcb⟩
  ·have := h.dom c x s q; exact ⟨by omega, by omega⟩
 ·intro c o x s e1 e2
  rcases upd_inv e2 with ⟨rfl, q⟩ | ⟨hne, q⟩
  ·cases q; rw [get5_set5_same] at e1; cases e1; exact hnew
  ·rw [ne q] at e1
   by_cases hx' : x = cb
   ·subst hx'; exact ORel.mono sub (hal c o s e1 q).2
   ·exact (ORel.mono sub (h.obj c o x s e1 q)).of_block (hblk x (h.dom c x s q).2 hx')
 ·intro c c' o o' x s s' e1 e2 e3 e4
  rcases upd_inv e3 with ⟨rfl, q⟩ | ⟨_, q⟩
  ·cases q
   rcases upd_inv e4 with ⟨rfl, _⟩ | ⟨_, q'⟩
   ·exact .inl rfl
   ·rw [ne q'] at e2
    rw [get5_set5_same] at e1
    cases e1
    exact .inr (.inr (hal c' o' s' e2 q').1)
  ·rw [ne q] at e1
   rcases upd_inv e4 with ⟨rfl, q'⟩ | ⟨_, q'⟩
   ·cases q'
    rw [get5_set5_same] at e2
    cases e2
    exact .inr (.inl (hal c o s e1 q).1)
   ·rw [ne q'] at e2
    exact h.sep c c' o o' x s s' e1 e2 q q'
 ·intro c c' o o' p e1 e2 e3 e4
  rcases upd_inv e3 with ⟨rfl, _⟩ | ⟨_, q⟩
  ·rw [get5_set5_same] at e2
   cases e2
   obtain ⟨⟨p', hp'⟩, hs⟩ := hos c e4
   rw [ne hp'] at e1
   exact hs o e1
  ·rw [ne q] at e2
   obtain ⟨p', hp'⟩ := h.old c' o' p e2 q c e4
   rw [ne hp'] at e1
   exact h.sup c c' o o' p e1 e2 q e4
 ·intro c o p e1 e2 c' e3
  rcases upd_inv e2 with ⟨rfl, _⟩ | ⟨_, q⟩
  ·rw [get5_set5_same] at e1
   cases e1
   obtain ⟨⟨p', hp'⟩, _⟩ := hos c' e3
   exact ⟨p', sub _ _ hp'⟩
  ·rw [ne q] at e1
   obtain ⟨p', hp'⟩ := h.old c o p e1 q c' e3
   exact ⟨p', sub _ _ hp'⟩
theorem bytes_den {σ : Sg} : ∀ s : List UInt8, DenL σ (s.map fun b => AVal.int .u8 (.ofNat b.toNat)) (s.map fun b => Value.int .u8 b.toNat)
 | [] => .nil
 | _ :: s => .cons (.int _ _) (bytes_den s)
def zeroIf (n : Nat) : Option (Nat × List AVal) := match Nat.beq n 0 with
 | true => some (0, [])
 | false => none
def aSrc (size : Nat) (H : Heap) (x : AVal) : Option (Nat × List AVal) :=
 match x with
 | .slice b off n _ _ => match get5 b H with
  | some (.cells cnt ct _ _) => match Nat.ble (Nat.add off (Nat.mul n size)) cnt with
   | true => some (n, CT.slab ct (Nat.mul n size) off)
   | false => none
  | _ => none
 | .nilSlice => some (0, [])
 | .gslice g off n _ => match GTab.tab g with
  | some l => match Nat.ble (Nat.add off (Nat.mul n size)) l.length with
   | true => some (n, (l.drop off).take (Nat.mul n size))
   | false => zeroIf n
  | none => zeroIf n
 | .str s => match Nat.beq size 1 with
  | true => some (s.length, s.map fun b => AVal.int .u8 (.ofNat b.toNat))
  | false => none
 | _ => none
theorem aSrc_ok {P : Program} {σ : Sg} {H : Heap} {nx : Nat} {w : World} {size n : Nat} {x : AVal} {x' : Value} {l : List AVal} (hr : Rel σ H nx w) (hd : Den σ x x') (h : aSrc size H x = some (n, l)) :
  l.length = n * size ∧ ∃ l', DenL σ l l' ∧ (Builtin.lenOf x').run P w = .ok n w ∧ (Builtin.firstCells size n x').run P w = .ok ⟨l'⟩ w := by
 unfold aSrc at h
 split at h
 ·rename_i b off m esz full
  split at h <;> try (cases h; done)
  rename_i cnt ct olds s ho
  split at h <;> try (cases h; done)
  rename_i hle
  have hle' : off + m * size ≤ cnt := Nat.le_of_ble_eq_true hle
  cases h
  refine ⟨CT.slab_length _ _ _, ?_⟩
  cases hd with
  | @slice _ _ _ _ cb sz cap _ hb h1 h2 h3 =>
   obtain ⟨l', _, hl, _, hrun⟩ := load_slab hr ho hb P off (n * size) hle'
   exact ⟨l', hl, rfl, hrun⟩
  | slice0 hb =>
   have e : Nat.mul 0 size = 0 := Nat.zero_mul _
   rw [e]
   refine ⟨[], .nil, rfl, ?_⟩
   simp [Builtin.firstCells, loadCells, loadCellsFrom]
 ·cases h
  cases hd
  exact ⟨by simp, [], .nil, rfl, rfl⟩
 ·rename_i g off m esz
  have zero : zeroIf m = some (n, l) → l.length = n * size ∧ ∃ l', DenL σ l l' ∧ (Builtin.lenOf x').run P w = .ok n w ∧ (Builtin.firstCells size n x').run P w = .ok ⟨l'⟩ w := fun hz => by
   unfold zeroIf at hz
   split at hz <;> try (cases hz; done)
   rename_i h0
   have h0 := Nat.eq_of_beq_eq_true h0
   subst h0
   cases hz
   refine ⟨by simp, [], .nil, ?_⟩
   cases hd with
   | gslice h1 => exact ⟨rfl, by simp [Builtin.firstCells, loadCells, loadCellsFrom]⟩
   | gslice0 => exact ⟨rfl, by simp [Builtin.firstCells, loadCells, loadCellsFrom]⟩
  split at h
  ·rename_i tl htl
   split at h
   ·rename_i hle
    have hle' : off + m * size ≤ tl.length := Nat.le_of_ble_eq_true hle
    cases h
    refine ⟨by rw [List.length_take, List.length_drop]; show min (n * size) _ = _; omega, ?_⟩
    cases hd with
    | gslice h1 =>
     obtain ⟨l', hl, hrun⟩ := load_glob hr.glob htl P off (n * size) hle'
     exact ⟨l', hl σ, rfl, hrun⟩
    | gslice0 =>
     have e : Nat.mul 0 size = 0 := Nat.zero_mul _
     rw [e]
     refine ⟨[], .nil, rfl, ?_⟩
     simp [Builtin.firstCells, loadCells, loadCellsFrom]
   ·exact zero h
  ·exact zero h
 ·rename_i s
  split at h <;> try (cases h; done)
  rename_i hs
  have hs' := Nat.eq_of_beq_eq_true hs
  cases h
  cases hd
  refine ⟨by rw [List.length_map, hs', Nat.mul_one], _, bytes_den s, ?_, ?_⟩
  ·show Result.ok (txt s).size w = _
   rw [txt_size]
  ·simp only [Builtin.firstCells, Sem.run_pure]
   congr 1
   apply Array.ext'
   rw [Lib.extract_eq, txt_data]
   simp only [List.drop_zero, Nat.sub_zero]
   rw [List.take_of_length_le (Nat.le_refl _)]
   simp
 ·cases h
def srcD : TypeDesc → Bool
 | .slice _ | .string => true
 | _ => false
def grown (b cnt : Nat) (ct : CT) (olds : List Nat) (k : Nat) (H : Heap) (b' total : Nat) (ct' : CT) : Heap :=
 match Nat.beq k cnt with
 | true => set5 b' (some (.cells total ct' [b] false)) (set5 b (some (.cells cnt ct [] true)) (dels olds H))
 | false => set5 b' (some (.cells total ct' [] false)) (set5 b none (set5 b (some (.cells cnt ct [] true)) (dels olds H)))
def aZeros (P : Program) (elem : TypeId) (size : Nat) (x : AVal) : Option (Nat × List AVal) :=
 match x, zeroL P elem with
 | .int .i64 (.ofNat n), some z => match Nat.ble (Nat.mul n size) 9223372036854775807, Nat.ble n 9223372036854775807 with
  | true, true => some (n, repL z n)
  | _, _ => none
 | _, _ => none
def isInt : TypeDesc → Bool
 | .int _ => true
 | _ => false
def aAppend (P : Program) (elem : TypeId) (H : Heap) (nx : Nat) (s : AVal) (src : Nat → Option (Nat × List AVal)) : Option ARes :=
 match zeroL P elem, P.info? elem with
 | some _, some e =>
  match src e.size, Nat.beq e.size 0, Nat.ble (Nat.succ nx) (Nat.succ nx) with
  | some (0, _), false, true => match s with
   | .nilSlice => some (.val .nilSlice H nx)
   | .slice b off len esz full => some (.val (.slice b off len esz full) H nx)
   | _ => none
  | some (Nat.succ n', new), false, true => match s with
   | .nilSlice => match Nat.ble (Nat.mul (Nat.succ n') e.size) 9223372036854775807, Nat.ble (Nat.mul (Nat.succ n') e.bytes) 140737488355328 with
    | true, true => forceN nx fun b' => forceN (Nat.mul (Nat.succ n') e.size) fun total =>
      some (.val (.slice b' 0 (Nat.succ n') e.size false) (set5 b' (some (.cells total (CT.ofL total new) [] false)) H) (Nat.succ b'))
    | _, _ => none
   | .slice b off len esz full => match get5 b H, Nat.beq esz e.size, Nat.ble (Nat.mul (Nat.add len (Nat.succ n')) e.size) 9223372036854775807, Nat.ble (Nat.mul (Nat.add len (Nat.succ n')) e.bytes) 140737488355328 with
    | some (.cells cnt ct olds sup), true, true, true => match Nat.ble (Nat.add off (Nat.mul len e.size)) cnt, full with
     | true, true => forceN nx fun b' => forceN (Nat.mul (Nat.add len (Nat.succ n')) e.size) fun total => forceN (Nat.add len (Nat.succ n')) fun m =>
       some (.val (.slice b' 0 m e.size false) (set5 b' (some (.cells total (CT.ofL total (CT.slab ct (Nat.mul len e.size) off ++ new)) [] false)) H) (Nat.succ b'))
     | true, false => match off, sup with
      | 0, false => forceN nx fun b' => forceN (Nat.mul (Nat.add len (Nat.succ n')) e.size) fun total => forceN (Nat.add len (Nat.succ n')) fun m =>
        some (.val (.slice b' 0 m e.size false) (grown b cnt ct olds (Nat.mul len e.size) H b' total (CT.lay new (Nat.mul len e.size) (CT.widen total ct))) (Nat.succ b'))
      | _, _ => none
     | _, _ => none
    | _, _, _, _ => none
   | _ => none
  | _, _, _ => none
 | _, _ => none
theorem run_append_room {P : Program} {w : World} {sT xT u elem : TypeId} {e : TypeInfo} {d : TypeDesc} {base : Option Addr} {len cap n : Nat} {x' : Value} {l' : List Value}
  (hu : P.underlying sT = some (.slice elem)) (hx : P.underlying xT = some d) (hd : srcD d = true) (he : P.info? elem = some e)
  (hlen : (Builtin.lenOf x').run P w = .ok n w) (hfc : (Builtin.firstCells e.size n x').run P w = .ok ⟨l'⟩ w) (hroom : len + n ≤ cap) :
  (Builtin.append_ #[sT, xT] u #[.slice base len cap, x']).run P w =
   (match base with | some a => (storeCells (a.add (len * e.size)) l').run P w | none => .ok () w).andThen fun _ w' => .ok (.slice base (len + n) cap) w' := by
 cases d <;> try (cases hd; done)
 all_goals (cases base <;> simp [Builtin.append_, run_underlying' hu, run_underlying' hx, run_sizeOf' he, hlen, hroom, hfc])
theorem run_append_grow' {P : Program} {w : World} {sT xT u elem : TypeId} {e : TypeInfo} {z : Value} {d : TypeDesc} {base : Option Addr} {len cap n : Nat} {x' : Value} {l' o' : List Value}
  (hu : P.underlying sT = some (.slice elem)) (hx : P.underlying xT = some d) (hd : srcD d = true) (he : P.info? elem = some e) (hz : e.zero = some z)
  (hlen : (Builtin.lenOf x').run P w = .ok n w) (hfc : (Builtin.firstCells e.size n x').run P w.drew = .ok ⟨l'⟩ w.drew)
  (hold : (Builtin.firstCells e.size len (.slice base len cap)).run P w.drew = .ok ⟨o'⟩ w.drew) (hroom : cap < len + n) (hb : (len + n) * e.bytes ≤ 140737488355328) (h4 : len + n ≤ 9223372036854775807) :
  ∃ c, len + n ≤ c ∧ (Builtin.append_ #[sT, xT] u #[.slice base len cap, x']).run P w =
   .ok (.slice (some (at' w.heap.size 0)) (len + n) c) (w.drew.alloc (.cells (⟨o'⟩ ++ ⟨l'⟩ ++ Builtin.zeroCells z.cells (c - (len + n))) elem)) := by
 have hn : ¬ (len + n ≤ cap) := by omega
 have h63 : ¬ (9223372036854775807 < ((len : Int) + (n : Int))) := by omega
 have h48 : ¬ (281474976710656 < Builtin.nextslicecap (len + n) cap * e.bytes) := by have := growslice_fits hroom hb; omega
 refine ⟨(Question.appendCap (len + n) cap elem).cut (w.tape w.drawn (.appendCap (len + n) cap elem)), by simp [Question.cut], ?_⟩
 cases d <;> try (cases hd; done)
 all_goals (simp [Builtin.append_, run_underlying' hu, run_underlying' hx, run_sizeOf' he, run_typeInfo' he, run_zeroValue' he hz, hlen, hn, h63, h48, Question.forced, hfc, hold, newRow]; congr 2; apply Array.ext'; simp)
def RoomRun (P : Program) (w : World) (sT xT : TypeId) (e : TypeInfo) (x' : Value) (n : Nat) (l' : List Value) : Prop :=
 n * e.bytes ≤ 140737488355328 → ∀ (u : TypeId) (base : Option Addr) (len cap : Nat), len + n ≤ cap →
  (Builtin.append_ #[sT, xT] u #[.slice base len cap, x']).run P w =
   (match base with | some a => (storeCells (a.add (len * e.size)) l').run P w | none => .ok () w).andThen fun _ w' => .ok (.slice base (len + n) cap) w'
def GrowRun (P : Program) (w : World) (sT xT elem : TypeId) (e : TypeInfo) (z : Value) (x' : Value) (n : Nat) (l' : List Value) : Prop :=
 ∀ (u : TypeId) (base : Option Addr) (len cap : Nat) (o' : List Value), (Builtin.firstCells e.size len (.slice base len cap)).run P w.drew = .ok ⟨o'⟩ w.drew → cap < len + n → (len + n) * e.bytes ≤ 140737488355328 → len + n ≤ 9223372036854775807 →
  ∃ c, len + n ≤ c ∧ (Builtin.append_ #[sT, xT] u #[.slice base len cap, x']).run P w =
   .ok (.slice (some (at' w.heap.size 0)) (len + n) c) (w.drew.alloc (.cells (⟨o'⟩ ++ ⟨l'⟩ ++ Builtin.zeroCells z.cells (c - (len + n))) elem))
theorem room_src {P : Program} {w : World} {sT xT elem : TypeId} {e : TypeInfo} {d : TypeDesc} {n : Nat} {x' : Value} {l' : List Value}
  (hu : P.underlying sT = some (.slice elem)) (hx : P.underlying xT = some d) (hd : srcD d = true) (he : P.info? elem = some e)
  (hlen : (Builtin.lenOf x').run P w = .ok n w) (hfc : (Builtin.firstCells e.size n x').run P w = .ok ⟨l'⟩ w) : RoomRun P w sT xT e x' n l' :=
 fun _ _ _ _ _ hroom => run_append_room hu hx hd he hlen hfc hroom
theorem grow_src {P : Program} {w : World} {sT xT elem : TypeId} {e : TypeInfo} {z : Value} {d : TypeDesc} {n : Nat} {x' : Value} {l' : List Value}
  (hu : P.underlying sT = some (.slice elem)) (hx : P.underlying xT = some d) (hd : srcD d = true) (he : P.info? elem = some e) (hz : e.zero = some z)
  (hlen : (Builtin.lenOf x').run P w = .ok n w) (hfc : (Builtin.firstCells e.size n x').run P w.drew = .ok ⟨l'⟩ w.drew) : GrowRun P w sT xT elem e z x' n l' :=
 fun _ _ _ _ _ hold hroom hb h4 => run_append_grow' hu hx hd he hz hlen hfc hold hroom hb h4
theorem wrap_small {n : Nat} (h : n ≤ 9223372036854775807) : IntKind.i64.wrap (n : Int) = (n : Int) := by
 have h1 : ((n : Int) % 2 ^ 64) = (n : Int) := by omega
 simp only [IntKind.wrap, IntKind.signed, IntKind.bits, h1]
 rw [if_neg (by simp; omega)]
theorem run_small {P : Program} {w : World} {n : Nat} : (asIntOf (.int .i64 (n : Int))).run P w = .ok (.i64, (n : Int)) w := rfl
theorem room_zeros {P : Program} {w : World} {sT xT elem : TypeId} {e : TypeInfo} {z : Value} {k : IntKind} {n : Nat}
  (hu : P.underlying sT = some (.slice elem)) (hx : P.underlying xT = some (.int k)) (he : P.info? elem = some e) (hz : e.zero = some z) (hzs : z.cells.size = e.size) (hn : n ≤ 9223372036854775807) :
  RoomRun P w sT xT e (.int .i64 (n : Int)) n (Builtin.zeroCells z.cells n).toList := by
 intro hb u base len cap hroom
 have hwr := wrap_small hn
 have h1 : ¬ ((n : Int) < 0) := by omega
 have h2 : ¬ (281474976710656 < (n : Int) * (e.bytes : Int)) := by omega
 by_cases h0 : n * e.size = 0
 ·have e0 : Builtin.zeroCells z.cells n = #[] := by apply Array.eq_empty_of_size_eq_zero; simp [Builtin.zeroCells, hzs, h0]
  cases base <;> simp [Builtin.append_, run_underlying' hu, run_underlying' hx, run_sizeOf' he, run_typeInfo' he, asInt, run_small, hwr, h1, h2, hroom, h0, e0]
 ·cases base <;> simp [Builtin.append_, run_underlying' hu, run_underlying' hx, run_sizeOf' he, run_typeInfo' he, run_zeroValue' he hz, asInt, run_small, hwr, h1, h2, hroom, h0]
theorem grow_zeros {P : Program} {w : World} {sT xT elem : TypeId} {e : TypeInfo} {z : Value} {k : IntKind} {n : Nat}
  (hu : P.underlying sT = some (.slice elem)) (hx : P.underlying xT = some (.int k)) (he : P.info? elem = some e) (hz : e.zero = some z) (hzs : z.cells.size = e.size) (hn : n ≤ 9223372036854775807) :
  GrowRun P w sT xT elem e z (.int .i64 (n : Int)) n (Builtin.zeroCells z.cells n).toList := by
 intro u base len cap o' hold hroom hb h4
 have hwr := wrap_small hn
 have h1 : ¬ ((n : Int) < 0) := by omega
 have h2 : ¬ (281474976710656 < (n : Int) * (e.bytes : Int)) := by
  have : n * e.bytes ≤ (len + n) * e.bytes := Nat.mul_le_mul_right _ (by omega)
  omega
 have hn' : ¬ (len + n ≤ cap) := by omega
 have h63 : ¬ (9223372036854775807 < ((len : Int) + (n : Int))) := by omega
 have h48 : ¬ (281474976710656 < Builtin.nextslicecap (len + n) cap * e.bytes) := by have := growslice_fits hroom hb; omega
 refine ⟨(Question.appendCap (len + n) cap elem).cut (w.tape w.drawn (.appendCap (len + n) cap elem)), by simp [Question.cut], ?_⟩
 by_cases h0 : n * e.size = 0
 ·have e0 : Builtin.zeroCells z.cells n = #[] := by apply Array.eq_empty_of_size_eq_zero; simp [Builtin.zeroCells, hzs, h0]
  simp [Builtin.append_, run_underlying' hu, run_underlying' hx, run_sizeOf' he, run_typeInfo' he, run_zeroValue' he hz, asInt, run_small, hwr, h1, h2, hn', h63, h48, Question.forced, hold, newRow, e0]
 ·simp [Builtin.append_, run_underlying' hu, run_underlying' hx, run_sizeOf' he, run_typeInfo' he, run_zeroValue' he hz, asInt, run_small, hwr, h1, h2, hn', h63, h48, Question.forced, hold, newRow, h0]
theorem aZeros_ok {P : Program} {σ : Sg} {elem : TypeId} {e : TypeInfo} {z : Value} {x : AVal} {n : Nat} {l : List AVal} (he : P.info? elem = some e) (hz : e.zero = some z) (h : aZeros P elem e.size x = some (n, l)) :
  ∃ m : Nat, x = .int .i64 (.ofNat m) ∧ m = n ∧ n ≤ 9223372036854775807 ∧ DenL σ l (Builtin.zeroCells z.cells n).toList ∧ l.length = n * e.size := by
 unfold aZeros at h
 split at h <;> try (cases h; done)
 rename_i m zl hzl
 split at h <;> try (cases h; done)
 rename_i h1 h2
 cases h
 obtain ⟨i, zv, hi, hzv, rfl, hsz⟩ := zeroL_ok hzl
 rw [he] at hi
 cases hi
 rw [hz] at hzv
 cases hzv
 have hd : DenL σ (repL (z.cells.toList.map ofCell) n) (repV z.cells.toList n) := repL_den (denL_ofCell σ _) n
 refine ⟨n, rfl, rfl, Nat.le_of_ble_eq_true h2, ?_, ?_⟩
 ·show DenL σ _ ((Array.range (n * z.cells.size)).map (z.cells[· % z.cells.size]!)).toList
  rw [repV_eq]
  exact hd
 ·rw [repL_length, List.length_map, Array.length_toList, hsz]
theorem aAppend_val {P : Program} {elem : TypeId} {H : Heap} {nx : Nat} {s : AVal} {src : Nat → Option (Nat × List AVal)} {r : ARes} (h : aAppend P elem H nx s src = some r) : ∃ v H' nx', r = .val v H' nx' := by
 unfold aAppend at h
 split at h <;> try (cases h; done)
 split at h <;> try (cases h; done)
 ·split at h <;> first | (cases h; done) | (cases h; exact ⟨_, _, _, rfl⟩)
 ·split at h <;> try (cases h; done)
  ·split at h <;> first | (cases h; done) | (rw [forceN_eq, forceN_eq] at h; cases h; exact ⟨_, _, _, rfl⟩)
  ·split at h <;> try (cases h; done)
   split at h <;> try (cases h; done)
   ·rw [forceN_eq, forceN_eq, forceN_eq] at h; cases h; exact ⟨_, _, _, rfl⟩
   ·split at h <;> first | (cases h; done) | (rw [forceN_eq, forceN_eq, forceN_eq] at h; cases h; exact ⟨_, _, _, rfl⟩)
theorem Ext.more {σ : Sg} {H H' : Heap} {nx cb sz : Nat} {w w' : World} (h : Rel σ H nx w) (hp : ∀ c, c < nx → σ c = none → get5 c H' = get5 c H) (hr : w.heap.size ≤ cb ∨ ∃ b s, σ b = some (cb, s))
  (h1 : w'.os = w.os) (h2 : w'.tape = w.tape) (h3 : w'.output = w.output) (h4 : w.heap.size ≤ w'.heap.size) (h5 : ∀ i, i < w.heap.size → (∀ b s, σ b ≠ some (i, s)) → w'.heap[i]? = w.heap[i]?) (h6 : w.drawn ≤ w'.drawn) :
  Ext σ (upd σ nx (cb, sz)) H H' nx (nx + 1) w w' := by
 have hb : σ nx = none := by
  cases e : σ nx with
  | none => rfl
  | some p => obtain ⟨cb, s⟩ := p; have := (h.dom nx cb s e).1; omega
 refine ⟨upd_sub hb, ?_, ?_, by omega, h1, h2, h3, h4, h5, h6⟩
 ·intro c x s e hlt
  rcases upd_inv e with ⟨rfl, q⟩ | ⟨_, q⟩
  ·cases q
   rcases hr with hr | ⟨b, s', hr⟩
   ·omega
   ·exact ⟨b, s', hr⟩
  ·exact ⟨c, s, q⟩
 ·intro c hc hn
  refine ⟨?_, hp c hc hn⟩
  unfold upd
  rw [if_neg (by omega)]
  exact hn
theorem Rel.realloc {σ : Sg} {H : Heap} {nx total : Nat} {w : World} {ct : CT} {os : List Nat} {l : List AVal} {l' : List Value} {rest : Array Value} {t : TypeId} (h : Rel σ H nx w) (hx : nx < nx + 1)
  (hos : ∀ c, c ∈ os → (∃ p, σ c = some p) ∧ ∀ o, get5 c H = some o → o.sup = true) (hl : DenL σ l l') (hlen : l.length = total) (hcap : total ≤ ct.cap) (hg : ∀ i, i < total → ct.get i = l.getD i .und) :
  Rel (upd σ nx (w.heap.size, total + rest.size)) (set5 nx (some (.cells total ct os false)) H) (nx + 1) (w.drew.alloc (.cells (⟨l'⟩ ++ rest) t)) := by
 have hb : σ nx = none := by
  cases e : σ nx with
  | none => rfl
  | some p => obtain ⟨cb, s⟩ := p; have := (h.dom nx cb s e).1; omega
 have newb : (w.drew.alloc (.cells (⟨l'⟩ ++ rest) t)).heap[w.heap.size]? = some (.cells (⟨l'⟩ ++ rest) t) := by
  show (w.heap.push _)[w.heap.size]? = _
  simp
 have newc : ∀ i, (w.drew.alloc (.cells (⟨l'⟩ ++ rest) t)).cell? (at' w.heap.size i) = ((⟨l'⟩ : Array Value) ++ rest)[i]? := by
  intro i
  unfold World.cell?
  rw [newb]
  rfl
 have hll := hl.length
 refine h.share hx (w' := w.drew.alloc (.cells (⟨l'⟩ ++ rest) t)) (cb := w.heap.size) (sz := total + rest.size) (by simp) (by simp) ?_ hos ?_ ⟨Nat.le_add_right _ _, hcap, ?_, ?_⟩ (fun h => absurd h (Nat.lt_irrefl _))
 ·intro i hi _
  show (w.heap.push _)[i]? = _
  rw [Array.getElem?_push, if_neg (by omega)]
 ·intro c o s _ e
  have := (h.dom c _ s e).2
  omega
 ·intro i hi
  refine ⟨?_, ?_⟩
  ·unfold World.frozen?
   rw [newb]
   simp
  ·rw [newc]
   exact ⟨_, Array.getElem?_eq_getElem (by simp; omega)⟩
 ·intro i hi
  have hlt : i < l.length := by omega
  obtain ⟨v', e, d⟩ := hl.get i l[i] (by simp [List.getElem?_eq_getElem hlt])
  refine ⟨v', ?_, ?_⟩
  ·rw [newc, Array.getElem?_append_left (by simp; omega)]
   simpa using e
  ·rw [hg i hi]
   have := d.mono (upd_sub (p := (w.heap.size, total + rest.size)) hb)
   simpa [List.getD, List.getElem?_eq_getElem hlt] using this
theorem Ext.realloc {σ : Sg} {H H' : Heap} {nx sz : Nat} {w : World} {o : Obj} (h : Rel σ H nx w) (hp : ∀ c, c < nx → σ c = none → get5 c H' = get5 c H) :
  Ext σ (upd σ nx (w.heap.size, sz)) H H' nx (nx + 1) w (w.drew.alloc o) :=
 Ext.more h hp (.inl (Nat.le_refl _)) rfl rfl rfl (by simp) (fun i hi _ => by
  show (w.heap.push _)[i]? = _
  rw [Array.getElem?_push, if_neg (by omega)]) (Nat.le_succ _)
theorem Rel.inplace {σ : Sg} {H : Heap} {nx total cb sz k : Nat} {w : World} {ct : CT} {os : List Nat} {l : List AVal} {l' : List Value} (h : Rel σ H nx w) (hx : nx < nx + 1) (hcb : cb < w.heap.size) (hrng : ∃ b' sz', σ b' = some (cb, sz'))
  (hos : ∀ c, c ∈ os → (∃ p, σ c = some p) ∧ ∀ o, get5 c H = some o → o.sup = true)
  (hal : ∀ c o s, get5 c H = some o → σ c = some (cb, s) → c ∈ os ∧ ∃ n cc oo sp, o = .cells n cc oo sp ∧ n ≤ k)
  (hl : DenL σ l l') (hlen : k + l.length = total) (hsz : total ≤ sz) (hcap : total ≤ ct.cap)
  (hfz : ∀ i, i < sz → w.frozen? (at' cb i) = false ∧ ∃ v, w.cell? (at' cb i) = some v)
  (hold : ∀ i, i < k → ∃ v', w.cell? (at' cb i) = some v' ∧ Den σ (ct.get i) v') (hnew : ∀ i, i < l.length → ct.get (k + i) = l.getD i .und) :
  Rel (upd σ nx (cb, sz)) (set5 nx (some (.cells total ct os false)) H) (nx + 1) (setCells w cb k l') := by
 have hb : σ nx = none := by
  cases e : σ nx with
  | none => rfl
  | some p => obtain ⟨cb, s⟩ := p; have := (h.dom nx cb s e).1; omega
 have hll := hl.length
 obtain ⟨r1, r2, r3, r4⟩ := setCells_rest l' w cb k
 have hcell := setCells_cell l' w cb k
 have hex : ∀ j, k ≤ j → j < k + l'.length → ∃ v, w.cell? (at' cb j) = some v := fun j _ hj => (hfz j (by omega)).2
 have sub := upd_sub (p := (cb, sz)) hb
 refine h.share hx (w' := setCells w cb k l') (by rw [r4]; exact hcb) (by rw [r4]; exact Nat.le_refl _) (fun i _ hne => setCells_block l' w cb k i hne) hos ?_ ⟨hsz, hcap, ?_, ?_⟩ (fun _ => hrng)
 ·intro c o s e1 e2
  obtain ⟨hm, n, cc, oo, sp, rfl, hn⟩ := hal c o s e1 e2
  refine ⟨hm, ?_⟩
  obtain ⟨a1, a2, a3, a4⟩ := h.obj c _ cb s e1 e2
  refine ⟨a1, a2, ?_, ?_⟩
  ·intro i hi
   rw [setCells_frozen, hcell i hex]
   refine ⟨(a3 i hi).1, ?_⟩
   by_cases hin : k ≤ i ∧ i < k + l'.length
   ·rw [if_pos hin]; exact ⟨_, List.getElem?_eq_getElem (show i - k < l'.length by omega)⟩
   ·rw [if_neg hin]; exact (a3 i hi).2
  ·intro i hi
   rw [hcell i hex, if_neg (by omega)]
   exact a4 i hi
 ·intro i hi
  rw [setCells_frozen, hcell i hex]
  refine ⟨(hfz i hi).1, ?_⟩
  by_cases hin : k ≤ i ∧ i < k + l'.length
  ·rw [if_pos hin]; exact ⟨_, List.getElem?_eq_getElem (show i - k < l'.length by omega)⟩
  ·rw [if_neg hin]; exact (hfz i hi).2
 ·intro i hi
  rw [hcell i hex]
  by_cases hin : k ≤ i ∧ i < k + l'.length
  ·rw [if_pos hin]
   have hlt : i - k < l.length := by omega
   obtain ⟨v', e, d⟩ := hl.get (i - k) l[i - k] (by simp [List.getElem?_eq_getElem hlt])
   refine ⟨v', e, ?_⟩
   have hg := hnew (i - k) hlt
   rw [show k + (i - k) = i by omega] at hg
   rw [hg]
   have := d.mono sub
   simpa [List.getD, List.getElem?_eq_getElem hlt] using this
  ·rw [if_neg hin]
   obtain ⟨v', e, d⟩ := hold i (by omega)
   exact ⟨v', e, d.mono sub⟩
theorem zero_size {z : Array Value} {n : Nat} : (Builtin.zeroCells z n).size = n * z.size := by simp [Builtin.zeroCells]
set_option maxHeartbeats 2000000 in
theorem aAppend_ok {P : Program} {σ : Sg} {H H' : Heap} {nx nx' : Nat} {w : World} {sT xT u elem : TypeId} {s v : AVal} {s' x' : Value} {src : Nat → Option (Nat × List AVal)} (hr : Rel σ H nx w) (ds : Den σ s s')
  (hs : ∀ n l e z, P.info? elem = some e → e.zero = some z → z.cells.size = e.size → src e.size = some (n, l) → l.length = n * e.size ∧ allCell l = true ∧ (∃ l', DenL σ l l' ∧ RoomRun P w sT xT e x' n l') ∧ ∃ l', DenL σ l l' ∧ GrowRun P w sT xT elem e z x' n l')
  (h : aAppend P elem H nx s src = some (.val v H' nx')) :
  ∃ σ' w' v', Rel σ' H' nx' w' ∧ Ext σ σ' H H' nx nx' w w' ∧ Den σ' v v' ∧ (Builtin.append_ #[sT, xT] u #[s', x']).run P w = .ok v' w' := by
 unfold aAppend at h
 split at h <;> try (cases h; done)
 rename_i zl e hzl he
 obtain ⟨e0, z, he0, hz, _, hzs⟩ := zeroL_ok hzl
 rw [he] at he0
 cases he0
 split at h <;> try (cases h; done)
 ·
  rename_i l hsrc h0 hn
  obtain ⟨hll, _, ⟨l', hl, hroomr⟩, _⟩ := hs _ _ _ _ he hz hzs hsrc
  have l0 : l' = [] := by
   have := hl.length
   rw [hll, Nat.zero_mul] at this
   cases l' with
   | nil => rfl
   | cons _ _ => simp at this
  subst l0
  split at h <;> try (cases h; done)
  ·cases h
   cases ds
   have hrun := hroomr (by simp) u none 0 0 (by omega)
   exact ⟨σ, w, _, hr, Ext.refl _ _ _ _, .nilSlice, hrun⟩
  ·rename_i b off len esz full
   cases h
   refine ⟨σ, w, s', hr, Ext.refl _ _ _ _, ds, ?_⟩
   cases ds with
   | @slice _ _ _ _ cb sz cap _ hb h1 h2 h3 => exact hroomr (by simp) u (some _) len cap (by omega)
   | slice0 hb => exact hroomr (by simp) u (some _) 0 0 (by omega)
 ·rename_i n' new hsrc h0 hn
  have hn' := Nat.le_of_ble_eq_true hn
  have hnx : nx < nx + 1 := by omega
  obtain ⟨hll, hcell, ⟨l', hl, hroomr⟩, l2, hl2, hgrow⟩ := hs _ _ _ _ he hz hzs hsrc
  have hone := allCell_ok hcell hl
  have hnone : ∀ c, c < nx → σ c = none → ∀ o, get5 c (set5 nx o H) = get5 c H := fun c hc _ o => get5_ne (by omega) hnx (by omega)
  split at h <;> try (cases h; done)
  ·
   split at h <;> try (cases h; done)
   rename_i h1 h2
   have h1' : (n' + 1) * e.size ≤ 9223372036854775807 := Nat.le_of_ble_eq_true h1
   have h2' : (n' + 1) * e.bytes ≤ 140737488355328 := Nat.le_of_ble_eq_true h2
   have hsz0 : e.size ≠ 0 := fun q => by rw [q] at h0; cases h0
   have hn4 : n' + 1 ≤ 9223372036854775807 := Nat.le_trans (Nat.le_mul_of_pos_right _ (by omega)) h1'
   rw [forceN_eq, forceN_eq] at h
   cases h
   cases ds
   obtain ⟨c, hc, hrun⟩ := hgrow u none 0 0 [] (by simp [Builtin.firstCells]) (by omega) (by simpa using h2') (by omega)
   simp only [Nat.zero_add] at hc hrun
   have hll' : new.length = (n' + 1) * e.size := hll
   have R := hr.realloc (os := []) (rest := Builtin.zeroCells z.cells (c - (n' + 1))) (t := elem) hnx (fun c hc => by cases hc) hl2 hll' (CT.ofL_cap _ _ h1') (fun i hi => CT.get_ofL _ _ i h1' hi)
   refine ⟨_, _, .slice (some (at' w.heap.size 0)) (n' + 1) c, R, Ext.realloc hr (fun c hc hcn => hnone c hc hcn _), ?_, ?_⟩
   ·refine Den.slice (cap := c) (sz := (n' + 1) * e.size + (Builtin.zeroCells z.cells (c - (n' + 1))).size) (by simp [upd]) (by omega) ?_ (fun q => by cases q)
    rw [zero_size, hzs, ← Nat.add_mul, Nat.zero_add]
    exact Nat.mul_le_mul_right _ (by omega)
   ·rw [hrun]
    simp
  ·rename_i b off len esz full
   split at h <;> try (cases h; done)
   rename_i cnt ct olds sup hblk hesz h1 h2
   have hesz' := Nat.eq_of_beq_eq_true hesz
   subst hesz'
   have h1' : (len + (n' + 1)) * e.size ≤ 9223372036854775807 := Nat.le_of_ble_eq_true h1
   have h2' : (len + (n' + 1)) * e.bytes ≤ 140737488355328 := Nat.le_of_ble_eq_true h2
   have hsz0 : e.size ≠ 0 := fun q => by rw [q] at h0; cases h0
   have hn4 : len + (n' + 1) ≤ 9223372036854775807 := Nat.le_trans (Nat.le_mul_of_pos_right _ (by omega)) h1'
   have hll' : new.length = (n' + 1) * e.size := hll
   split at h <;> try (cases h; done)
   ·
    rename_i hk
    have hk' : off + len * e.size ≤ cnt := Nat.le_of_ble_eq_true hk
    rw [forceN_eq, forceN_eq, forceN_eq] at h
    cases h
    have key : ∀ cb sz o', σ b = some (cb, sz) → DenL σ (CT.slab ct (len * e.size) off) o' →
      (Builtin.firstCells e.size len (s')).run P w.drew = .ok ⟨o'⟩ w.drew → s' = .slice (some (at' cb off)) len len ∨ (len = 0 ∧ ∃ off', s' = .slice (some (at' cb off')) 0 0) →
      ∃ σ' w' v', Rel σ' (set5 nx (some (.cells (Nat.mul (Nat.add len (Nat.succ n')) e.size) (CT.ofL (Nat.mul (Nat.add len (Nat.succ n')) e.size) (CT.slab ct (Nat.mul len e.size) off ++ new)) [] false)) H) (nx + 1) w' ∧
       Ext σ σ' H (set5 nx (some (.cells (Nat.mul (Nat.add len (Nat.succ n')) e.size) (CT.ofL (Nat.mul (Nat.add len (Nat.succ n')) e.size) (CT.slab ct (Nat.mul len e.size) off ++ new)) [] false)) H) nx (nx + 1) w w' ∧
       Den σ' (.slice nx 0 (Nat.add len (Nat.succ n')) e.size false) v' ∧ (Builtin.append_ #[sT, xT] u #[s', x']).run P w = .ok v' w' := by
     intro cb sz o' hb ho hfo hs
     have hall : DenL σ (CT.slab ct (len * e.size) off ++ new) (o' ++ l2) := ho.append hl2
     have hlen2 : (CT.slab ct (len * e.size) off ++ new).length = (len + (n' + 1)) * e.size := by rw [List.length_append, CT.slab_length, hll', Nat.add_mul len (n' + 1) e.size]
     have fin : ∀ base cap, s' = .slice base len cap → cap = len → ∃ c, len + (n' + 1) ≤ c ∧ (Builtin.append_ #[sT, xT] u #[s', x']).run P w =
       .ok (.slice (some (at' w.heap.size 0)) (len + (n' + 1)) c) (w.drew.alloc (.cells (⟨o'⟩ ++ ⟨l2⟩ ++ Builtin.zeroCells z.cells (c - (len + (n' + 1)))) elem)) := by
      intro base cap hs hc
      rw [hs] at hfo ⊢
      exact hgrow u base len cap _ hfo (by omega) h2' hn4
     obtain ⟨c, hc, hrun⟩ : ∃ c, len + (n' + 1) ≤ c ∧ (Builtin.append_ #[sT, xT] u #[s', x']).run P w =
       .ok (.slice (some (at' w.heap.size 0)) (len + (n' + 1)) c) (w.drew.alloc (.cells (⟨o'⟩ ++ ⟨l2⟩ ++ Builtin.zeroCells z.cells (c - (len + (n' + 1)))) elem)) := by
      rcases hs with hs | ⟨h0, off', hs⟩
      ·exact fin _ _ hs rfl
      ·subst h0; exact fin _ _ hs rfl
     have R := hr.realloc (os := []) (rest := Builtin.zeroCells z.cells (c - (len + (n' + 1)))) (t := elem) hnx (fun c hc => by cases hc) hall hlen2 (CT.ofL_cap _ _ h1') (fun i hi => CT.get_ofL _ _ i h1' hi)
     refine ⟨_, _, .slice (some (at' w.heap.size 0)) (len + (n' + 1)) c, R, Ext.realloc hr (fun c hc hcn => hnone c hc hcn _), ?_, ?_⟩
     ·refine Den.slice (cap := c) (sz := (len + (n' + 1)) * e.size + (Builtin.zeroCells z.cells (c - (len + (n' + 1)))).size) (by simp [upd]) hc ?_ (fun q => by cases q)
      rw [zero_size, hzs, ← Nat.add_mul, Nat.zero_add]
      exact Nat.mul_le_mul_right _ (by omega)
     ·rw [hrun]
      simp
    cases ds with
    | @slice _ _ _ _ cb sz cap _ hb g1 g2 g3 =>
     have hcl := g3 rfl
     obtain ⟨o', _, ho, _, hfo⟩ := load_slab hr.drew hblk hb P off (len * e.size) hk'
     exact key cb sz o' hb ho hfo (.inl (by rw [hcl]))
    | @slice0 _ _ off' _ cb sz _ hb =>
     obtain ⟨o', hol, ho, _, _⟩ := load_slab hr.drew hblk hb P off (0 * e.size) hk'
     have o0 : o' = [] := by
      cases o' with
      | nil => rfl
      | cons _ _ => simp at hol
     subst o0
     exact key cb sz [] hb ho (by simp [Builtin.firstCells, loadCells, loadCellsFrom]) (.inr ⟨rfl, off', rfl⟩)
   ·
    rename_i hk
    split at h <;> try (cases h; done)
    have hk' : 0 + len * e.size ≤ cnt := Nat.le_of_ble_eq_true hk
    rw [forceN_eq, forceN_eq, forceN_eq] at h
    have hk2 : len * e.size ≤ cnt := by omega
    cases hbb : σ b with
    | none =>
     exfalso
     cases ds with
     | slice hb _ _ _ => rw [hbb] at hb; cases hb
     | slice0 hb => rw [hbb] at hb; cases hb
    | some p =>
    obtain ⟨cb, sz⟩ := p
    obtain ⟨D1, D2, D3⟩ := hr.demote hbb hblk
    have bn : b < b + 1 := by have := (hr.dom b cb sz hbb).1; have := hr.lim; omega
    have blt : b < nx := (hr.dom b cb sz hbb).1
    have cbl := (hr.dom b cb sz hbb).2
    obtain ⟨o1, o2, o3, o4⟩ := hr.obj b _ cb sz hblk hbb
    have htot : len * e.size + new.length = (len + (n' + 1)) * e.size := by rw [hll', Nat.add_mul len (n' + 1) e.size]
    have hwc := CT.widen_cap ((len + (n' + 1)) * e.size) ct h1'
    have hget1 : ∀ i, i < len * e.size → CT.get i (CT.lay new (len * e.size) (CT.widen ((len + (n' + 1)) * e.size) ct)) = CT.get i ct := by
     intro i hi
     rw [CT.lay_get _ _ _ i (by omega) (by omega), if_neg (by omega), CT.widen_get _ _ i (by omega)]
    have hget2 : ∀ i, i < new.length → CT.get (len * e.size + i) (CT.lay new (len * e.size) (CT.widen ((len + (n' + 1)) * e.size) ct)) = new.getD i .und := by
     intro i hi
     rw [CT.lay_get _ _ _ _ (by omega) (by omega), if_pos (by omega)]
     congr 1
     omega
    have hcap' : (len + (n' + 1)) * e.size ≤ (CT.lay new (len * e.size) (CT.widen ((len + (n' + 1)) * e.size) ct)).cap := by rw [CT.lay_cap]; exact hwc
    have both : ∃ (H2 : Heap) (os : List Nat), H' = set5 nx (some (.cells ((len + (n' + 1)) * e.size) (CT.lay new (len * e.size) (CT.widen ((len + (n' + 1)) * e.size) ct)) os false)) H2 ∧ nx' = nx + 1 ∧ v = .slice nx 0 (len + (n' + 1)) e.size false ∧
      Rel σ H2 nx w ∧ (∀ c, c < nx → σ c = none → get5 c H2 = get5 c H) ∧ (∀ c, c ∈ os → (∃ p, σ c = some p) ∧ ∀ o, get5 c H2 = some o → o.sup = true) ∧
      (∀ c o s, get5 c H2 = some o → σ c = some (cb, s) → c ∈ os ∧ ∃ n cc oo sp, o = .cells n cc oo sp ∧ n ≤ len * e.size) := by
     unfold grown at h
     cases hq : Nat.beq (Nat.mul len e.size) cnt with
     | true =>
      rw [hq] at h
      cases h
      have hq' : len * e.size = cnt := Nat.eq_of_beq_eq_true hq
      refine ⟨_, [b], rfl, rfl, rfl, D1, D2, ?_, ?_⟩
      ·intro c hc
       simp at hc
       subst hc
       refine ⟨⟨_, hbb⟩, fun o ho => ?_⟩
       rw [get5_set5_same] at ho
       cases ho
       rfl
      ·intro c o s e1 e2
       have := D3 c o s e1 e2
       subst this
       rw [get5_set5_same] at e1
       cases e1
       exact ⟨by simp, _, _, _, _, rfl, by omega⟩
     | false =>
      rw [hq] at h
      cases h
      refine ⟨_, [], rfl, rfl, rfl, D1.forget bn, ?_, (fun c hc => by cases hc), ?_⟩
      ·intro c hc hcn
       rw [get5_ne (fun q => by subst q; rw [hbb] at hcn; cases hcn) bn (by omega)]
       exact D2 c hc hcn
      ·intro c o s e1 e2
       by_cases hcb : b = c
       ·subst hcb; rw [get5_set5_same] at e1; cases e1
       ·have hcn : c < c + 1 := by have := (hr.dom c cb s e2).1; omega
        rw [get5_ne hcb bn hcn] at e1
        exact absurd (D3 c o s e1 e2).symm hcb
    obtain ⟨H2, os, rfl, rfl, rfl, R2, hp2, hos, hal⟩ := both
    have hpend : ∀ c, c < nx → σ c = none → get5 c (set5 nx (some (.cells ((len + (n' + 1)) * e.size) (CT.lay new (len * e.size) (CT.widen ((len + (n' + 1)) * e.size) ct)) os false)) H2) = get5 c H := by
     intro c hc hcn
     rw [get5_ne (by omega) hnx (by omega)]
     exact hp2 c hc hcn
    have grow : ∀ base cap, s' = .slice base len cap → cap < len + (n' + 1) → ∀ o', DenL σ (CT.slab ct (len * e.size) 0) o' → (Builtin.firstCells e.size len s').run P w.drew = .ok ⟨o'⟩ w.drew →
      ∃ σ' w' v', Rel σ' (set5 nx (some (.cells ((len + (n' + 1)) * e.size) (CT.lay new (len * e.size) (CT.widen ((len + (n' + 1)) * e.size) ct)) os false)) H2) (nx + 1) w' ∧
       Ext σ σ' H (set5 nx (some (.cells ((len + (n' + 1)) * e.size) (CT.lay new (len * e.size) (CT.widen ((len + (n' + 1)) * e.size) ct)) os false)) H2) nx (nx + 1) w w' ∧
       Den σ' (.slice nx 0 (len + (n' + 1)) e.size false) v' ∧ (Builtin.append_ #[sT, xT] u #[s', x']).run P w = .ok v' w' := by
     intro base cap hs hcap o' ho hfo
     subst hs
     obtain ⟨c, hc, hrun⟩ := hgrow u base len cap _ hfo hcap h2' hn4
     have hall : DenL σ (CT.slab ct (len * e.size) 0 ++ new) (o' ++ l2) := ho.append hl2
     have hlen2 : (CT.slab ct (len * e.size) 0 ++ new).length = (len + (n' + 1)) * e.size := by rw [List.length_append, CT.slab_length, hll', Nat.add_mul len (n' + 1) e.size]
     have R := R2.realloc (rest := Builtin.zeroCells z.cells (c - (len + (n' + 1)))) (t := elem) hnx hos hall hlen2 hcap' (by
      intro i hi
      by_cases hik : i < len * e.size
      ·rw [hget1 i hik]
       have := CT.slab_get ct (len * e.size) 0 i hik
       simp [List.getD, List.getElem?_append_left (show i < (CT.slab ct (len * e.size) 0).length by rw [CT.slab_length]; exact hik), this]
      ·have hi2 : i - len * e.size < new.length := by omega
       have := hget2 (i - len * e.size) hi2
       rw [show len * e.size + (i - len * e.size) = i by omega] at this
       rw [this]
       simp only [List.getD]
       rw [List.getElem?_append_right (by rw [CT.slab_length]; omega), CT.slab_length])
     refine ⟨_, _, .slice (some (at' w.heap.size 0)) (len + (n' + 1)) c, R, Ext.realloc hr hpend, ?_, ?_⟩
     ·refine Den.slice (cap := c) (sz := (len + (n' + 1)) * e.size + (Builtin.zeroCells z.cells (c - (len + (n' + 1)))).size) (by simp [upd]) hc ?_ (fun q => by cases q)
      rw [zero_size, hzs, ← Nat.add_mul, Nat.zero_add]
      exact Nat.mul_le_mul_right _ (by omega)
     ·rw [hrun]
      simp
    cases ds with
    | @slice _ _ _ _ cb' sz' cap _ hb g1 g2 g3 =>
     rw [hbb] at hb
     cases hb
     by_cases hroom : len + (n' + 1) ≤ cap
     ·have hle : (len + (n' + 1)) * e.size ≤ sz := Nat.le_trans (Nat.mul_le_mul_right _ hroom) (by omega)
      have hst := run_storeCells (P := P) l' w cb (len * e.size) 0 hone (fun k hk1 hk2 => o3 k (by have := hl.length; omega))
      have hrun := hroomr (Nat.le_trans (Nat.mul_le_mul_right _ (Nat.le_add_left _ _)) h2') u (some (at' cb 0)) len cap hroom
      have hadd : Addr.add (at' cb 0) (len * e.size) = at' cb (len * e.size) := by rw [addr_add, Nat.zero_add]
      simp only [hadd, hst, Result.andThen_ok, Nat.add_zero] at hrun
      have R := R2.inplace (sz := sz) (k := len * e.size) hnx cbl ⟨_, _, hbb⟩ hos hal hl htot hle hcap' o3 (fun i hi => by rw [hget1 i hi]; exact o4 i (by omega)) hget2
      obtain ⟨r1, r2, r3, r4⟩ := setCells_rest l' w cb (len * e.size)
      refine ⟨_, _, .slice (some (at' cb 0)) (len + (n' + 1)) cap, R, Ext.more hr hpend (.inr ⟨b, sz, hbb⟩) r1 r2 r3 (by rw [r4]; exact Nat.le_refl _) (fun i hi hno => setCells_block l' w cb _ i (fun q => by subst q; exact hno b sz hbb)) (Nat.le_of_eq (setCells_drawn l' w cb _).symm), ?_, hrun⟩
      exact Den.slice (cap := cap) (sz := sz) (by simp [upd]) hroom (by omega) (fun q => by cases q)
     ·obtain ⟨o', _, ho, _, hfo⟩ := load_slab hr.drew hblk hbb P 0 (len * e.size) hk'
      exact grow _ cap rfl (by omega) o' ho hfo
    | @slice0 _ _ off' _ cb' sz' _ hb =>
     rw [hbb] at hb
     cases hb
     obtain ⟨o', hol, ho, _, _⟩ := load_slab hr.drew hblk hbb P 0 (0 * e.size) hk'
     have o0 : o' = [] := by
      cases o' with
      | nil => rfl
      | cons _ _ => simp at hol
     subst o0
     exact grow _ 0 rfl (by omega) [] ho (by simp [Builtin.firstCells, loadCells, loadCellsFrom])
end
end Go.Vs
end
section
namespace Go.Vs
variable [GTab]
noncomputable section
theorem Rel.allocObj {σ : Sg} {H : Heap} {nx : Nat} {w : World} {o1 : AObj} (o' : Obj) (h : Rel σ H nx w) (hx : nx < nx + 1) (z1 : o1.olds = []) (hd : ORel (upd σ nx (w.heap.size, 0)) o1 w.heap.size 0 (w.alloc o')) :
  Rel (upd σ nx (w.heap.size, 0)) (set5 nx (some o1) H) (nx + 1) (w.alloc o') ∧
  Ext σ (upd σ nx (w.heap.size, 0)) H (set5 nx (some o1) H) nx (nx + 1) w (w.alloc o') := by
 have hb : σ nx = none := by
  cases e : σ nx with
  | none => rfl
  | some p => obtain ⟨cb, s⟩ := p; have := (h.dom nx cb s e).1; omega
 have h1 : Rel σ (set5 nx (some o1) H) (nx + 1) w := h.pend hb (by omega) (by omega) hx
 obtain ⟨e1, e2, e3, e4⟩ := Ext.alloc_at (sz := 0) o' h hb
 have ho : get5 nx (set5 nx (some o1) H) = some o1 := get5_set5_same _ _ _
 have hglob : Glob (upd σ nx (w.heap.size, 0)) (w.alloc o') := h.glob.of (by simp) (fun i hi _ => e4 i hi) e3
 refine ⟨⟨h1.lim, ?_, ?_, ?_, ?_, ?_, hglob⟩, ⟨e2, e3, ?_, by omega, rfl, rfl, rfl, by simp, fun i hi _ => e4 i hi, Nat.le_refl _⟩⟩
 ·intro x cb s e
  rcases upd_inv e with ⟨rfl, q⟩ | ⟨_, q⟩
  ·cases q; exact ⟨by omega, by simp⟩
  ·have := h1.dom x cb s q
   exact ⟨this.1, by simp; omega⟩
 ·intro x o cb s q1 q2
  rcases upd_inv q2 with ⟨rfl, e⟩ | ⟨_, e⟩
  ·cases e
   rw [ho] at q1
   cases q1
   exact hd
  ·have hlt' := (h1.dom x cb s e).2
   exact (ORel.mono e2 (h1.obj x o cb s q1 e)).of_block (e4 cb hlt')
 ·intro x x' o o' cb s s' q1 q2 q3 q4
  rcases upd_inv q3 with ⟨rfl, e⟩ | ⟨_, e⟩
  ·cases e
   rcases upd_inv q4 with ⟨rfl, _⟩ | ⟨_, e'⟩
   ·exact .inl rfl
   ·have := (h1.dom x' _ s' e').2; omega
  ·rcases upd_inv q4 with ⟨rfl, e'⟩ | ⟨_, e'⟩
   ·cases e'; have := (h1.dom x _ s e).2; omega
   ·exact h1.sep x x' o o' cb s s' q1 q2 e e'
 ·intro x x' o o' p q1 q2 q3 q4
  rcases upd_inv q3 with ⟨rfl, e⟩ | ⟨_, e⟩
  ·rw [ho] at q2; cases q2; simp [z1] at q4
  ·exact h1.sup x x' o o' p q1 q2 e q4
 ·intro x o p q1 q2 x' q3
  rcases upd_inv q2 with ⟨rfl, e⟩ | ⟨_, e⟩
  ·rw [ho] at q1; cases q1; simp [z1] at q3
  ·obtain ⟨p', hp'⟩ := h1.old x o p q1 e x' q3
   exact ⟨p', e2 _ _ hp'⟩
 ·intro c hc hn
  exact ⟨e1 c (by omega) hc hn, get5_ne (by omega) hx (by omega)⟩
theorem Rel.allocMap {σ : Sg} {H : Heap} {nx : Nat} {w : World} (h : Rel σ H nx w) (hx : nx < nx + 1) :
  Rel (upd σ nx (w.heap.size, 0)) (set5 nx (some (.map [] 0)) H) (nx + 1) (w.alloc (.map #[] 0)) ∧
  Ext σ (upd σ nx (w.heap.size, 0)) H (set5 nx (some (.map [] 0)) H) nx (nx + 1) w (w.alloc (.map #[] 0)) :=
 h.allocObj (.map #[] 0) hx rfl ⟨#[], by show (w.heap.push _)[w.heap.size]? = _; simp, .nil⟩
theorem Rel.storeObj {σ : Sg} {H : Heap} {nx b cb sz : Nat} {w w' : World} {o1 o2 : AObj} (h : Rel σ H nx w) (hb : σ b = some (cb, sz)) (ho : get5 b H = some o1) (z1 : o1.olds = []) (z2 : o1.sup = false) (z3 : o2.olds = [])
  (hd : ORel σ o2 cb sz w') (hrest : ∀ k, k ≠ cb → w'.heap[k]? = w.heap[k]?) (hos : w'.os = w.os) (ht : w'.tape = w.tape) (hout : w'.output = w.output) (hsz : w'.heap.size = w.heap.size) (hdr : w.drawn ≤ w'.drawn) :
  Rel σ (set5 b (some o2) H) nx w' ∧ Ext σ σ H (set5 b (some o2) H) nx nx w w' := by
 have hlim := h.lim
 have lt : ∀ {c p}, σ c = some p → c < c + 1 := fun {c p} hc => by obtain ⟨x, z⟩ := p; have := (h.dom c x z hc).1; omega
 have bn := lt hb
 have key : ∀ c o, c ≠ b → c < c + 1 → get5 c (set5 b (some o2) H) = some o → get5 c H = some o := by
  intro c o hcb hc e
  rwa [get5_ne (fun e => hcb e.symm) bn hc] at e
 have keyb : get5 b (set5 b (some o2) H) = some o2 := get5_set5_same _ _ _
 have alone : ∀ c o s, c ≠ b → get5 c H = some o → σ c = some (cb, s) → False := by
  intro c o s hcb hc hs
  rcases h.sep c b o _ cb s sz hc ho hs hb with e | e | e
  ·exact hcb e
  ·simp [z1] at e
  ·have := h.sup b c _ o _ ho hc hs e
   simp [z2] at this
 have hglob : Glob σ w' := h.glob.of (Nat.le_of_eq hsz.symm) (fun i hi hno => hrest i (fun e => by subst e; exact hno b sz hb)) fun x cb s e _ => ⟨x, s, e⟩
 refine ⟨⟨hlim, ?_, ?_, ?_, ?_, ?_, hglob⟩, ⟨fun _ _ e => e, fun c _ s e _ => ⟨c, s, e⟩, ?_, Nat.le_refl _, hos, ht, hout, Nat.le_of_eq hsz.symm, ?_, hdr⟩⟩
 ·intro c x s e; have := h.dom c x s e; rw [hsz]; exact this
 ·intro c o x s e1 e2
  by_cases hcb : c = b
  ·subst hcb
   rw [hb] at e2
   cases e2
   rw [keyb] at e1
   cases e1
   exact hd
  ·have e1' := key c o hcb (lt e2) e1
   refine (h.obj c o x s e1' e2).of_block (hrest x ?_)
   intro e
   subst e
   exact alone c o s hcb e1' e2
 ·intro c c' o o' x s s' e1 e2 e3 e4
  by_cases h1 : c = b
  ·subst h1
   by_cases h2 : c' = c
   ·exact .inl h2.symm
   ·have e2' := key c' o' h2 (lt e4) e2
    rw [hb] at e3
    cases e3
    exact (alone c' o' s' h2 e2' e4).elim
  ·have e1' := key c o h1 (lt e3) e1
   by_cases h2 : c' = b
   ·subst h2
    rw [hb] at e4
    cases e4
    exact (alone c o s h1 e1' e3).elim
   ·exact h.sep c c' o o' x s s' e1' (key c' o' h2 (lt e4) e2) e3 e4
 ·intro c c' o o' p e1 e2 e3 e4
  by_cases h2 : c' = b
  ·subst h2
   rw [keyb] at e2; cases e2; simp [z3] at e4
  ·have e2' := key c' o' h2 (lt e3) e2
   obtain ⟨p', hp'⟩ := h.old c' o' p e2' e3 c e4
   by_cases h1 : c = b
   ·subst h1
    have := h.sup c c' _ o' p ho e2' e3 e4
    simp [z2] at this
   ·exact h.sup c c' o o' p (key c o h1 (lt hp') e1) e2' e3 e4
 ·intro c o p e1 e2 c' e3
  by_cases h1 : c = b
  ·subst h1
   rw [keyb] at e1; cases e1; simp [z3] at e3
  ·exact h.old c o p (key c o h1 (lt e2) e1) e2 c' e3
 ·intro c hc hn
  refine ⟨hn, ?_⟩
  have hcb : b ≠ c := fun e => by subst e; rw [hb] at hn; cases hn
  exact get5_ne hcb bn (by omega)
 ·intro i hi hno
  exact hrest i (fun e => by subst e; exact hno b sz hb)
theorem Rel.storeMap {σ : Sg} {H : Heap} {nx b cb sz : Nat} {w w' : World} {es es2 : List AEnt} {clock clock2 : Nat} {es2' : Array MapEntry} (h : Rel σ H nx w) (hb : σ b = some (cb, sz)) (ho : get5 b H = some (.map es clock))
  (hw : w'.heap[cb]? = some (.map es2' clock2)) (hd : DenE σ es2 es2'.toList) (hrest : ∀ k, k ≠ cb → w'.heap[k]? = w.heap[k]?) (hos : w'.os = w.os) (ht : w'.tape = w.tape) (hout : w'.output = w.output) (hsz : w'.heap.size = w.heap.size) (hdr : w.drawn ≤ w'.drawn) :
  Rel σ (set5 b (some (.map es2 clock2)) H) nx w' ∧ Ext σ σ H (set5 b (some (.map es2 clock2)) H) nx nx w w' :=
 h.storeObj hb ho rfl rfl rfl ⟨es2', hw, hd⟩ hrest hos ht hout hsz hdr
def ikC (k : IntKind) : Nat := IntKind.rec 0 1 2 3 4 5 6 7 k
theorem ikC_inj {k j : IntKind} (h : Nat.beq (ikC k) (ikC j) = true) : k = j := by
 cases k <;> cases j <;> first | rfl | exact Bool.noConfusion h
def keyEq (P : Program) (kt : TypeId) (a b : AVal) : Option Bool :=
 match a, b with
 | .int k n, .int j m => match Nat.beq (ikC k) (ikC j) with
  | true => some (ieq n m)
  | false => none
 | .agg cs, .agg ds => match structOK P kt cs.length with
  | true => aggEq cs ds
  | false => none
 | _, _ => none
def intDD : TypeDesc → Bool
 | .int _ => true
 | _ => false
def allInts : List AVal → Bool
 | [] => true
 | .int _ _ :: l => allInts l
 | _ => false
theorem allInts_self : ∀ {cs : List AVal}, allInts cs = true → aggEq cs cs = some true
 | [], _ => rfl
 | c :: cs, h => by
  cases c <;> try (cases h; done)
  have ih := allInts_self (cs := cs) h
  unfold aggEq
  simp [ih]
def keyOK (P : Program) (kt : TypeId) (a : AVal) : Bool :=
 match a with
 | .int _ _ => match P.underlying kt with
  | some d => intDD d
  | none => false
 | .agg cs => match allInts cs with
  | true => structOK P kt cs.length
  | false => false
 | _ => false
def findA (P : Program) (kt : TypeId) (key : AVal) : List AEnt → Nat → Option (Option (Nat × AVal))
 | [], _ => some none
 | e :: es, i => match keyEq P kt key e.key with
  | some true => some (some (i, e.val))
  | some false => findA P kt key es (Nat.succ i)
  | none => none
def FoundRel (σ : Sg) : Option (Nat × AVal) → Option (Nat × Value) → Prop
 | none, none => True
 | some (i, v), some (j, v') => i = j ∧ Den σ v v'
 | _, _ => False
theorem aggEq_same {σ : Sg} : ∀ {cs ds : List AVal} {as bs : List Value}, aggEq cs ds = some true → DenL σ cs as → DenL σ ds bs → as = bs ∧ ∀ n, ((as.zip bs).all fun (x, y) => Instr.sameBits n x y) = true
 | [], [], _, _, _, .nil, .nil => ⟨rfl, fun _ => rfl⟩
 | [], _ :: _, _, _, h, _, _ => by cases h
 | c :: cs, [], _, _, h, _, _ => by cases c <;> cases h
 | c :: cs, d :: ds, _, _, h, .cons ha ta, .cons hb tb => by
  cases c <;> try (cases h; done)
  cases d <;> try (cases h; done)
  unfold aggEq at h
  split at h <;> try (cases h; done)
  rename_i hk
  split at h <;> try (cases h; done)
  rename_i r hr
  have hk := of_decide_eq_true hk
  subst hk
  simp at h
  obtain ⟨hn, rfl⟩ := h
  subst hn
  cases ha
  cases hb
  obtain ⟨e, s⟩ := aggEq_same hr ta tb
  refine ⟨by rw [e], fun n => ?_⟩
  simp only [List.zip_cons_cons, List.all_cons, s n, Bool.and_true]
  simp [Instr.sameBits]
theorem keyEq_ok {P : Program} {w : World} {σ : Sg} {kt : TypeId} {a b : AVal} {a' b' : Value} {r : Bool} (h : keyEq P kt a b = some r) (hk : keyOK P kt a = true) (ha : Den σ a a') (hb : Den σ b b') :
  (Op.equal kt a' b').run P w = .ok r w ∧ (r = true → b' = a' ∧ ∀ n, Instr.sameBits (n + 1) a' a' = true) := by
 unfold keyEq at h
 split at h
 ·rename_i k n j m
  split at h <;> try (cases h; done)
  rename_i hkj
  have := ikC_inj hkj
  subst this
  cases ha
  cases hb
  cases h
  unfold keyOK at hk
  simp only [] at hk
  split at hk <;> try (cases hk; done)
  rename_i d hd
  unfold intDD at hk
  split at hk <;> try (cases hk; done)
  rename_i kk
  rw [ieq_eq]
  refine ⟨?_, fun hh => ?_⟩
  ·have := run_equalIn_int (P := P) w 9999 kt k kk n m hd
   simpa only [Op.equal, Op.maxDepth] using this
  ·have : n = m := by simpa using hh
   subst this
   exact ⟨rfl, fun q => by simp [Instr.sameBits]⟩
 ·rename_i cs ds
  split at h <;> try (cases h; done)
  rename_i hs
  cases ha with
  | agg ha =>
  cases hb with
  | agg hb =>
  unfold structOK at hs
  simp only [Bool.and_eq_true, Bool.not_eq_true'] at hs
  obtain ⟨h1, h2, h3, h4⟩ := hs
  have hu : P.underlying kt = some (.struct (P.fieldsOf kt)) := by
   unfold Program.fieldsOf
   split at h1
   ·rename_i fs e; rw [e]
   ·cases h1
  refine ⟨?_, fun hr => ?_⟩
  ·have := (run_equalIn_agg w 9999 kt _ _ hu h2).trans (aggEq_run (d := 9998) h4 h (by omega) (by simpa using ha) (by simpa using hb))
   simpa only [Op.equal, Op.maxDepth] using this
  subst hr
  obtain ⟨e, _⟩ := aggEq_same h ha hb
  subst e
  unfold keyOK at hk
  simp only [] at hk
  split at hk <;> try (cases hk; done)
  rename_i hcc0
  have hcc := allInts_self hcc0
  obtain ⟨_, s⟩ := aggEq_same hcc ha ha
  refine ⟨rfl, fun n => ?_⟩
  simp only [Instr.sameBits, s n, beq_self_eq_true, Bool.and_true]
 ·cases h
def FoundAt (key' : Value) (es' : List MapEntry) (i : Nat) (r' : Option (Nat × Value)) : Prop :=
 ∀ j v, r' = some (j, v) → i ≤ j ∧ ((es'[j - i]?).map (·.key)) = some key'
theorem FoundAt.succ {key' : Value} {e' : MapEntry} {es' : List MapEntry} {i : Nat} {r' : Option (Nat × Value)} (h : FoundAt key' es' (i + 1) r') : FoundAt key' (e' :: es') i r' := by
 intro j v e
 obtain ⟨g1, g2⟩ := h j v e
 refine ⟨by omega, ?_⟩
 have : j - i = (j - (i + 1)) + 1 := by omega
 rw [this, List.getElem?_cons_succ]
 exact g2
theorem findAsking_ok {P : Program} {w : World} {σ : Sg} {kt : TypeId} {key : AVal} {key' : Value} (hk : keyOK P kt key = true) (hkd : Den σ key key') : ∀ {es : List AEnt} {es' : List MapEntry} {i : Nat} {r : Option (Nat × AVal)}, findA P kt key es i = some r → DenE σ es es' →
  ∃ r', (Instr.findAsking kt key' es' i).run P w = .ok r' w ∧ FoundRel σ r r' ∧ FoundAt key' es' i r'
 | [], _, i, r, h, .nil => by cases h; exact ⟨none, rfl, trivial, fun _ _ e => by cases e⟩
 | e :: es, e' :: es', i, r, h, .cons he hv hb t => by
  unfold findA at h
  split at h <;> try (cases h; done)
  ·rename_i hq
   obtain ⟨q1, q2⟩ := keyEq_ok (w := w) hq hk hkd he
   cases h
   refine ⟨some (i, e'.val), ?_, ⟨rfl, hv⟩, fun j v eq => ?_⟩
   ·simp only [Instr.findAsking, Sem.run_bind, q1, Result.andThen_ok, if_true, Sem.run_pure]
   ·cases eq
    exact ⟨Nat.le_refl _, by simp [(q2 rfl).1]⟩
  ·rename_i hq
   obtain ⟨q1, _⟩ := keyEq_ok (w := w) hq hk hkd he
   obtain ⟨r', f1, f2, f3⟩ := findAsking_ok hk hkd h t
   refine ⟨r', ?_, f2, f3.succ⟩
   simp only [Instr.findAsking, Sem.run_bind, q1, Result.andThen_ok, Bool.false_eq_true, if_false]
   exact f1
theorem findNow_ok {P : Program} {σ : Sg} {kt : TypeId} {k kk : IntKind} {n : Int} : ∀ {es : List AEnt} {es' : List MapEntry} {i : Nat} {r : Option (Nat × AVal)}, findA P kt (.int k n) es i = some r → DenE σ es es' →
  ∃ r', Instr.findNow (.int kk) (.int k n) es' i = some r' ∧ FoundRel σ r r' ∧ FoundAt (.int k n) es' i r'
 | [], _, i, r, h, .nil => by cases h; exact ⟨none, rfl, trivial, fun _ _ e => by cases e⟩
 | e :: es, e' :: es', i, r, h, .cons hk hv hb t => by
  unfold findA at h
  split at h <;> try (cases h; done)
  all_goals
   rename_i hq
   unfold keyEq at hq
   split at hq <;> try (cases hq; done)
   ·rename_i k0 n0 j m hkey hj
    cases hkey
    split at hq <;> try (cases hq; done)
    rename_i hkj
    have := ikC_inj hkj
    subst this; rw [hj] at hk
    have hk' : e'.key = .int k m := by cases hx : e'.key <;> rw [hx] at hk <;> cases hk <;> rfl
    rw [ieq_eq] at hq; have hq := Option.some.inj hq
    first
    | (
      cases h
      refine ⟨some (i, e'.val), ?_, ⟨rfl, hv⟩, fun q v eq => ?_⟩
      ·have : (n == m) = true := by simpa using hq
       simp only [Instr.findNow, Instr.sameNow, hk', if_true, this]
      ·cases eq
       refine ⟨Nat.le_refl _, ?_⟩
       have : n = m := by simpa using hq
       simp [hk', this])
    | (
      obtain ⟨r', f1, f2, f3⟩ := findNow_ok (kk := kk) h t
      refine ⟨r', ?_, f2, f3.succ⟩
      have : (n == m) = false := by simpa using hq
      simp only [Instr.findNow, Instr.sameNow, hk', if_true, this]
      exact f1)
   ·cases ‹AVal.int _ _ = AVal.agg _›
theorem findKey_ok {P : Program} {w : World} {σ : Sg} {kt : TypeId} {key : AVal} {key' : Value} {es : List AEnt} {es' : List MapEntry} {r : Option (Nat × AVal)} (hk : keyOK P kt key = true) (hkd : Den σ key key') (h : findA P kt key es 0 = some r) (hd : DenE σ es es') :
  ∃ r', (Instr.findKey kt key' es').run P w = .ok r' w ∧ FoundRel σ r r' ∧ FoundAt key' es' 0 r' := by
 unfold keyOK at hk
 split at hk
 ·rename_i k n
  split at hk <;> try (cases hk; done)
  rename_i d hu
  unfold intDD at hk
  split at hk <;> try (cases hk; done)
  rename_i kk
  cases hkd
  obtain ⟨r', f1, f2, f3⟩ := findNow_ok (kk := kk) h hd
  exact ⟨r', MapKept.run_findKey hu f1, f2, f3⟩
 ·rename_i cs
  split at hk <;> try (cases hk; done)
  rename_i hcc0
  have hcc := allInts_self hcc0
  have hk' : keyOK P kt (.agg cs) = true := by unfold keyOK; simp only [hcc0, hk]
  have hs := hk
  unfold structOK at hs
  simp only [Bool.and_eq_true, Bool.not_eq_true'] at hs
  obtain ⟨h1, h2, h3, h4⟩ := hs
  have hu : P.underlying kt = some (.struct (P.fieldsOf kt)) := by
   unfold Program.fieldsOf
   split at h1
   ·rename_i fs e; rw [e]
   ·cases h1
  cases hd with
  | nil =>
   cases h
   exact ⟨none, MapKept.run_findKey hu rfl, trivial, fun _ _ e => by cases e⟩
  | @cons e e' l l' he hv hb t =>
   obtain ⟨r', f1, f2, f3⟩ := findAsking_ok (w := w) hk' hkd h (.cons he hv hb t)
   refine ⟨r', ?_, f2, f3⟩
   have hn : Instr.findNow (.struct (P.fieldsOf kt)) key' (e' :: l') 0 = none := by
    simp only [Instr.findNow, Instr.sameNow]
   simp only [Instr.findKey, Sem.run_bind, run_underlying' hu, Result.andThen_ok, hn]
   exact f1
 ·cases hk
theorem checkFields {P : Program} {w : World} {em : Bool} {d : Nat} {xs : Array Value} : ∀ {fs : List Field} {i n : Nat} {σ : Sg} {cs : List AVal}, flatInts P i fs n = true → aggEq cs cs = some true → cs.length = n - i → DenL σ cs (xs.toList.drop i) →
  (forIn (m := Sem) fs PUnit.unit fun f _ => do
   if f.name ≠ "_" then Instr.checkKey em (d + 1) f.type (← part f.type xs f.offset)
   pure (ForInStep.yield PUnit.unit)).run P w = .ok PUnit.unit w
 | [], i, n, σ, cs, h, e, hl, hx => rfl
 | f :: fs, i, n, σ, cs, h, e, hl, hx => by
  have hbound : ∀ {fs : List Field} {i : Nat}, flatInts P i fs n = true → i ≤ n := by
   intro fs
   induction fs with
   | nil => intro i h; exact Nat.le_of_eq (Nat.eq_of_beq_eq_true h)
   | cons g gs ih =>
    intro i h
    unfold flatInts at h
    simp only [Bool.and_eq_true] at h
    have := ih h.2.2.2
    omega
  unfold flatInts at h
  simp only [Bool.and_eq_true] at h
  obtain ⟨h1, h2, h3, h4⟩ := h
  have h2 : f.offset = i := Nat.eq_of_beq_eq_true h2
  have h3 : f.name ≠ "_" := by simpa using h3
  split at h1 <;> try (cases h1; done)
  rename_i k0 hu
  cases cs with
  | nil => have := hbound h4; simp at hl; omega
  | cons c cs =>
   cases c <;> try (cases e; done)
   rename_i k a
   unfold aggEq at e
   split at e <;> try (cases e; done)
   split at e <;> try (cases e; done)
   rename_i r' hr'
   simp at e
   subst e
   generalize hxs : xs.toList.drop i = lx at hx
   cases hx with
   | cons da ta =>
    rename_i va la
    cases da
    have gx : xs[i]? = some (.int k a) := by rw [← Array.getElem?_toList, ← List.head?_drop, hxs]; rfl
    have tx : xs.toList.drop (i + 1) = la := by rw [← List.tail_drop, hxs]; rfl
    have px : ∀ w, (part f.type xs f.offset).run P w = .ok (.int k a) w := fun w => by
     rw [h2]; simp [part, run_isAgg' hu, aggD, gx]
    have ck : (Instr.checkKey em (d + 1) f.type (.int k a)).run P w = .ok () w := by
     simp [Instr.checkKey, run_underlying' hu]
    have ih := checkFields (P := P) (w := w) (em := em) (d := d) (xs := xs) (σ := σ) (n := n) h4 hr' (by simp at hl; omega) (by rw [tx]; exact ta)
    simp only [ne_eq] at ih
    simp only [List.forIn_cons, Sem.run_bind, h3, ne_eq, not_false_eq_true, if_true, px, Result.andThen_ok, ck, Sem.run_pure]
    exact ih
theorem checkKey_int {P : Program} {w : World} {kt : TypeId} {k kk : IntKind} {m : Int} (e : Bool) (n : Nat) (hu : P.underlying kt = some (.int kk)) : (Instr.checkKey e (n + 1) kt (.int k m)).run P w = .ok () w := by
 simp [Instr.checkKey, run_underlying' hu]
theorem checkKey_agg {P : Program} {w : World} {σ : Sg} {kt : TypeId} {cs : List AVal} {a' : List Value} (e : Bool) (n : Nat) (hu : P.underlying kt = some (.struct (P.fieldsOf kt))) (h4 : flatInts P 0 (P.fieldsOf kt).toList cs.length = true) (hcc : aggEq cs cs = some true) (ha : DenL σ cs a') :
  (Instr.checkKey e (n + 2) kt (.agg ⟨a'⟩)).run P w = .ok () w := by
 have := checkFields (P := P) (w := w) (em := e) (d := n) (xs := ⟨a'⟩) (σ := σ) h4 hcc (by omega) (by simpa using ha)
 simp only [ne_eq] at this
 rw [Instr.checkKey]
 simp only [Sem.run_bind, run_underlying' hu, Result.andThen_ok]
 rw [← Array.forIn_toList]
 simp only [ne_eq, Sem.run_bind, this, Result.andThen_ok, Sem.run_pure]
theorem checkKey_ok {P : Program} {w : World} {σ : Sg} {kt : TypeId} {key : AVal} {key' : Value} (e : Bool) (hk : keyOK P kt key = true) (hkd : Den σ key key') : (Instr.checkKey e 10000 kt key').run P w = .ok () w := by
 unfold keyOK at hk
 split at hk
 ·rename_i k n
  split at hk <;> try (cases hk; done)
  rename_i d hu
  unfold intDD at hk
  split at hk <;> try (cases hk; done)
  cases hkd
  exact checkKey_int e 9999 hu
 ·rename_i cs
  split at hk <;> try (cases hk; done)
  rename_i hcc0
  have hcc := allInts_self hcc0
  unfold structOK at hk
  simp only [Bool.and_eq_true, Bool.not_eq_true'] at hk
  obtain ⟨h1, h2, h3, h4⟩ := hk
  have hu : P.underlying kt = some (.struct (P.fieldsOf kt)) := by
   unfold Program.fieldsOf
   split at h1
   ·rename_i fs e; rw [e]
   ·cases h1
  cases hkd with
  | agg ha => exact checkKey_agg e 9998 hu h4 hcc ha
 ·cases hk
def entsOf (H : Heap) (m : AVal) : Option (List AEnt) := match m with
 | .nilMap => some []
 | .map b => match get5 b H with
  | some (.map es _) => some es
  | _ => none
 | _ => none
def opLookup (P : Program) (t : TypeId) (x ix : Operand) (ok : Bool) (ρ : Operand → AVal) (H : Heap) (nx : Nat) : Option ARes :=
 match P.underlying t, entsOf H (ρ x) with
 | some (.map kt et), some es => match keyOK P kt (ρ ix), findA P kt (ρ ix) es 0 with
  | true, some (some (_, v)) => match ok with
   | true => some (.val (.tuple [v, .bool true]) H nx)
   | false => some (.val v H nx)
  | true, some none => match P.info? et with
   | some i => match i.zero with
    | some z => match ok with
     | true => some (.val (.tuple [ofVal z, .bool false]) H nx)
     | false => some (.val (ofVal z) H nx)
    | none => none
   | none => none
  | _, _ => none
 | _, _ => none
theorem opLookup_ok {P : Program} {o : Oper} {t : TypeId} {x ix : Operand} {ok : Bool} {ρ : Operand → AVal} {H : Heap} {nx : Nat} {r : ARes} (ho : o.op = .lookup t x ix ok)
  (h : opLookup P t x ix ok ρ H nx = some r) : OpOK P o ρ H nx r := by
 unfold opLookup at h
 split at h <;> try (cases h; done)
 rename_i kt et es hu hes
 have main : ∀ (σ : Sg) (w : World) (ρ' : Operand → Value), Rel σ H nx w → (∀ x, Den σ (ρ x) (ρ' x)) → keyOK P kt (ρ ix) = true → ∀ {r0}, findA P kt (ρ ix) es 0 = some r0 →
   ∃ r', FoundRel σ r0 r' ∧ ∀ {v' : Value} {b : Bool}, (match r' with | some (_, v) => v' = v ∧ b = true | none => (zeroValue et).run P w = .ok v' w ∧ b = false) → (execOp ρ' o).run P w = .ok (.value (if ok then .tuple #[v', .bool b] else v')) w := by
  intro σ w ρ' hr hd hkk r0 hf
  have dx := hd x
  have ents : ∃ es' : Array MapEntry, DenE σ es es'.toList ∧ ((ρ' x = .map none ∧ es' = #[]) ∨ ∃ rb clock, ρ' x = .map (some rb) ∧ w.heap[rb]? = some (.map es' clock)) := by
   unfold entsOf at hes
   split at hes <;> try (cases hes; done)
   ·rename_i hxn
    cases hes
    rw [hxn] at dx
    refine ⟨#[], .nil, .inl ⟨?_, rfl⟩⟩
    cases hq : ρ' x <;> rw [hq] at dx <;> cases dx <;> rfl
   ·rename_i b hxb
    split at hes <;> try (cases hes; done)
    rename_i clock hob
    cases hes
    rw [hxb] at dx
    cases hq : ρ' x <;> rw [hq] at dx <;> cases dx
    rename_i cb sz hb
    obtain ⟨es', h1, h2⟩ := hr.obj b _ cb sz hob hb
    exact ⟨es', h2, .inr ⟨cb, clock, rfl, h1⟩⟩
  obtain ⟨es', hden, hcase⟩ := ents
  obtain ⟨r', hfk, f2, _⟩ := findKey_ok (w := w) hkk (hd ix) hf hden
  refine ⟨r', f2, fun {v' b} hv => ?_⟩
  have hck := checkKey_ok (w := w) es'.isEmpty hkk (hd ix)
  rcases hcase with ⟨hx0, he0⟩ | ⟨rb, clock, hx0, hb0⟩
  ·subst he0
   cases r' with
   | none =>
    obtain ⟨hz, rfl⟩ := hv
    simp only [execOp, ho, hx0, Instr.lookup, Sem.run_bind, run_underlying' hu, Result.andThen_ok, Sem.run_pure, hck, hfk, hz]
   | some p =>
    obtain ⟨j, v⟩ := p
    obtain ⟨rfl, rfl⟩ := hv
    simp only [execOp, ho, hx0, Instr.lookup, Sem.run_bind, run_underlying' hu, Result.andThen_ok, Sem.run_pure, hck, hfk]
  ·cases r' with
   | none =>
    obtain ⟨hz, rfl⟩ := hv
    simp only [execOp, ho, hx0, Instr.lookup, Sem.run_bind, run_underlying' hu, Result.andThen_ok, Sem.run_pure, MapKept.run_getObj_map hb0, hck, hfk, hz]
   | some p =>
    obtain ⟨j, v⟩ := p
    obtain ⟨rfl, rfl⟩ := hv
    simp only [execOp, ho, hx0, Instr.lookup, Sem.run_bind, run_underlying' hu, Result.andThen_ok, Sem.run_pure, MapKept.run_getObj_map hb0, hck, hfk]
 split at h <;> try (cases h; done)
 ·rename_i j v hkk hf
  split at h
  ·cases h
   refine OpOK.pure fun σ w ρ' hr hd => ?_
   obtain ⟨r', f2, run⟩ := main σ w ρ' hr hd hkk hf
   cases r' with
   | none => exact f2.elim
   | some p =>
    obtain ⟨j', v'⟩ := p
    exact ⟨_, .tuple (.cons f2.2 (.cons (.bool true) .nil)), run (v' := v') (b := true) ⟨rfl, rfl⟩⟩
  ·cases h
   refine OpOK.pure fun σ w ρ' hr hd => ?_
   obtain ⟨r', f2, run⟩ := main σ w ρ' hr hd hkk hf
   cases r' with
   | none => exact f2.elim
   | some p =>
    obtain ⟨j', v'⟩ := p
    exact ⟨_, f2.2, run (v' := v') (b := true) ⟨rfl, rfl⟩⟩
 ·rename_i hkk hf
  split at h <;> try (cases h; done)
  rename_i i hi
  split at h <;> try (cases h; done)
  rename_i z hz
  split at h
  ·cases h
   refine OpOK.pure fun σ w ρ' hr hd => ?_
   obtain ⟨r', f2, run⟩ := main σ w ρ' hr hd hkk hf
   cases r' with
   | some p => exact f2.elim
   | none => exact ⟨_, .tuple (.cons (den_ofVal σ z) (.cons (.bool false) .nil)), run (v' := z) (b := false) ⟨run_zeroValue' hi hz, rfl⟩⟩
  ·cases h
   refine OpOK.pure fun σ w ρ' hr hd => ?_
   obtain ⟨r', f2, run⟩ := main σ w ρ' hr hd hkk hf
   cases r' with
   | some p => exact f2.elim
   | none => exact ⟨_, den_ofVal σ z, run (v' := z) (b := false) ⟨run_zeroValue' hi hz, rfl⟩⟩
def opMakeMap (r : Option Operand) (_ρ : Operand → AVal) (H : Heap) (nx : Nat) : Option ARes :=
 match r, Nat.ble (Nat.succ nx) (Nat.succ nx) with
 | none, true => forceN nx fun b => some (.val (.map b) (set5 b (some (.map [] 0)) H) (Nat.succ b))
 | _, _ => none
theorem opMakeMap_ok {P : Program} {o : Oper} {t : TypeId} {q : Option Operand} {ρ : Operand → AVal} {H : Heap} {nx : Nat} {r : ARes} (ho : o.op = .makeMap t q)
  (h : opMakeMap q ρ H nx = some r) : OpOK P o ρ H nx r := by
 unfold opMakeMap at h
 split at h <;> try (cases h; done)
 rename_i hle
 rw [forceN_eq] at h
 cases h
 intro σ w ρ' hr hd
 have hx : nx < nx + 1 := Nat.le_of_ble_eq_true hle
 obtain ⟨R, E⟩ := hr.allocMap hx
 refine ⟨_, _, .map (some w.heap.size), R, E, .map (sz := 0) (by simp [upd]), .inl ?_⟩
 simp [execOp, ho, Instr.makeMap, newObj, Sem.run]
def setEnt (key val : AVal) : List AEnt → Nat → List AEnt
 | [], _ => []
 | e :: es, 0 => ⟨key, val, e.born⟩ :: es
 | e :: es, i + 1 => e :: setEnt key val es i
def opMapUpdate (P : Program) (t : TypeId) (m ky x : Operand) (ρ : Operand → AVal) (H : Heap) (nx : Nat) : Option ARes :=
 match P.underlying t, ρ m with
 | some (.map kt _), .map b => match get5 b H with
  | some (.map es clock) => match keyOK P kt (ρ ky), findA P kt (ρ ky) es 0 with
   | true, some (some (i, _)) => some (.val .und (set5 b (some (.map (setEnt (ρ ky) (ρ x) es i) clock)) H) nx)
   | true, some none => some (.val .und (set5 b (some (.map (es ++ [⟨ρ ky, ρ x, clock⟩]) (Nat.succ clock))) H) nx)
   | _, _ => none
  | _ => none
 | _, _ => none
theorem DenE.append {σ : Sg} : ∀ {l : List AEnt} {l' : List MapEntry} {m : List AEnt} {m' : List MapEntry}, DenE σ l l' → DenE σ m m' → DenE σ (l ++ m) (l' ++ m')
 | _, _, _, _, .nil, h => h
 | _, _, _, _, .cons hk hv hb t, h => .cons hk hv hb (DenE.append t h)
theorem DenE.setEnt {σ : Sg} {key val : AVal} {key' val' : Value} (hk : Den σ key key') (hv : Den σ val val') : ∀ {l : List AEnt} {l' : List MapEntry} (i : Nat), DenE σ l l' → DenE σ (Vs.setEnt key val l i) (l'.modify i fun e => { e with key := key', val := val' })
 | _, _, i, .nil => by cases i <;> exact .nil
 | _, _, 0, .cons _ _ hb t => .cons hk hv hb t
 | _, _, i + 1, .cons h1 h2 h3 t => .cons h1 h2 h3 (DenE.setEnt hk hv i t)
theorem keyStays {P : Program} {w : World} {key' : Value} (h : ∀ n, Instr.sameBits (n + 1) key' key' = true) : (Instr.keyThatStays key' key').run P w = .ok key' w := by
 have := h 9999
 simp only [Instr.keyThatStays, show Instr.sameBits 10000 key' key' = true from this, if_true, Sem.run_pure]
theorem keySelf {P : Program} {σ : Sg} {kt : TypeId} {key : AVal} {key' : Value} (hk : keyOK P kt key = true) (hd : Den σ key key') : ∀ n, Instr.sameBits (n + 1) key' key' = true := by
 intro n
 unfold keyOK at hk
 split at hk
 ·cases hd; simp [Instr.sameBits]
 ·split at hk <;> try (cases hk; done)
  rename_i hcc0
  have hcc := allInts_self hcc0
  cases hd with
  | agg ha =>
   obtain ⟨_, s⟩ := aggEq_same hcc ha ha
   simp only [Instr.sameBits, s n, beq_self_eq_true, Bool.and_true]
 ·cases hk
theorem opMapUpdate_ok {P : Program} {o : Oper} {t : TypeId} {m ky x : Operand} {ρ : Operand → AVal} {H : Heap} {nx : Nat} {r : ARes} (ho : o.op = .mapUpdate t m ky x ∨ o.op = .insert t m ky x)
  (h : opMapUpdate P t m ky x ρ H nx = some r) : OpOK P o ρ H nx r := by
 unfold opMapUpdate at h
 split at h <;> try (cases h; done)
 rename_i kt et b hu hm
 split at h <;> try (cases h; done)
 rename_i es clock hob
 have ex : ∀ (ρ' : Operand → Value) (w w' : World), (Instr.mapUpdate t (ρ' m) (ρ' ky) (ρ' x)).run P w = .ok () w' → (execOp ρ' o).run P w = .ok .skip w' := by
  intro ρ' w w' hrun
  rcases ho with ho | ho <;> simp [execOp, ho, hrun]
 have prep : ∀ (σ : Sg) (w : World) (ρ' : Operand → Value), Rel σ H nx w → (∀ x, Den σ (ρ x) (ρ' x)) → ∃ cb sz, ∃ es' : Array MapEntry, σ b = some (cb, sz) ∧ ρ' m = .map (some cb) ∧ w.heap[cb]? = some (.map es' clock) ∧ DenE σ es es'.toList := by
  intro σ w ρ' hr hd
  have dm := hd m; rw [hm] at dm
  cases hq : ρ' m <;> rw [hq] at dm <;> cases dm
  rename_i cb sz hb
  obtain ⟨es', h1, h2⟩ := hr.obj b _ cb sz hob hb
  exact ⟨cb, sz, es', hb, rfl, h1, h2⟩
 split at h <;> try (cases h; done)
 ·rename_i i v hkk hf
  cases h
  intro σ w ρ' hr hd
  obtain ⟨cb, sz, es', hb, em, hw, hden⟩ := prep σ w ρ' hr hd
  obtain ⟨r', hfk, f2, f3⟩ := findKey_ok (w := w) hkk (hd ky) hf hden
  cases r' with
  | none => exact f2.elim
  | some p =>
   obtain ⟨j, v'⟩ := p
   obtain ⟨rfl, _⟩ := f2
   obtain ⟨_, g2⟩ := f3 i v' rfl
   have hold : ((es'[i]?).map (·.key)).getD (ρ' ky) = ρ' ky := by
    have : (es'[i]?).map (·.key) = some (ρ' ky) := by simpa using g2
    rw [this]; rfl
   have hlt : cb < w.heap.size := (hr.dom b cb sz hb).2
   obtain ⟨s1, s2⟩ := MapKept.heap_set (o' := .map (es'.modify i fun e => { e with key := ρ' ky, val := ρ' x }) clock) hw
   obtain ⟨R, E⟩ := hr.storeMap (w' := { w with heap := w.heap.setIfInBounds cb (.map (es'.modify i fun e => { e with key := ρ' ky, val := ρ' x }) clock) }) (es2 := setEnt (ρ ky) (ρ x) es i) (clock2 := clock) hb hob s1
    (by rw [Array.toList_modify]; exact DenE.setEnt (hd ky) (hd x) i hden) s2 rfl rfl rfl (by simp) (Nat.le_refl _)
   refine ⟨σ, _, undef, R, E, .und _, .inr ⟨ex ρ' w _ ?_, rfl⟩⟩
   have hck := checkKey_ok (w := w) false hkk (hd ky)
   have hks := keyStays (P := P) (w := w) (keySelf hkk (hd ky))
   simp only [em, Instr.mapUpdate, Sem.run_bind, run_underlying' hu, Result.andThen_ok, MapKept.run_getObj_map hw, hck, hfk, hold, hks, MapKept.run_setObj_map _ hw]
 ·rename_i hkk hf
  cases h
  intro σ w ρ' hr hd
  obtain ⟨cb, sz, es', hb, em, hw, hden⟩ := prep σ w ρ' hr hd
  obtain ⟨r', hfk, f2, f3⟩ := findKey_ok (w := w) hkk (hd ky) hf hden
  cases r' with
  | some p => exact f2.elim
  | none =>
   obtain ⟨s1, s2⟩ := MapKept.heap_set (o' := .map (es'.push { key := ρ' ky, val := ρ' x, born := clock }) (clock + 1)) hw
   obtain ⟨R, E⟩ := hr.storeMap (w' := { w with heap := w.heap.setIfInBounds cb (.map (es'.push { key := ρ' ky, val := ρ' x, born := clock }) (clock + 1)) }) (es2 := es ++ [⟨ρ ky, ρ x, clock⟩]) (clock2 := clock + 1) hb hob s1
    (by rw [Array.toList_push]; exact hden.append (.cons (hd ky) (hd x) rfl .nil)) s2 rfl rfl rfl (by simp) (Nat.le_refl _)
   refine ⟨σ, _, undef, R, E, .und _, .inr ⟨ex ρ' w _ ?_, rfl⟩⟩
   have hck := checkKey_ok (w := w) false hkk (hd ky)
   simp only [em, Instr.mapUpdate, Sem.run_bind, run_underlying' hu, Result.andThen_ok, MapKept.run_getObj_map hw, hck, hfk, MapKept.run_setObj_map _ hw]
def minN (a b : Nat) : Nat := Bool.rec b a (Nat.ble a b)
theorem minN_eq (a b : Nat) : minN a b = Nat.min b a ∧ minN a b ≤ a ∧ minN a b ≤ b ∧ minN a b = Nat.min a b := by
 unfold minN
 cases h : Nat.ble a b with
 | true => have := Nat.le_of_ble_eq_true h; show a = Nat.min b a ∧ a ≤ a ∧ a ≤ b ∧ a = Nat.min a b; simp only [Nat.min_def]; refine ⟨?_, Nat.le_refl _, this, ?_⟩ <;> split <;> omega
 | false =>
  have : ¬ a ≤ b := fun hle => by rw [Nat.ble_eq_true_of_le hle] at h; cases h
  show b = Nat.min b a ∧ b ≤ a ∧ b ≤ b ∧ b = Nat.min a b
  simp only [Nat.min_def]
  refine ⟨?_, by omega, Nat.le_refl _, ?_⟩ <;> split <;> omega
def opCopy (P : Program) (types : Array TypeId) (args : Array Operand) (ρ : Operand → AVal) (H : Heap) (nx : Nat) : Option ARes :=
 match types.toList, args.toList with
 | dT :: _, [d, s] => match P.underlying dT with
  | some (.slice elem) => match P.info? elem, ρ d, ρ s with
   | some e, .slice b off len _ _, .slice b2 off2 len2 _ _ => match get5 b H, get5 b2 H with
    | some (.cells cnt ct olds false), some (.cells cnt2 ct2 _ _) => forceN (minN len2 len) fun n => match Nat.ble (Nat.add off (Nat.mul n e.size)) cnt, Nat.ble (Nat.add off2 (Nat.mul n e.size)) cnt2, allCell (CT.slab ct2 (Nat.mul n e.size) off2) with
     | true, true, true => some (.val (.int .i64 (.ofNat n)) (set5 b (some (.cells cnt (CT.lay (CT.slab ct2 (Nat.mul n e.size) off2) off ct) [] false)) (dels olds H)) nx)
     | _, _, _ => none
    | _, _ => none
   | some _, .slice _ _ _ _ _, .nilSlice => some (.val (.int .i64 0) H nx)
   | some _, .nilSlice, .nilSlice => some (.val (.int .i64 0) H nx)
   | some _, .nilSlice, .slice _ _ _ _ _ => some (.val (.int .i64 0) H nx)
   | _, _, _ => none
  | _ => none
 | _, _ => none
theorem opCopy_ok {P : Program} {o : Oper} {c : Call} {ρ : Operand → AVal} {H : Heap} {nx : Nat} {r : ARes} (ho : o.op = .call c) (hc : c.callee = .builtin .copy) (h : opCopy P c.argTypes c.args ρ H nx = some r) : OpOK P o ρ H nx r := by
 unfold opCopy at h
 split at h <;> try (cases h; done)
 rename_i dT rT d s hT hA
 split at h <;> try (cases h; done)
 rename_i elem hu
 have eT : c.argTypes[0]? = some dT := by rw [← Array.getElem?_toList, hT]; rfl
 have eA : c.args = #[d, s] := by apply Array.ext'; rw [hA]
 have ex : ∀ (ρ' : Operand → Value) (w : World) (v : Value) (w' : World), (Builtin.copy_ c.argTypes o.type #[ρ' d, ρ' s]).run P w = .ok v w' → (execOp ρ' o).run P w = .ok (.value v) w' := by
  intro ρ' w v w' hrun
  simp [execOp, ho, resolve, hc, invoke, builtin, eA, hrun]
 split at h <;> try (cases h; done)
 ·rename_i e b off len esz full b2 off2 len2 esz2 full2 he hdv hsv
  split at h <;> try (cases h; done)
  rename_i cnt ct olds cnt2 ct2 olds2 s2 ho1 ho2
  rw [forceN_eq] at h
  split at h <;> try (cases h; done)
  rename_i h1 h2 h3
  cases h
  have h1' : off + minN len2 len * e.size ≤ cnt := Nat.le_of_ble_eq_true h1
  have h2' : off2 + minN len2 len * e.size ≤ cnt2 := Nat.le_of_ble_eq_true h2
  obtain ⟨m1, m2, m3, m4⟩ := minN_eq len2 len
  intro σ w ρ' hr hd
  have dd := hd d; rw [hdv] at dd
  have ds := hd s; rw [hsv] at ds
  have src : ∃ l', DenL σ (CT.slab ct2 (minN len2 len * e.size) off2) l' ∧ (Builtin.lenOf (ρ' s)).run P w = .ok len2 w ∧ (Builtin.firstCells e.size (minN len2 len) (ρ' s)).run P w = .ok ⟨l'⟩ w := by
   cases hq : ρ' s <;> rw [hq] at ds <;> cases ds
   ·rename_i cb sz cap hb q1 q2 q3
    obtain ⟨l', _, hl, _, hrun⟩ := load_slab hr ho2 hb P off2 (minN len2 len * e.size) h2'
    exact ⟨l', hl, rfl, hrun⟩
   ·rename_i off' cb sz hb
    have z : minN 0 len = 0 := by omega
    rw [z, Nat.zero_mul]
    exact ⟨[], .nil, rfl, by simp [Builtin.firstCells, loadCells, loadCellsFrom]⟩
  obtain ⟨l', hl, hlen, hfirst⟩ := src
  have hll : (CT.slab ct2 (minN len2 len * e.size) off2).length = minN len2 len * e.size := CT.slab_length _ _ _
  have hll' := hl.length
  have dst : ∃ base cap cb sz, σ b = some (cb, sz) ∧ ρ' d = .slice (some base) len cap ∧ (storeCells base l').run P w = .ok () (setCells w cb off l') := by
   cases hq : ρ' d <;> rw [hq] at dd <;> cases dd
   ·rename_i cap cb sz hb q1 q2 q3
    obtain ⟨o1, o2, o3, o4⟩ := hr.obj b _ cb sz ho1 hb
    refine ⟨at' cb off, cap, cb, sz, hb, rfl, ?_⟩
    exact run_storeCells (P := P) l' w cb off 0 (allCell_ok h3 hl) (fun k hk1 hk2 => o3 k (by omega))
   ·rename_i off' cb sz hb
    have z : minN len2 0 = 0 := by omega
    have hz : minN len2 0 * e.size = 0 := by rw [z, Nat.zero_mul]
    have hn : l' = [] := List.length_eq_zero_iff.1 (by omega)
    subst hn
    exact ⟨at' cb off', 0, cb, sz, hb, rfl, rfl⟩
  obtain ⟨base, cap, cb, sz, hb, hv, hst⟩ := dst
  obtain ⟨R, E⟩ := hr.store hb ho1 (by rw [hll]; omega) hl
  refine ⟨σ, _, _, R, E, .int .i64 (.ofNat (minN len2 len)), .inl (ex ρ' w _ _ ?_)⟩
  rw [m4] at hfirst
  simp only [Builtin.copy_, eT, hv, List.getElem?_toArray, List.getElem?_cons_zero, List.getElem?_cons_succ, Sem.run_bind, run_underlying' hu, Result.andThen_ok, hlen, run_sizeOf' he, hfirst, hst, Sem.run_pure, goInt, m4]
  rfl
 all_goals (
  cases h
  refine OpOK.pure fun σ w ρ' hr hd => ?_
  have dd := hd d
  have ds := hd s
  rename_i hdv hsv
  rw [hdv] at dd
  rw [hsv] at ds
  refine ⟨_, .int .i64 0, ex ρ' w _ _ ?_⟩
  cases hq : ρ' d <;> rw [hq] at dd <;> cases dd <;> cases hq2 : ρ' s <;> rw [hq2] at ds <;> cases ds <;>
  simp [Builtin.copy_, eT, run_underlying' hu, Builtin.lenOf, run_sizeOf' ‹_›, Builtin.firstCells, loadCells, loadCellsFrom, storeCells, goInt])
end
end Go.Vs
namespace Go.Vs
variable [GTab]
noncomputable section
def recvA (P : Program) (H : Heap) (t : TypeId) (v : AVal) (byPtr : Bool) : Option AVal :=
 match P.underlying t, byPtr with
 | some (.pointer _), true => some v
 | some (.pointer elem), false => aLoad P elem H v
 | some d, false => match d with
  | .pointer _ => none
  | _ => some v
 | _, _ => none
def methodA (P : Program) (t : TypeId) (name : String) : Option (FuncId × Bool) :=
 match P.info? t with
 | some i => match i.methods.find? (·.name == name) with
  | some m => match m.path.isEmpty, m.func with
   | true, some p => some p
   | _, _ => none
  | none => none
 | none => none
def opInvoke (P : Program) (r : Operand) (name : String) (args : Array Operand) (ρ : Operand → AVal) (H : Heap) (_nx : Nat) : Option ARes :=
 match ρ r with
 | .iface t v => match methodA P t name with
  | some (f, byPtr) => match hasBody P f, recvA P H t v byPtr with
   | true, some u => some (.call f (u :: args.toList.map ρ))
   | _, _ => none
  | none => none
 | _ => none
theorem recvA_ok {P : Program} {σ : Sg} {H : Heap} {nx : Nat} {w : World} {t : TypeId} {v u : AVal} {v' : Value} {byPtr : Bool} {name : String} (hr : Rel σ H nx w) (hv : Den σ v v') (h : recvA P H t v byPtr = some u) :
  ∃ u', Den σ u u' ∧ (receiverAt t (.val v') byPtr (some name)).run P w = .ok u' w := by
 unfold recvA at h
 split at h
 ·rename_i hu
  cases h
  exact ⟨v', hv, by simp [receiverAt, run_underlying' hu, Place.get]⟩
 ·rename_i elem hu
  obtain ⟨x', dx, hx⟩ := aLoad_ok (P := P) hr hv h
  refine ⟨x', dx, ?_⟩
  have isptr : ∃ ad, v' = .pointer (some ad) := by
   unfold aLoad at h
   split at h <;> try (cases h; done)
   all_goals
    cases hv
    exact ⟨_, rfl⟩
  obtain ⟨ad, rfl⟩ := isptr
  have hx' : (loadVar elem ad).run P w = .ok x' w := by simpa [Instr.loadAt, Instr.sureAddr] using hx
  have hck : (Builtin.ssaWrapNilChk_ #[t] t #[.pointer (some ad), strVal "", strVal name]).run P w = .ok (.pointer (some ad)) w := rfl
  have hgt : (Place.get t (.val (.pointer (some ad)))).run P w = .ok (.pointer (some ad)) w := rfl
  have had : (asAddr (.pointer (some ad))).run P w = .ok ad w := rfl
  simp only [receiverAt, Sem.run_bind, run_underlying' hu, Result.andThen_ok, hgt, hck, had, hx']
 ·rename_i d hne hu
  split at h <;> try (cases h; done)
  rename_i hd
  cases h
  refine ⟨v', hv, ?_⟩
  simp only [receiverAt, Sem.run_bind, run_underlying' hu, Result.andThen_ok]
  cases d <;> first | exact absurd rfl (hd _) | rfl
 ·cases h
theorem opInvoke_ok {P : Program} {o : Oper} {c : Call} {rcv : Operand} {name : String} {ρ : Operand → AVal} {H : Heap} {nx : Nat} {r : ARes} (ho : o.op = .call c) (hc : c.callee = .invoke rcv name)
  (h : opInvoke P rcv name c.args ρ H nx = some r) : OpOK P o ρ H nx r := by
 unfold opInvoke at h
 split at h <;> try (cases h; done)
 rename_i t v hx
 split at h <;> try (cases h; done)
 rename_i f byPtr hm
 split at h <;> try (cases h; done)
 rename_i u hb hu
 cases h
 unfold methodA at hm
 split at hm <;> try (cases hm; done)
 rename_i i hi
 split at hm <;> try (cases hm; done)
 rename_i m hf
 split at hm <;> try (cases hm; done)
 rename_i p hp hfun
 cases hm
 intro σ w ρ' hr hd
 have dx := hd rcv
 rw [hx] at dx
 cases e : ρ' rcv <;> rw [e] at dx <;> cases dx
 rename_i v' dv
 obtain ⟨u', du, hrun⟩ := recvA_ok (P := P) (name := (name.splitOn ".").getLastD name) hr dv hu
 refine ⟨u' :: c.args.toList.map ρ', .cons du (denL_map hd _), ?_⟩
 have hpath : m.path.toList = [] := by
  have : m.path = #[] := by simpa using hp
  rw [this]
 have hmeth : ∀ n, (method (n + 1) t v' name).run P w = .ok (f, u') w := by
  intro n
  unfold method
  simp only [Sem.run_bind, run_typeInfo' hi, Result.andThen_ok, hf, hpath, follow, Sem.run_pure, hfun, hp, if_true, hrun]
 have hfuel : ∃ n, P.types.size + Made.depth = n + 1 := ⟨P.types.size + Made.depth - 1, by
  have : 0 < Made.depth := by decide
  omega⟩
 obtain ⟨n, hn⟩ := hfuel
 have hcm : (callMethod (.iface t v') name (c.args.map ρ')).run P w = .ok (.enter f (#[u'] ++ c.args.map ρ')) w := by
  simp only [callMethod, Sem.run_bind, program, Sem.run, Result.andThen_ok, hn, hmeth, run_callFunc hb]
 have hex : ((#[Value.iface t v'] ++ c.args.map ρ').extract 1 (#[Value.iface t v'] ++ c.args.map ρ').size) = c.args.map ρ' := by
  apply Array.ext'
  simp
  rw [List.take_of_length_le (by simp)]
 simp only [execOp, ho, resolve, hc, e, Sem.run_bind, Sem.run_pure, Result.andThen_ok, invoke]
 have hg : (#[Value.iface t v'] ++ c.args.map ρ')[0]? = some (.iface t v') := by rw [Array.getElem?_append_left (by simp)]; rfl
 simp only [hg, hex, hcm]
 congr 2
 simp
end
end Go.Vs
end
section
namespace Go.Vs
variable [GTab]
noncomputable section
def opCall (P : Program) (c : Call) (ρ : Operand → AVal) (H : Heap) (nx : Nat) : Option ARes :=
 match c.callee with
 | .value f => opCallV P f c.args ρ H nx
 | .builtin .append => match c.argTypes.toList, c.args.toList with
  | [sT, xT], [s, x] => match P.underlying sT, P.underlying xT with
   | some (.slice elem), some d => match srcD d, P.info? elem with
    | true, some e => match aSrc e.size H (ρ x) with
     | some (_, l) => match allCell l with
      | true => aAppend P elem H nx (ρ s) (fun size => aSrc size H (ρ x))
      | false => none
     | none => none
    | false, some e => match isInt d, aZeros P elem e.size (ρ x) with
     | true, some (_, l) => match allCell l with
      | true => aAppend P elem H nx (ρ s) (fun size => aZeros P elem size (ρ x))
      | false => none
     | _, _ => none
    | _, _ => none
   | _, _ => none
  | _, _ => none
 | .builtin .copy => opCopy P c.argTypes c.args ρ H nx
 | .builtin b => opBuiltin0 P b c.argTypes c.args ρ H nx
 | .invoke r name => opInvoke P r name c.args ρ H nx
def opFail (_ρ : Operand → AVal) (_H : Heap) (_nx : Nat) : Option ARes := none
def opMadeOf (P : Program) (op : Op) (ρ : Operand → AVal) (H : Heap) (nx : Nat) : Option ARes :=
 match made P op ρ with
 | some m => opMade m H nx
 | none => none
def opDeferC (P : Program) (c : Call) (ρ : Operand → AVal) (H : Heap) (nx : Nat) : Option ARes :=
 match c.callee with
 | .value f => opDefer P f c.args ρ H nx
 | _ => none
def aop (P : Program) (o : Oper) : (Operand → AVal) → Heap → Nat → Option ARes :=
 match o.op with
 | .move x => opMove x
 | .assign x => opMove x
 | .pick c a b => opPick c a b
 | .load t a => opLoad P t a
 | .store t a x => opStore P t a x
 | .nilCheck x => opNilCheck x
 | .binOp op t x y _ => opBin P op t x y
 | .unOp op _ x => opUn op x
 | .convert s d x => opConv P s d x
 | .makeInterface t x => opMakeInterface P t x
 | .makeFunc fn a b => opMakeFunc fn a b
 | .slice t x lo hi mx => opSlice P t x lo hi mx
 | .fieldAddr s x f => opFieldAddr P s x f
 | .field t x f => opField P t x f
 | .indexAddr t x i => opIndexAddr P t x i
 | .index t x i => opIndex P t x i
 | .typeAssert x _ a ok => opAssert P x a ok
 | .extract t i => opExtract t i
 | .build t ps => opBuild P t ps
 | .alloc t => opMadeOf P (.alloc t)
 | .box t x => opMadeOf P (.box t x)
 | .buildSlice t n ps => opMadeOf P (.buildSlice t n ps)
 | .makeSlice t l c => opMadeOf P (.makeSlice t l c)
 | .call c => opCall P c
 | .defer c => opDeferC P c
 | .panic x => opPanic x
 | .lookup t x i ok => opLookup P t x i ok
 | .makeMap _ r => opMakeMap r
 | .mapUpdate t m k x => opMapUpdate P t m k x
 | .insert t m k x => opMapUpdate P t m k x
 | _ => opFail
abbrev Env := Nat → AVal
def get2 (t : Nat) (env : Env) : AVal := env t
def set2 (t : Nat) (v : AVal) (env : Env) : Env := fun s => Bool.rec (env s) v (Nat.beq s t)
def all2 (v : AVal) : Env := fun _ => v
theorem get2_all (n : Nat) (v : AVal) : get2 n (all2 v) = v := rfl
theorem get2_set2_same (n : Nat) (v : AVal) (t : Env) : get2 n (set2 n v t) = v := by
 show (Bool.rec (t n) v (Nat.beq n n) : AVal) = v
 rw [Nat.beq_refl]
theorem get2_set2_ne (n m : Nat) (v : AVal) (t : Env) (h : n % 4096 ≠ m % 4096) : get2 m (set2 n v t) = get2 m t := by
 show (Bool.rec (t m) v (Nat.beq m n) : AVal) = t m
 cases e : Nat.beq m n with
 | false => rfl
 | true => have := Nat.eq_of_beq_eq_true e; subst this; exact (h rfl).elim
def aev (env : Env) (x : Operand) : AVal :=
 Operand.rec (motive := fun _ => Env → AVal) (fun t env => Bool.rec .und (get2 t env) (Nat.ble t 4095)) (fun v _ => ofVal v) (fun g _ => .gptr g 0) (fun f _ => .func (.func f) [] []) x env
def put (d : Option Nat) (v : AVal) (env : Env) : Env := Option.rec (motive := fun _ => AVal → Env → Env) (fun _ env => env) (fun d v env => set2 d v env) d v env
def dstOK (nt : Nat) (d : Option Nat) : Bool := Option.rec (motive := fun _ => Bool) true (fun d => Nat.ble (Nat.succ d) nt) d
inductive AMode where
 | returning
 | panicking (l : List (AVal × Bool))
inductive AExit where
 | normal
 | exit (id : Nat)
 | ret
 | pan (l : List (AVal × Bool))
inductive AEnd where
 | ret (v : AVal)
 | pan (l : List (AVal × Bool))
abbrev Dfs := List (FuncId × List AVal)
abbrev Kont := AExit → Env → Heap → Nat → Dfs → Option AMode → Bool
abbrev KEnd := AEnd → Heap → Nat → Bool
abbrev CallK := FuncId → List AVal → Heap → Nat → KEnd → Bool
def wantedA (ops : Array Oper) (g : Option (Nat × Bool)) (env : Env) : Option Bool :=
 match g with
 | none => some true
 | some (j, want) => match (ops[j]?).bind (·.dst) with
  | some t => match Nat.ble t 4095 with
   | true => match get2 t env with
    | .bool b => some (Bool.rec (bnot want) want b)
    | .tuple [] => some false
    | _ => none
   | false => none
  | none => some false
def takeK (call : CallK) (d : Option Nat) (r : ARes) (env : Env) (H : Heap) (nx : Nat) (dfs : Dfs) (rc : Option AMode) (k : Env → Heap → Nat → Dfs → Option AMode → Bool) (K : Kont) : Bool :=
 match r with
 | .val v H' nx' => k (put d v env) H' nx' dfs rc
 | .call f args => call f args H nx fun e H' nx' => match e with
  | .ret v => k (put d v env) H' nx' dfs rc
  | .pan l => K (.pan l) env H' nx' dfs rc
 | .dfr f args => k (put d (.tuple []) env) H nx ((f, args) :: dfs) rc
 | .pan v => K (.pan [(v, false)]) env H nx dfs rc
 | .rcv => match rc with
  | some (.panicking ((v, false) :: older)) => k (put d v env) H nx dfs (some (.panicking ((v, true) :: older)))
  | some .returning => k (put d .nilIface env) H nx dfs rc
  | _ => false
 | .any _ => false
def cls : Op → Nat
 | .alloc _ | .box _ _ | .buildSlice _ _ _ | .makeSlice _ _ _ => 1
 | .store _ _ _ | .defer _ | .panic _ | .mapUpdate _ _ _ _ | .insert _ _ _ _ | .mapEntry _ _ _ | .entryStore _ _ _ _ | .next _ _ | .go _ | .send _ _ | .recv _ _ _ | .select _ _ | .ready _ | .range _ _ | .makeMap _ _ | .makeChan _ _ => 2
 | .call c => match c.callee with
  | .builtin .len | .builtin .max | .builtin .min => 0
  | _ => 2
 | _ => 0
def impure : Op → Bool
 | .load _ _ | .slice _ _ _ _ _ | .convert _ _ _ | .lookup _ _ _ _ => true
 | _ => false
def maskOf (as : List Nat) (es : List Edge) : Nat :=
 List.rec (motive := fun _ => Nat) 0 (fun e _ ih => Bool.rec ih (Nat.lor (Nat.lor (Nat.shiftLeft 1 e.on) (as.getD e.on 0)) ih) (Region.binds .any e)) es
def aheadL : List Oper → List Nat → List Nat
 | [], acc => acc
 | o :: l, acc => aheadL l (acc ++ [maskOf acc o.after.toList])
def ahead (ops : Array Oper) : List Nat := aheadL ops.toList []
def acts (l : List Oper) (i : Nat) : List Nat :=
 match l with
 | [] => []
 | o :: l => match Nat.beq (cls o.op) 2 with
  | true => i :: acts l (i + 1)
  | false => acts l (i + 1)
def bit (m j : Nat) : Bool := Nat.beq (Nat.mod (Nat.shiftRight m j) 2) 1
def level (m : Nat) (es : List Nat) : Nat := List.rec (motive := fun _ => Nat) 0 (fun e _ ih => Bool.rec ih (Nat.succ ih) (bit m e)) es
def floats (l : List Oper) (as : List Nat) (es : List Nat) (k i : Nat) : List Nat :=
 match l, as with
 | o :: l, m :: as => match Nat.beq (cls o.op) 2, Nat.beq (level m es) k with
  | false, true => i :: floats l as es k (i + 1)
  | _, _ => floats l as es k (i + 1)
 | _, _ => []
def again (l : List Oper) (as : List Nat) (es : List Nat) (k me i : Nat) : List Nat :=
 match l, as with
 | o :: l, m :: as => match impure o.op, Nat.ble (level m es) k, bit me i with
  | true, true, false => i :: again l as es k me (i + 1)
  | _, _, _ => again l as es k me (i + 1)
 | _, _ => []
def stages (l : List Oper) (as : List Nat) (all es : List Nat) (k : Nat) : List (Nat × List Nat × List Nat) :=
 match es with
 | [] => []
 | e :: es => (e, floats l as all k 0, again l as all k (as.getD e 0) 0) :: stages l as all es (k + 1)
def looks (ops : Array Oper) (o : Oper) : List Nat :=
 (o.op.operands.toList.filterMap fun | .tmp t => some t | _ => none) ++ (match o.guard with | some (g, _) => ((ops[g]?).bind (·.dst)).toList | none => [])
def owners (l : List Oper) (t i : Nat) : List Nat :=
 match l with
 | [] => []
 | o :: l => match o.dst with
  | some d => match Nat.beq d t with
   | true => i :: owners l t (i + 1)
   | false => owners l t (i + 1)
  | none => owners l t (i + 1)
def allL {α : Type} (p : α → Bool) (l : List α) : Bool := List.rec (motive := fun _ => Bool) true (fun x _ ih => Bool.rec false ih (p x)) l
def opOK (nt : Nat) (ops : Array Oper) (l : List Oper) (as : List Nat) (i : Nat) (o : Oper) : Bool :=
 match dstOK nt o.dst, Nat.beq (as.getD i 0) (maskOf as o.after.toList) with
 | true, true => match allL (fun e => Bool.rec true (Nat.ble (Nat.succ e.on) i) (Region.binds .any e)) o.after.toList, allL (fun t => allL (fun j => bit (as.getD i 0) j) (owners l t 0)) (looks ops o) with
  | true, true => match (match o.dst with | some t => allL (fun j => Nat.beq j i) (owners l t 0) | none => true) with
   | true => match o.guard with
    | some (g, _) => match (ops[g]?).bind (·.dst) with
     | some _ => true
     | none => false
    | none => true
   | _ => false
  | _, _ => false
 | _, _ => false
def opsOK (nt : Nat) (ops : Array Oper) (l : List Oper) (as : List Nat) : List Oper → Nat → Bool
 | [], _ => true
 | o :: r, i => match opOK nt ops l as i o with
  | true => opsOK nt ops l as r (i + 1)
  | false => false
def memN (i : Nat) (l : List Nat) : Bool := List.rec (motive := fun _ => Bool) false (fun j _ ih => Bool.rec ih true (Nat.beq j i)) l
def freshOf (ops : Array Oper) (past : List Nat) (i : Nat) (o : Oper) : Bool :=
 allL (fun p => match Nat.beq p i with
  | true => false
  | false => match o.dst, ops[p]? with
   | some d, some q => allL (fun t => bnot (Nat.beq t d)) (looks ops q)
   | none, some _ => true
   | _, none => false) past
def chkF (ops : Array Oper) : List Nat → List Nat → Option (List Nat)
 | [], past => some past
 | i :: l, past => match ops[i]? with
  | some o => match Nat.beq (cls o.op) 2, freshOf ops past i o with
   | false, true => chkF ops l (i :: past)
   | _, _ => none
  | none => none
def chkA (ops : Array Oper) (m : Nat) (A past : List Nat) : Bool :=
 allL (fun i => match ops[i]? with
  | some o => match impure o.op with
   | true => match memN i A with
    | true => true
    | false => bit m i
   | false => true
  | none => false) past
def chkS (ops : Array Oper) (as : List Nat) : List (Nat × List Nat × List Nat) → Option Nat → List Nat → Bool
 | [], _, _ => true
 | (e, F, A) :: rest, prev, past => match ops[e]?, (match prev with | some p => bit (as.getD e 0) p | none => true) with
  | some o, true => match freshOf ops past e o, allL (fun i => bit (as.getD i 0) e) F with
   | true, true => match chkF ops F past with
    | some past' => match chkA ops (as.getD e 0) A past' with
     | true => chkS ops as rest (some e) past'
     | false => false
    | none => false
   | _, _ => false
  | _, _ => false
def named (st : List (Nat × List Nat × List Nat)) : List Nat :=
 match st with
 | [] => []
 | (e, F, _) :: rest => e :: (F ++ named rest)
def plan0 (ops : Array Oper) : List Nat := floats ops.toList (ahead ops) (acts ops.toList 0) 0 0
def planA (ops : Array Oper) : List Nat := again ops.toList (ahead ops) (acts ops.toList 0) 0 0 0
def planS (ops : Array Oper) : List (Nat × List Nat × List Nat) := stages ops.toList (ahead ops) (acts ops.toList 0) (acts ops.toList 0) 1
def planOK (nt : Nat) (ops : Array Oper) : Bool :=
 match Nat.ble nt 4096, opsOK nt ops ops.toList (ahead ops) ops.toList 0, chkF ops (plan0 ops) [] with
 | true, true, some past => match chkA ops 0 (planA ops) past, chkS ops (ahead ops) (planS ops) none past, allL (fun i => memN i (plan0 ops ++ named (planS ops))) (List.range ops.size) with
  | true, true, true => true
  | _, _, _ => false
 | _, _, _ => false
def beqA : Nat → AVal → AVal → Bool
 | 0, _, _ => false
 | n + 1, a, b =>
  let beqL : List AVal → List AVal → Bool := fun l m => List.rec (motive := fun _ => List AVal → Bool) (fun m => List.rec (motive := fun _ => Bool) true (fun _ _ _ => false) m)
   (fun a _ ih m => List.rec (motive := fun _ => Bool) false (fun b t _ => Bool.rec false (ih t) (beqA n a b)) m) l m
  match a, b with
  | .und, .und => true
  | .bool x, .bool y => Bool.rec (bnot y) y x
  | .int k x, .int j y => match decide (k = j) with | true => ieq x y | false => false
  | .str x, .str y => x == y
  | .ptr x y, .ptr z w => match Nat.beq x z with | true => Nat.beq y w | false => false
  | .nilPtr, .nilPtr => true
  | .slice x y z u f, .slice x' y' z' u' f' => match Nat.beq x x', Nat.beq y y', Nat.beq z z', Nat.beq u u', (Bool.rec (bnot f') f' f : Bool) with
   | true, true, true, true, true => true
   | _, _, _, _, _ => false
  | .nilSlice, .nilSlice => true
  | .map x, .map y => Nat.beq x y
  | .nilMap, .nilMap => true
  | .func (.func f) l m, .func (.func g) l' m' => match Nat.beq f g, beqL l l' with | true, true => beqL m m' | _, _ => false
  | .nilFunc, .nilFunc => true
  | .iface t v, .iface u w => match Nat.beq t u with | true => beqA n v w | false => false
  | .nilIface, .nilIface => true
  | .agg l, .agg m => beqL l m
  | .tuple l, .tuple m => beqL l m
  | .gptr x y, .gptr z w => match Nat.beq x z with | true => Nat.beq y w | false => false
  | _, _ => false
def floatK (P : Program) (ops : Array Oper) (res : Nat) (o : Oper) (i : Nat) (env : Env) (H : Heap) (nx : Nat) (k : Env → Heap → Bool) : Bool :=
 match wantedA ops o.guard env with
 | some true => match Nat.beq (cls o.op) 1 with
  | true => match made P o.op (aev env) with
   | some m => match Nat.ble m.n 9223372036854775807 with
    | true => forceN (Nat.add res i) fun b => k (put o.dst (m.v b) env) (set5 b (some (.cells m.n (CT.ofL m.n m.l) [] false)) H)
    | false => false
   | none => false
  | false => match aop P o (aev env) H nx with
   | some (.val v _ _) => k (put o.dst v env) H
   | _ => false
 | some false => k (put o.dst (.tuple []) env) H
 | none => false
def floatsK (P : Program) (ops : Array Oper) (res : Nat) (nx : Nat) (k : Env → Heap → Bool) (l : List Nat) : Env → Heap → Bool :=
 List.rec (motive := fun _ => Env → Heap → Bool) k (fun i _ ih env H => match ops[i]? with
  | some o => floatK P ops res o i env H nx ih
  | none => false) l
def again1 (P : Program) (ops : Array Oper) (env : Env) (H : Heap) (nx : Nat) (o : Oper) : Bool :=
 match wantedA ops o.guard env with
 | some true => match aop P o (aev env) H nx with
  | some (.val v _ _) => match o.dst with
   | some d => @decide (v = get2 d env) (Classical.propDecidable _)
   | none => true
  | _ => false
 | some false => match o.dst with
  | some d => match get2 d env with
   | .tuple [] => true
   | _ => false
  | none => true
 | none => false
def againK (P : Program) (ops : Array Oper) (env : Env) (H : Heap) (nx : Nat) (l : List Nat) : Bool :=
 allL (fun i => match ops[i]? with
  | some o => again1 P ops env H nx o
  | none => false) l
def actK (P : Program) (call : CallK) (ops : Array Oper) (o : Oper) (env : Env) (H : Heap) (nx : Nat) (dfs : Dfs) (rc : Option AMode) (k : Env → Heap → Nat → Bool) (K : Kont) (env0 : Env) : Bool :=
 match wantedA ops o.guard env with
 | some true => match aop P o (aev env) H nx with
  | some (.val v H' nx') => k (put o.dst v env) H' nx'
  | some (.call f args) => call f args H nx fun e H' nx' => match e with
   | .ret v => k (put o.dst v env) H' nx'
   | .pan l => K (.pan l) env0 H' nx' dfs rc
  | some (.pan v) => K (.pan [(v, false)]) env0 H nx dfs rc
  | _ => false
 | some false => k (put o.dst (.tuple []) env) H nx
 | none => false
def blank (l : List Oper) (env : Env) : Env := List.rec (motive := fun _ => Env → Env) (fun env => env) (fun o _ ih env => ih (put o.dst .und env)) l env
def enterEnv (args : List AVal) : Nat → Env → Env := List.rec (motive := fun _ => Nat → Env → Env) (fun _ env => env) (fun v _ ih i env => ih (Nat.succ i) (set2 i v env)) args
def resultsA (P : Program) (env : Env) (H : Heap) : List ResultVar → Option (List AVal)
 | [] => some []
 | .tmp t :: l => match Nat.ble t 4095, resultsA P env H l with
  | true, some vs => some (get2 t env :: vs)
  | _, _ => none
 | .cell a t :: l => match Nat.ble a 4095, resultsA P env H l with
  | true, some vs => match aLoad P t H (get2 a env) with
   | some v => some (v :: vs)
   | none => none
  | _, _ => none
def oneOf (vs : List AVal) : AVal := match vs with
 | [v] => v
 | vs => .tuple vs
def settleA : AMode → AMode
 | .panicking ((_, true) :: _) => .returning
 | m => m
def raisedA (m : AMode) (l : List (AVal × Bool)) : AMode := match m with
 | .panicking old => .panicking (l ++ old)
 | .returning => .panicking l
end
end Go.Vs
end
section
namespace Go.Vs
variable [GTab]
set_option maxHeartbeats 2000000 in
theorem opCall_ok {P : Program} {o : Oper} {c : Call} {ρ : Operand → AVal} {H : Heap} {nx : Nat} {r : ARes} (ho : o.op = .call c) (h : opCall P c ρ H nx = some r) : OpOK P o ρ H nx r := by
 unfold opCall at h
 split at h <;> try (cases h; done)
 ·exact opCallV_ok ho ‹_› h
 ·rename_i hc
  split at h <;> try (cases h; done)
  rename_i sT xT s x hT hA
  split at h <;> try (cases h; done)
  rename_i elem d hu hx
  split at h <;> try (cases h; done)
  ·rename_i e hd he
   split at h <;> try (cases h; done)
   rename_i n l hsrc
   split at h <;> try (cases h; done)
   rename_i hall
   have e1 : c.argTypes = #[sT, xT] := by apply Array.ext'; rw [hT]
   have e2 : c.args = #[s, x] := by apply Array.ext'; rw [hA]
   obtain ⟨v, H', nx', rfl⟩ := aAppend_val h
   intro σ w ρ' hr hdn
   obtain ⟨σ', w', v', R, E, D, hrun⟩ := aAppend_ok (P := P) (u := o.type) hr (hdn s) (sT := sT) (xT := xT) (x' := ρ' x) (fun n' l' e' z' he' hz' _ hs' => by
    rw [he] at he'; cases he'
    obtain ⟨hll, l1, hl1, hlen, hfc⟩ := aSrc_ok (P := P) hr (hdn x) hs'
    obtain ⟨_, l2, hl2, _, hfc2⟩ := aSrc_ok (P := P) hr.drew (hdn x) hs'
    have hq : l' = l := by rw [hsrc] at hs'; cases hs'; rfl
    exact ⟨hll, by rw [hq]; exact hall, ⟨l1, hl1, room_src hu hx hd he hlen hfc⟩, l2, hl2, grow_src hu hx hd he hz' hlen hfc2⟩) h
   refine ⟨σ', w', v', R, E, D, .inl ?_⟩
   simp [execOp, ho, resolve, hc, invoke, builtin, e1, e2, hrun]
  ·rename_i e hd he
   split at h <;> try (cases h; done)
   rename_i n l hi hsrc
   split at h <;> try (cases h; done)
   rename_i hall
   have e1 : c.argTypes = #[sT, xT] := by apply Array.ext'; rw [hT]
   have e2 : c.args = #[s, x] := by apply Array.ext'; rw [hA]
   obtain ⟨k, rfl⟩ : ∃ k, d = .int k := by cases d <;> first | exact ⟨_, rfl⟩ | cases hi
   obtain ⟨v, H', nx', rfl⟩ := aAppend_val h
   intro σ w ρ' hr hdn
   obtain ⟨σ', w', v', R, E, D, hrun⟩ := aAppend_ok (P := P) (u := o.type) hr (hdn s) (sT := sT) (xT := xT) (x' := ρ' x) (fun n' l' e' z' he' hz' hzs' hs' => by
    rw [he] at he'; cases he'
    have hq : l' = l := by rw [hsrc] at hs'; cases hs'; rfl
    obtain ⟨m, hm, rfl, hle, hden, hll⟩ := aZeros_ok (σ := σ) he hz' hs'
    have hdx := hdn x
    rw [hm] at hdx
    have ex : ∀ y, Den σ (.int .i64 (.ofNat m)) y → y = .int .i64 (m : Int) := fun y hy => by cases hy; rfl
    rw [ex _ hdx]
    exact ⟨hll, by rw [hq]; exact hall, ⟨_, hden, room_zeros hu hx he hz' hzs' hle⟩, _, hden, grow_zeros hu hx he hz' hzs' hle⟩) h
   refine ⟨σ', w', v', R, E, D, .inl ?_⟩
   simp [execOp, ho, resolve, hc, invoke, builtin, e1, e2, hrun]
 ·exact opCopy_ok ho ‹_› h
 ·exact opBuiltin0_ok ho ‹_› h
 ·exact opInvoke_ok ho ‹_› h
theorem opMadeOf_ok {P : Program} {o : Oper} {ρ : Operand → AVal} {H : Heap} {nx : Nat} {r : ARes} (h : opMadeOf P o.op ρ H nx = some r) : OpOK P o ρ H nx r := by
 unfold opMadeOf at h
 split at h <;> try (cases h; done)
 exact opMade_ok (made_ok ‹_›) h
theorem aop_ok {P : Program} {o : Oper} {ρ : Operand → AVal} {H : Heap} {nx : Nat} {r : ARes} (h : aop P o ρ H nx = some r) : OpOK P o ρ H nx r := by
 unfold aop at h
 cases hop : o.op <;> rw [hop] at h
 case move => exact opMove_ok (.inl hop) h
 case assign => exact opMove_ok (.inr hop) h
 case pick => exact opPick_ok hop h
 case load => exact opLoad_ok hop h
 case store => exact opStore_ok hop h
 case nilCheck => exact opNilCheck_ok hop h
 case binOp => exact opBin_ok hop h
 case unOp => exact opUn_ok hop h
 case convert => exact opConv_ok hop h
 case makeInterface => exact opMakeInterface_ok hop h
 case makeFunc => exact opMakeFunc_ok hop h
 case slice => exact opSlice_ok hop h
 case fieldAddr => exact opFieldAddr_ok hop h
 case field => exact opField_ok hop h
 case indexAddr => exact opIndexAddr_ok hop h
 case index => exact opIndex_ok hop h
 case typeAssert => exact opAssert_ok hop h
 case extract => exact opExtract_ok hop h
 case build => exact opBuild_ok hop h
 case alloc => exact opMadeOf_ok (by rw [hop]; exact h)
 case box => exact opMadeOf_ok (by rw [hop]; exact h)
 case buildSlice => exact opMadeOf_ok (by rw [hop]; exact h)
 case makeSlice => exact opMadeOf_ok (by rw [hop]; exact h)
 case call => exact opCall_ok hop h
 case defer c =>
  have h' : opDeferC P c ρ H nx = some r := h
  unfold opDeferC at h'
  split at h' <;> first | (cases h'; done) | skip
  exact opDefer_ok hop ‹_› h'
 case panic => exact opPanic_ok hop h
 case lookup => exact opLookup_ok hop h
 case makeMap => exact opMakeMap_ok hop h
 case mapUpdate => exact opMapUpdate_ok (.inl hop) h
 case insert => exact opMapUpdate_ok (.inr hop) h
 all_goals (have h' : opFail ρ H nx = some r := h; cases h')
structure EnvRel (σ : Sg) (nt : Nat) (env : Env) (tmps : Array Value) : Prop where
 size : tmps.size = nt
 le : nt ≤ 4096
 den : ∀ t, t < 4096 → Den σ (get2 t env) (tmps.getD t undef)
theorem EnvRel.mono {σ σ' : Sg} {nt : Nat} {env : Env} {tmps : Array Value} (hs : ∀ b p, σ b = some p → σ' b = some p) (h : EnvRel σ nt env tmps) : EnvRel σ' nt env tmps :=
 ⟨h.size, h.le, fun t ht => (h.den t ht).mono hs⟩
theorem EnvRel.aev {σ : Sg} {nt : Nat} {env : Env} {a : Act} (h : EnvRel σ nt env a.tmps) (x : Operand) : Den σ (aev env x) (a.eval x) := by
 cases x with
 | tmp t =>
  show Den σ (Bool.rec .und (get2 t env) (Nat.ble t 4095)) (a.tmps.getD t undef)
  cases hb : Nat.ble t 4095 with
  | false => exact .und _
  | true => exact h.den t (by have := Nat.le_of_ble_eq_true hb; omega)
 | const v => exact den_ofVal σ v
 | global g => exact .gptr g 0
 | func f => exact .func .nil .nil
theorem get2_put {d : Nat} {v : AVal} {env : Env} {t : Nat} (hd : d < 4096) (ht : t < 4096) : get2 t (set2 d v env) = if d = t then v else get2 t env := by
 by_cases h : d = t
 ·subst h; rw [if_pos rfl, get2_set2_same]
 ·rw [if_neg h, get2_set2_ne]
  rw [Nat.mod_eq_of_lt hd, Nat.mod_eq_of_lt ht]; exact h
theorem getD_put (tmps : Array Value) (d t : Nat) (v : Value) (h : d < tmps.size) : (tmps.setIfInBounds d v).getD t undef = if d = t then v else tmps.getD t undef := by
 by_cases e : d = t
 ·subst e; rw [if_pos rfl]; simp [h]
 ·rw [if_neg e]; simp [Array.getElem?_setIfInBounds_ne e]
theorem EnvRel.put {σ : Sg} {nt : Nat} {env : Env} {a : Act} {d : Option Nat} {v : AVal} {v' : Value} (h : EnvRel σ nt env a.tmps) (hd : dstOK nt d = true) (hv : Den σ v v') : EnvRel σ nt (put d v env) (a.put d v').tmps := by
 cases d with
 | none => exact h
 | some d =>
  have hlt : d < nt := Nat.le_of_ble_eq_true hd
  have hle := h.le
  have hsz := h.size
  refine ⟨?_, h.le, fun t ht => ?_⟩
  ·show (a.tmps.setIfInBounds d v').size = nt
   rw [Array.size_setIfInBounds]; exact h.size
  ·show Den σ (get2 t (set2 d v env)) ((a.tmps.setIfInBounds d v').getD t undef)
   rw [get2_put (by omega) ht, getD_put _ _ _ _ (by omega)]
   by_cases e : d = t
   ·rw [if_pos e, if_pos e]; exact hv
   ·rw [if_neg e, if_neg e]; exact h.den t ht
inductive DfsRel (σ : Sg) : Dfs → List Deferred → Prop
 | nil : DfsRel σ [] []
 | cons {f : FuncId} {args : List AVal} {d : Deferred} {l : Dfs} {l' : List Deferred} (h : DDen σ f args d) (t : DfsRel σ l l') : DfsRel σ ((f, args) :: l) (d :: l')
theorem DDen.mono {σ σ' : Sg} {f : FuncId} {args : List AVal} {d : Deferred} (hs : ∀ b p, σ b = some p → σ' b = some p) (h : DDen σ f args d) : DDen σ' f args d := by
 obtain ⟨cap, h1, h2⟩ := h
 exact ⟨cap, h1, h2.mono hs⟩
theorem DfsRel.mono {σ σ' : Sg} (hs : ∀ b p, σ b = some p → σ' b = some p) : ∀ {l : Dfs} {l' : List Deferred}, DfsRel σ l l' → DfsRel σ' l l'
 | _, _, .nil => .nil
 | _, _, .cons h t => .cons (h.mono hs) (DfsRel.mono hs t)
structure ARel (σ : Sg) (nt : Nat) (env : Env) (dfs : Dfs) (a : Act) : Prop where
 env : EnvRel σ nt env a.tmps
 dfs : DfsRel σ dfs a.defers
theorem ARel.mono {σ σ' : Sg} {nt : Nat} {env : Env} {dfs : Dfs} {a : Act} (hs : ∀ b p, σ b = some p → σ' b = some p) (h : ARel σ nt env dfs a) : ARel σ' nt env dfs a := ⟨h.env.mono hs, h.dfs.mono hs⟩
theorem ARel.put {σ : Sg} {nt : Nat} {env : Env} {dfs : Dfs} {a : Act} {d : Option Nat} {v : AVal} {v' : Value} (h : ARel σ nt env dfs a) (hd : dstOK nt d = true) (hv : Den σ v v') : ARel σ nt (put d v env) dfs (a.put d v') :=
 ⟨h.env.put hd hv, by cases d <;> exact h.dfs⟩
inductive Chain (σ : Sg) : List (AVal × Bool) → List PanicEntry → Prop
 | nil : Chain σ [] []
 | cons {v : AVal} {r : Bool} {p : PanicEntry} {l : List (AVal × Bool)} {l' : List PanicEntry} (hv : Den σ v p.v) (hr : p.recovered = r) (hg : p.goexit = false) (t : Chain σ l l') : Chain σ ((v, r) :: l) (p :: l')
theorem Chain.append {σ : Sg} : ∀ {l : List (AVal × Bool)} {l' : List PanicEntry} {m : List (AVal × Bool)} {m' : List PanicEntry}, Chain σ l l' → Chain σ m m' → Chain σ (l ++ m) (l' ++ m')
 | _, _, _, _, .nil, h => h
 | _, _, _, _, .cons hv hr hg t, h => .cons hv hr hg (Chain.append t h)
def ExRel (σ : Sg) : AExit → Exit → Prop
 | .normal, .normal => True
 | .exit i, .exit j => i = j
 | .ret, .ret => True
 | .pan l, .panic c => Chain σ l c
 | _, _ => False
def EndRel (σ : Sg) : AEnd → Ending → Prop
 | .ret v, .returned v' => Den σ v v'
 | .pan l, .panicked c => Chain σ l c
 | _, _ => False
def MRel (σ : Sg) : AMode → FrameMode → Prop
 | .returning, .returning => True
 | .panicking l, .panicking c => Chain σ l c
 | _, _ => False
theorem wanted_ok {σ : Sg} {nt : Nat} {env : Env} {a : Act} {ops : Array Oper} {o : Oper} {b : Bool} (h : wantedA ops o.guard env = some b) (he : EnvRel σ nt env a.tmps) : Region.wanted o (yielded ops a.tmps) = b := by
 unfold wantedA at h
 unfold Region.wanted
 split at h
 ·rename_i hg; cases h; rw [hg]
 ·rename_i j want hg
  rw [hg]
  split at h
  ·rename_i t ht
   split at h <;> try (cases h; done)
   rename_i hle
   have hlt : t < 4096 := Nat.lt_of_le_of_lt (Nat.le_of_ble_eq_true hle) (by decide)
   have hd := he.den t hlt
   have hy : yielded ops a.tmps j = match a.tmps[t]? with | some (.bool b) => some b | _ => none := by
    unfold yielded; rw [ht]; rfl
   split at h <;> try (cases h; done)
   ·rename_i x hx
    cases h
    rw [hx] at hd
    have hg2 : a.tmps[t]? = some (.bool x) := by
     cases hq : a.tmps[t]? with
     | none => simp [hq] at hd; cases hd
     | some v => simp [hq] at hd; cases hd; rfl
    simp only [hy, hg2]
    cases x <;> cases want <;> rfl
   ·rename_i hx
    cases h
    rw [hx] at hd
    have hn : yielded ops a.tmps j = none := by
     rw [hy]
     cases hq : a.tmps[t]? with
     | none => rfl
     | some v =>
      simp [hq] at hd
      cases hd
      rfl
    simp [hn]
  ·rename_i ht
   cases h
   have hn : yielded ops a.tmps j = none := by unfold yielded; rw [ht]; rfl
   simp [hn]
def NotRec (P : Program) (o : Oper) (a : Act) (w : World) : Prop := ∀ w', (execOp a.eval o).run P w ≠ .ok .recover w'
theorem opK_skip {P : Program} {ops : Array Oper} {Q : Exit → Act → World → Prop} {o : Oper} {l : List Oper} {a : Act} {w : World} (h : Region.wanted o (yielded ops a.tmps) = false) (hn : wpList P ops Q l (a.put o.dst undef) w) :
  wpList P ops Q (o :: l) a w := by
 unfold wpList
 rw [if_neg (by rw [h]; simp)]
 exact hn
end Go.Vs
end
section
namespace Go.Vs
variable [GTab]
theorem aFill_congr {place : Nat → Option (Nat × Nat)} {ρ ρ2 : Operand → AVal} : ∀ (l : List (Nat × Operand)) (cells : List AVal), (∀ x, x ∈ l.map (·.2) → ρ x = ρ2 x) → aFill place ρ cells l = aFill place ρ2 cells l
 | [], _, _ => rfl
 | (i, x) :: rest, cells, h => by
  have h1 : ρ x = ρ2 x := h x (by simp)
  have h2 := fun c => aFill_congr (place := place) rest c (fun y hy => h y (by simp at hy ⊢; exact .inr hy))
  simp only [aFill, h1, h2]
theorem map_congr {ρ ρ2 : Operand → AVal} {l : List Operand} (h : ∀ x, x ∈ l → ρ x = ρ2 x) : l.map ρ = l.map ρ2 := List.map_congr_left h
theorem bnd_congr {ρ ρ2 : Operand → AVal} {d : Nat} {x : Option Operand} (h : ∀ y, x = some y → ρ y = ρ2 y) : bnd d x ρ = bnd d x ρ2 := by
 cases x with
 | none => rfl
 | some y => unfold bnd; simp only [h y rfl]
theorem made_congr {P : Program} {op : Op} {ρ ρ2 : Operand → AVal} (h : ∀ x ∈ op.operands, ρ x = ρ2 x) : made P op ρ = made P op ρ2 := by
 unfold made
 cases op <;> simp only [Op.operands] at h <;> simp only []
 case box t x => unfold madeBox; rw [h x (by simp)]
 case buildSlice t n ps =>
  unfold madeSliceLit
  have := fun pl c => aFill_congr (place := pl) (ρ := ρ) (ρ2 := ρ2) ps.toList c (fun x hx => h x (by simpa using hx))
  simp only [this]
 case makeSlice t l c => unfold madeMake; rw [h l (by simp), h c (by simp)]
theorem opCall_congr {P : Program} {c : Call} {ρ ρ2 : Operand → AVal} {H : Heap} {nx : Nat} (h : ∀ x ∈ c.operands, ρ x = ρ2 x) : opCall P c ρ H nx = opCall P c ρ2 H nx := by
 have hargs : ∀ x, x ∈ c.args.toList → ρ x = ρ2 x := fun x hx => h x (by simp [Call.operands]; simp at hx; simp [hx])
 unfold opCall
 cases hc : c.callee with
 | value f =>
  simp only [opCallV]
  rw [h f (by simp [Call.operands, hc]), map_congr hargs]
 | invoke r m =>
  simp only [opInvoke]
  rw [h r (by simp [Call.operands, hc]), map_congr hargs]
 | builtin b =>
  have hb : opBuiltin0 P b c.argTypes c.args ρ H nx = opBuiltin0 P b c.argTypes c.args ρ2 H nx := by
   unfold opBuiltin0
   split
   ·rename_i hA; rw [hargs _ (by rw [hA]; simp)]
   ·rename_i x l hA; rw [hargs x (by rw [hA]; simp), map_congr (l := l) fun y hy => hargs y (by rw [hA]; simp [hy])]
   ·rename_i x l hA; rw [hargs x (by rw [hA]; simp), map_congr (l := l) fun y hy => hargs y (by rw [hA]; simp [hy])]
   ·rfl
   ·rfl
  cases b <;> simp only [] <;> first | exact hb | skip
  case copy =>
   unfold opCopy
   cases hT : c.argTypes.toList with
   | nil => rfl
   | cons dT tl =>
    cases hA : c.args.toList with
    | nil => rfl
    | cons d al =>
     cases al with
     | nil => rfl
     | cons s al =>
      cases al with
      | cons _ _ => rfl
      | nil =>
       rw [hA] at hargs
       simp only [hargs d (by simp), hargs s (by simp)]
  cases hT : c.argTypes.toList with
  | nil => rfl
  | cons sT tl =>
   cases tl with
   | nil => rfl
   | cons xT tl =>
    cases tl with
    | cons _ _ => rfl
    | nil =>
     cases hA : c.args.toList with
     | nil => rfl
     | cons s al =>
      cases al with
      | nil => rfl
      | cons x al =>
       cases al with
       | cons _ _ => rfl
       | nil =>
        rw [hA] at hargs
        simp only [hargs s (by simp), hargs x (by simp)]
theorem aop_congr {P : Program} {o : Oper} {ρ ρ2 : Operand → AVal} {H : Heap} {nx : Nat} (h : ∀ x ∈ o.op.operands, ρ x = ρ2 x) : aop P o ρ H nx = aop P o ρ2 H nx := by
 have hm : opMadeOf P o.op ρ H nx = opMadeOf P o.op ρ2 H nx := by unfold opMadeOf; rw [made_congr h]
 unfold aop
 cases hop : o.op <;> rw [hop] at h hm <;> simp only [Op.operands] at h <;> simp only []
 case move x => unfold opMove; rw [h x (by simp)]
 case assign x => unfold opMove; rw [h x (by simp)]
 case pick c a b => unfold opPick; rw [h c (by simp), h a (by simp), h b (by simp)]
 case load t a => unfold opLoad; rw [h a (by simp)]
 case store t a x => unfold opStore; rw [h a (by simp), h x (by simp)]
 case nilCheck x => unfold opNilCheck; rw [h x (by simp)]
 case binOp op t x y _ => unfold opBin; rw [h x (by simp), h y (by simp)]
 case unOp op t x => unfold opUn; rw [h x (by simp)]
 case convert s d x => unfold opConv; rw [h x (by simp)]
 case makeInterface t x => unfold opMakeInterface; rw [h x (by simp)]
 case makeFunc fn a b => unfold opMakeFunc; rw [map_congr (l := a.toList) (fun x hx => h x (by simp at hx; simp [hx])), map_congr (l := b.toList) (fun x hx => h x (by simp at hx; simp [hx]))]
 case slice t x lo hi mx =>
  unfold opSlice
  have h1 := fun d => bnd_congr (d := d) (x := lo) (ρ := ρ) (ρ2 := ρ2) (fun y e => h y (by subst e; simp))
  have h2 := fun d => bnd_congr (d := d) (x := hi) (ρ := ρ) (ρ2 := ρ2) (fun y e => h y (by subst e; simp))
  simp only [h x (by simp), h1, h2]
 case fieldAddr s x f => unfold opFieldAddr; rw [h x (by simp)]
 case field s x f => unfold opField; rw [h x (by simp)]
 case indexAddr t x i => unfold opIndexAddr; rw [h x (by simp), h i (by simp)]
 case index t x i => unfold opIndex; rw [h x (by simp), h i (by simp)]
 case typeAssert x _ a ok => unfold opAssert; rw [h x (by simp)]
 case extract t i => unfold opExtract; rw [h t (by simp)]
 case build t ps =>
  unfold opBuild aBuild
  have := fun pl c => aFill_congr (place := pl) (ρ := ρ) (ρ2 := ρ2) ps.toList c (fun x hx => h x (by simpa using hx))
  simp only [this]
 case alloc t => exact hm
 case box t x => exact hm
 case buildSlice t n ps => exact hm
 case makeSlice t l c => exact hm
 case call c => exact opCall_congr h
 case defer c =>
  unfold opDeferC
  have hargs : ∀ x, x ∈ c.args.toList → ρ x = ρ2 x := fun x hx => h x (by simp [Call.operands]; simp at hx; simp [hx])
  cases hc : c.callee with
  | value f => simp only [opDefer]; rw [h f (by simp [Call.operands, hc]), map_congr hargs]
  | invoke r m => rfl
  | builtin b => rfl
 case panic x => unfold opPanic; rw [h x (by simp)]
 case lookup t x i ok => unfold opLookup; rw [h x (by simp), h i (by simp)]
 case makeMap t r => rfl
 case mapUpdate t m k x => unfold opMapUpdate; rw [h m (by simp), h k (by simp), h x (by simp)]
 case insert t m k x => unfold opMapUpdate; rw [h m (by simp), h k (by simp), h x (by simp)]
 all_goals rfl
theorem cls0_heap {P : Program} {o : Oper} {ρ : Operand → AVal} {H H' : Heap} {nx nx' : Nat} {v : AVal} (hc : cls o.op = 0) (h : aop P o ρ H nx = some (.val v H' nx')) : H' = H ∧ nx' = nx := by
 unfold aop at h
 cases hop : o.op <;> rw [hop] at h hc <;> simp only [] at h <;> try (cases hc; done)
 case move => unfold opMove at h; cases h; exact ⟨rfl, rfl⟩
 case assign => unfold opMove at h; cases h; exact ⟨rfl, rfl⟩
 case call c =>
  simp only [cls] at hc
  unfold opCall at h
  cases hce : c.callee with
  | value f => rw [hce] at hc; cases hc
  | invoke r m => rw [hce] at hc; cases hc
  | builtin b =>
   rw [hce] at hc h
   cases b <;> simp only [] at hc h <;> try (cases hc; done)
   all_goals
    unfold opBuiltin0 at h
    split at h <;> try (cases h; done)
    all_goals (repeat' (split at h)) <;> first | (cases h; done) | (cases h; exact ⟨rfl, rfl⟩) | (rw [forceI_eq] at h; cases h; exact ⟨rfl, rfl⟩)
 all_goals first
  | (have h' : opFail ρ H nx = some (.val v H' nx') := h; cases h'; done)
  | (unfold opPick at h) | (unfold opLoad at h) | (unfold opNilCheck at h) | (unfold opBin at h) | (unfold opUn at h) | (unfold opConv at h) | (unfold opMakeInterface at h) | (unfold opMakeFunc at h) | (unfold opSlice at h)
  | (unfold opFieldAddr at h) | (unfold opField at h) | (unfold opIndexAddr at h) | (unfold opIndex at h) | (unfold opAssert at h) | (unfold opExtract at h) | (unfold opBuild at h) | (unfold opLookup at h)
 all_goals (repeat' (split at h)) <;> first | (cases h; done) | (cases h; exact ⟨rfl, rfl⟩) | (rw [forceN_eq] at h; cases h; exact ⟨rfl, rfl⟩) | (rw [forceI_eq] at h; cases h; exact ⟨rfl, rfl⟩) | (rw [forceN_eq, forceN_eq] at h; cases h; exact ⟨rfl, rfl⟩) | skip
noncomputable def beqL (n : Nat) (l m : List AVal) : Bool :=
 List.rec (motive := fun _ => List AVal → Bool) (fun m => List.rec (motive := fun _ => Bool) true (fun _ _ _ => false) m)
   (fun a _ ih m => List.rec (motive := fun _ => Bool) false (fun b t _ => Bool.rec false (ih t) (beqA n a b)) m) l m
end Go.Vs
end
