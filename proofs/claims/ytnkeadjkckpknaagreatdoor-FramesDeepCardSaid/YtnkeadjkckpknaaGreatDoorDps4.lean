/-
  Own work. Texts of a proof,laid together; no condition.
-/
import Derived.LoopN
import Derived.Lib.Bytealg
import Derived.Lib.ItoaMem
import Derived.Test.YtnkeadjkckpknaaGreatDoorDps3
import Derived.Test.YtnkeadjkckpknaaGreatDoorDps2
set_option linter.unusedSectionVars false
set_option linter.unusedVariables false
set_option linter.unusedSimpArgs false
set_option maxRecDepth 1000000
section
namespace Go.Vs
open Go.Ev (aggD qb zu ilt zH kJ zY zE kx vU zF vt srcD VF minN vQ)
variable [GTab] {P : Program} {H : Heap} {nx : Nat}
noncomputable section
inductive Sh where
 | bool
 | int (k : IntKind)
 | str
 | any
def shOf : TypeDesc → Sh
 | .bool => .bool
 | .int k => .int k
 | .string => .str
 | _ => .any
def shs (P : Program) : Nat → TypeId → Option (List Sh)
 | 0,_ => none
 | n + 1,t => match P.underlying t with
  | some (.struct fs) => fs.toList.foldr (fun f acc => match shs P n f.type,acc with
   | some a,some b => some (a ++ b)
   | _,_ => none) (some [])
  | some (.array len e) => match Nat.ble len 64,shs P n e with
   | true,some l => some (List.replicate len l).flatten
   | _,_ => none
  | some d => some [shOf d]
  | none => none
def exSh (s : Sh) (k : AVal → Prop) : Prop := match s with
 | .bool => ∃ b,k (.bool b)
 | .int kd => ∃ n,k (.int kd n)
 | .str => ∃ s,k (.str s)
 | .any => ∃ v,k v
def Yv : List Sh → (List AVal → Prop) → Prop
 | [],k => k []
 | s :: l,k => exSh s fun v => Yv l fun vs => k (v :: vs)
theorem WF {s : Sh} {k : AVal → Prop} (h : exSh s k) : ∃ v,k v := by
 cases s <;> (obtain ⟨x,h⟩ := h; exact ⟨_,h⟩)
theorem Vg : ∀ {l : List Sh} {k : List AVal → Prop},Yv l k → ∃ vs,k vs
 | [],_,h => ⟨_,h⟩
 | _ :: _,_,h => let ⟨_,h⟩ := WF h; let ⟨_,h⟩ := Vg h; ⟨_,h⟩
def Jm (P : Program) (t : TypeId) (k : AVal → Prop) : Prop :=
 match P.underlying t with
 | some d => match aggD d with
  | true => match shs P 9 t with
   | some l => Yv l fun cs => k (.agg cs)
   | none => ∃ v,k v
  | false => exSh (shOf d) k
 | none => ∃ v,k v
theorem yB {t : TypeId} {k : AVal → Prop} (h : Jm P t k) : ∃ v,k v := by
 unfold Jm at h
 split at h
 ·split at h
  ·split at h
   ·exact let ⟨_,h⟩ := Vg h; ⟨_,h⟩
   ·exact h
  ·exact WF h
 ·exact h
def qbt (P : Program) : List TypeId → (List AVal → Prop) → Prop
 | [],k => k []
 | t :: l,k => Jm P t fun v => qbt P l fun vs => k (v :: vs)
theorem VB : ∀ {l : List TypeId} {k : List AVal → Prop},qbt P l k → ∃ vs,k vs
 | [],_,h => ⟨_,h⟩
 | _ :: _,_,h => let ⟨_,h⟩ := yB h; let ⟨_,h⟩ := VB h; ⟨_,h⟩
def Z4 (P : Program) (t : TypeId) (v : AVal) (k : AVal → Prop) : Prop :=
 match P.underlying t with
 | some (.tuple ts) => match ts.toList with
  | [] => k v
  | ts => qbt P ts fun vs => v = .tuple vs ∧ k (.tuple vs)
 | some d => match aggD d,shOf d with
  | false,.any => k v
  | _,_ => Jm P t fun v' => v = v' ∧ k v'
 | none => k v
theorem Q7 {t : TypeId} {v : AVal} {k : AVal → Prop} (h : Z4 P t v k) : k v := by
 unfold Z4 at h
 split at h
 ·split at h
  ·exact h
  ·obtain ⟨vs,e,h2⟩ := VB h; rw [e]; exact h2
 ·split at h
  ·exact h
  ·obtain ⟨v',e,h2⟩ := yB h; rw [e]; exact h2
 ·exact h
def ld1 (H : Heap) (a : AVal) : Option AVal :=
 match a with
 | .ptr b off => match get5 b H with
  | some (.cells n ct _ _) => match Nat.ble (Nat.succ off) n with
   | true => some (CT.get off ct)
   | false => none
  | _ => none
 | .gptr g off => match GTab.tab g with
  | some l => l[off]?
  | none => none
 | _ => none
def ldN (H : Heap) (sz : Nat) (a : AVal) : Option AVal :=
 match a with
 | .ptr b off => match get5 b H with
  | some (.cells n ct _ _) => match Nat.ble (Nat.add off sz) n with
   | true => some (.agg (CT.slab ct sz off))
   | false => none
  | _ => none
 | .gptr g off => match GTab.tab g with
  | some l => match Nat.ble (Nat.add off sz) l.length with
   | true => some (.agg ((l.drop off).take sz))
   | false => none
  | none => none
 | _ => none
def VP (P : Program) (t : TypeId) (H : Heap) (a : AVal) (k : AVal → Prop) : Prop :=
 match P.underlying t,P.info? t with
 | some d,some i => match aggD d with
  | true => Jm P t fun v => ldN H i.size a = some v ∧ k v
  | false => Jm P t fun v => ld1 H a = some v ∧ k v
 | _,_ => False
theorem Jx {t : TypeId} {a : AVal} {k : AVal → Prop} (h : VP P t H a k) : ∃ v,jN P t H a = some v ∧ k v := by
 unfold VP at h
 split at h <;> try exact h.elim
 rename_i d i hd hi
 split at h
 ·rename_i hag
  obtain ⟨v,e,h⟩ := yB h
  refine ⟨v,?_,h⟩
  unfold ldN at e
  unfold jN
  cases a <;> first | exact e | skip
  ·rename_i b off
   simp only [] at e ⊢
   cases hb : get5 b H with
   | none => rw [hb] at e; cases e
   | some o =>
    rw [hb] at e
    cases o with
    | map _ _ => cases e
    | cells n ct o s => simp only [hd,hi,hag]; exact e
  ·rename_i g off
   simp only [] at e ⊢
   cases hb : GTab.tab g with
   | none => rw [hb] at e; cases e
   | some l => rw [hb] at e; simp only [hd,hi,hag]; exact e
 ·rename_i hag
  obtain ⟨v,e,h⟩ := yB h
  refine ⟨v,?_,h⟩
  unfold ld1 at e
  unfold jN
  cases a <;> first | exact e | skip
  ·rename_i b off
   simp only [] at e ⊢
   cases hb : get5 b H with
   | none => rw [hb] at e; cases e
   | some o =>
    rw [hb] at e
    cases o with
    | map _ _ => cases e
    | cells n ct o s => simp only [hd,hi,hag]; exact e
  ·rename_i g off
   simp only [] at e ⊢
   cases hb : GTab.tab g with
   | none => rw [hb] at e; cases e
   | some l => rw [hb] at e; simp only [hd,hi,hag]; exact e
def Z7 (P : Program) (t : TypeId) (v : AVal) (k : List AVal → Prop) : Prop :=
 match P.underlying t with
 | some d => match aggD d with
  | true => match v with
   | .agg cs => k cs
   | _ => False
  | false => qx v = true ∧ k [v]
 | none => False
theorem QP {t : TypeId} {v : AVal} {k : List AVal → Prop} (h : Z7 P t v k) : ∃ cs,kc v = some cs ∧ k cs := by
 unfold Z7 at h
 split at h <;> try exact h.elim
 split at h
 ·split at h <;> first | exact h.elim | exact ⟨_,rfl,h⟩
 ·obtain ⟨h1,h2⟩ := h
  refine ⟨[v],?_,h2⟩
  cases v <;> first | rfl | (simp [qx] at h1)
def stC (H : Heap) (a : AVal) (cs : List AVal) : Option Heap :=
 match a with
 | .ptr b off => match get5 b H with
  | some (.cells n ct olds false) => match Nat.ble (Nat.add off cs.length) n,qo cs with
   | true,true => some (set5 b (some (.cells n (relay cs cs.length off n ct) [] false)) (dels olds H))
   | _,_ => none
  | _ => none
 | _ => none
def Ws (P : Program) (t : TypeId) (H : Heap) (a x : AVal) (k : Heap → Prop) : Prop :=
 match P.info? t with
 | some i => Z7 P t x fun cs => match Nat.beq cs.length i.size with
  | true => ∃ H',stC H a cs = some H' ∧ k H'
  | false => False
 | none => False
theorem XB {t : TypeId} {a x : AVal} {k : Heap → Prop} (h : Ws P t H a x k) : ∃ H',zt P t H a x = some H' ∧ k H' := by
 unfold Ws at h
 split at h <;> try exact h.elim
 rename_i i hi
 obtain ⟨cs,hcs,h⟩ := QP h
 split at h <;> try exact h.elim
 rename_i hl
 obtain ⟨H',e,h⟩ := h
 refine ⟨H',?_,h⟩
 have hl' := Nat.eq_of_beq_eq_true hl
 unfold stC at e
 unfold zt
 split at e <;> try (cases e; done)
 rename_i b off
 split at e <;> try (cases e; done)
 rename_i n ct olds ho
 split at e <;> try (cases e; done)
 rename_i h1 h2
 cases e
 rw [hl'] at h1
 have hb : Nat.beq i.size i.size = true := Nat.beq_refl _
 simp only [hcs,hi,ho,h1,h2,hl',hb]
def vInt (op : BinOp) (k : IntKind) (a b : Int) (K : AVal → Prop) : Prop :=
 match op with
 | .add => K (.int k (k.wrap (a + b)))
 | .sub => K (.int k (k.wrap (a - b)))
 | .mul => K (.int k (k.wrap (a * b)))
 | .quo => b ≠ 0 ∧ K (.int k (k.wrap (a.tdiv b)))
 | .rem => b ≠ 0 ∧ K (.int k (a.tmod b))
 | .and => K (.int k (k.wrap (BitVec.ofInt k.bits a &&& BitVec.ofInt k.bits b).toNat))
 | .or => K (.int k (k.wrap (BitVec.ofInt k.bits a ||| BitVec.ofInt k.bits b).toNat))
 | .xor => K (.int k (k.wrap (BitVec.ofInt k.bits a ^^^ BitVec.ofInt k.bits b).toNat))
 | .andNot => K (.int k (k.wrap (BitVec.ofInt k.bits a &&& ~~~BitVec.ofInt k.bits b).toNat))
 | .eql => K (.bool (decide (a = b)))
 | .neq => K (.bool (!decide (a = b)))
 | .lss => K (.bool (decide (a < b)))
 | .leq => K (.bool (decide (a ≤ b)))
 | .gtr => K (.bool (decide (b < a)))
 | .geq => K (.bool (decide (b ≤ a)))
 | _ => False
theorem Vr (a b : Int) : (!decide (b < a)) = decide (a ≤ b) := by rw [Bool.eq_iff_iff]; simp
theorem qdu (a b : Int) : (a == b) = decide (a = b) := by rw [Bool.eq_iff_iff]; simp
theorem ZI {op : BinOp} {k : IntKind} {a b : Int} {K : AVal → Prop} (h : vInt op k a b K) : ∃ v,aInt op k a b = some v ∧ K v := by
 unfold vInt at h
 unfold aInt
 cases op <;> simp only [qp,zu,kJ,zH,zY] at h ⊢
 case quo =>
  obtain ⟨h0,h⟩ := h; have : (b == 0) = false := by simpa using h0
  simp only [this]; exact ⟨_,rfl,h⟩
 case rem =>
  obtain ⟨h0,h⟩ := h; have : (b == 0) = false := by simpa using h0
  simp only [this]; exact ⟨_,rfl,h⟩
 case leq => rw [← Vr] at h; exact ⟨_,rfl,h⟩
 case geq => rw [← Vr] at h; exact ⟨_,rfl,h⟩
 case eql => rw [← qdu] at h; exact ⟨_,rfl,h⟩
 case neq => rw [← qdu] at h; exact ⟨_,rfl,h⟩
 all_goals first | exact h.elim | exact ⟨_,rfl,h⟩
def YJ (op : BinOp) (s t : List UInt8) (K : AVal → Prop) : Prop :=
 match op with
 | .add => s.length + t.length ≤ 9223372036854775807 ∧ K (.str (s ++ t))
 | .eql => K (.bool (s == t))
 | .neq => K (.bool (!(s == t)))
 | .lss => K (.bool (Op.bytesLess s t))
 | .leq => K (.bool (Op.bytesLess s t || s == t))
 | .gtr => K (.bool !(Op.bytesLess s t || s == t))
 | .geq => K (.bool !(Op.bytesLess s t))
 | _ => False
theorem qae {op : BinOp} {s t : List UInt8} {K : AVal → Prop} (h : YJ op s t K) : ∃ v,yk op s t = some v ∧ K v := by
 unfold YJ at h
 unfold yk
 cases op <;> simp only [] at h ⊢
 case add =>
  obtain ⟨h0,h⟩ := h; have hb : Nat.ble (s.length + t.length) 9223372036854775807 = true := (by rw [Nat.ble_eq]; exact h0)
  rw [hb]; exact ⟨_,rfl,h⟩
 all_goals first | exact h.elim | exact ⟨_,rfl,h⟩
inductive NK where
 | ptr | slice | map | func | iface
def nkOf : TypeDesc → Option NK
 | .pointer _ => some .ptr
 | .slice _ => some .slice
 | .map _ _ => some .map
 | .func _ _ _ => some .func
 | .interface _ => some .iface
 | _ => none
def nilK (k : NK) (v : AVal) : Option Bool :=
 match k,v with
 | .ptr,.ptr _ _ => some false
 | .ptr,.nilPtr => some true
 | .slice,.slice .. => some false
 | .slice,.nilSlice => some true
 | .slice,.gslice .. => some false
 | .map,.map _ => some false
 | .map,.nilMap => some true
 | .func,.func _ _ _ => some false
 | .func,.nilFunc => some true
 | .iface,.iface _ _ => some false
 | .iface,.nilIface => some true
 | _,_ => none
theorem ZP {d : TypeDesc} {k : NK} {v : AVal} {p : Bool} (hk : nkOf d = some k) (h : nilK k v = some p) : jC d v = some p := by
 cases d <;> simp only [nkOf,reduceCtorEq,Option.some.injEq] at hk
 all_goals (subst hk; cases v <;> simp only [nilK,reduceCtorEq] at h <;> exact h)
def vBin (P : Program) (op : BinOp) (t : TypeId) (x y : Operand) (a b : AVal) (K : AVal → Prop) : Prop :=
 match P.underlying t with
 | some (.int _) => match op with
  | .shl => match a,b with
   | .int k1 n,.int _ m => 0 ≤ m ∧ K (.int k1 (k1.wrap (n * 2 ^ (min m.toNat k1.bits))))
   | _,_ => False
  | .shr => match a,b with
   | .int k1 n,.int _ m => 0 ≤ m ∧ K (.int k1 (n.fdiv (2 ^ (min m.toNat k1.bits))))
   | _,_ => False
  | op => match a,b with
   | .int k1 n,.int k2 m => match decide (k1 = k2) with
    | true => vInt op k1 n m K
    | false => False
   | _,_ => False
 | some .string => match a,b with
  | .str s,.str u => YJ op s u K
  | _,_ => False
 | some .bool => match op with
  | .eql => match a,b with
   | .bool p,.bool q => K (.bool (p == q))
   | _,_ => False
  | .neq => match a,b with
   | .bool p,.bool q => K (.bool (!(p == q)))
   | _,_ => False
  | _ => False
 | some d => match nkOf d,zE x,zE y with
  | some k,false,true => match nilK k b with
   | some true => match op with
    | .eql => ∃ p,nilK k a = some p ∧ K (.bool p)
    | .neq => ∃ p,nilK k a = some p ∧ K (.bool (!p))
    | _ => False
   | _ => False
  | some k,true,_ => match nilK k a with
   | some true => match op with
    | .eql => ∃ p,nilK k b = some p ∧ K (.bool p)
    | .neq => ∃ p,nilK k b = some p ∧ K (.bool (!p))
    | _ => False
   | _ => False
  | _,_,_ => False
 | none => False
theorem eqB (p q : Bool) : (Bool.rec (!q) q p : Bool) = (p == q) := by cases p <;> cases q <;> rfl
theorem qbz {op : BinOp} {t : TypeId} {x y : Operand} {ρ : Operand → AVal} {K : AVal → Prop} (h : vBin P op t x y (ρ x) (ρ y) K) :
  ∃ v,zn P op t x y ρ H nx = some (.val v H nx) ∧ K v := by
 unfold vBin at h
 split at h <;> try exact h.elim
 ·rename_i kd hu
  split at h
  ·split at h <;> try exact h.elim
   rename_i k1 n k2 m hx hy
   obtain ⟨h0,h⟩ := h
   have : (ilt m 0) = false := by rw [zH]; simp; exact h0
   refine ⟨_,?_,h⟩
   unfold zn
   simp only [hx,hy,wN,this,qp]
  ·split at h <;> try exact h.elim
   rename_i k1 n k2 m hx hy
   obtain ⟨h0,h⟩ := h
   have : (ilt m 0) = false := by rw [zH]; simp; exact h0
   refine ⟨_,?_,h⟩
   unfold zn
   simp only [hx,hy,wN,this,qp]
  ·rename_i hn1 hn2
   split at h <;> try exact h.elim
   rename_i k1 n k2 m hx hy
   split at h <;> try exact h.elim
   rename_i hk
   obtain ⟨v,e,h⟩ := ZI h
   refine ⟨v,?_,h⟩
   cases op <;> first | exact (hn1 rfl).elim | exact (hn2 rfl).elim | (unfold zn; simp only [hx,hy,hk,e])
 ·rename_i hu
  split at h <;> try exact h.elim
  rename_i s u hx hy
  obtain ⟨v,e,h⟩ := qae h
  refine ⟨v,?_,h⟩
  unfold zn
  simp only [hx,hy,e]
 ·rename_i hu
  split at h <;> try exact h.elim
  all_goals
   split at h <;> try exact h.elim
   rename_i p q hx hy
   refine ⟨_,?_,h⟩
   unfold zn
   simp only [hx,hy,aEq,hu,zY]
   rw [eqB]
 ·rename_i d hnb hni hns hu
  have other : ∀ k q,nilK k (ρ x) = some q → (op = .eql ∨ op = .neq) → ∀ s,aEq P t x y (ρ x) (ρ y) = some s →
    zn P op t x y ρ H nx = some (.val (.bool (match op with | .eql => s | _ => !s)) H nx) := by
   intro k q ha hop s hs
   unfold zn
   split
   ·rename_i hx hy; rw [hx] at ha; cases k <;> cases ha
   ·rename_i hx hy; rw [hx] at ha; cases k <;> cases ha
   ·rcases hop with rfl | rfl <;> simp only [hs,zY]
  split at h <;> try exact h.elim
  ·rename_i k hk hcx hcy
   split at h <;> try exact h.elim
   rename_i hb
   have e : ∀ p,nilK k (ρ x) = some p → aEq P t x y (ρ x) (ρ y) = some p := by
    intro p hp
    unfold aEq
    rw [hu]
    simp only [ZP hk hp,ZP hk hb,hcx,hcy]
   split at h <;> try exact h.elim
   ·obtain ⟨p,hp,h⟩ := h
    exact ⟨_,other k p hp (.inl rfl) p (e p hp),h⟩
   ·obtain ⟨p,hp,h⟩ := h
    exact ⟨_,other k p hp (.inr rfl) p (e p hp),h⟩
  ·rename_i k hk hcx
   split at h <;> try exact h.elim
   rename_i hb
   have e : ∀ p,nilK k (ρ y) = some p → aEq P t x y (ρ x) (ρ y) = some p := by
    intro p hp
    unfold aEq
    rw [hu]
    simp only [ZP hk hp,ZP hk hb,hcx]
   split at h <;> try exact h.elim
   ·obtain ⟨p,hp,h⟩ := h
    exact ⟨_,other k true hb (.inl rfl) p (e p hp),h⟩
   ·obtain ⟨p,hp,h⟩ := h
    exact ⟨_,other k true hb (.inr rfl) p (e p hp),h⟩
def qJ (a : AVal) (c : Nat) : Option AVal :=
 match a with
 | .ptr b off => some (.ptr b (Nat.add off c))
 | .gptr g off => some (.gptr g (Nat.add off c))
 | _ => none
def idxS (v : AVal) (n esz : Nat) : Option AVal :=
 match v with
 | .slice b off len _ _ => match Nat.ble (Nat.succ n) len with
  | true => some (.ptr b (Nat.add off (Nat.mul n esz)))
  | false => none
 | .gslice g off len _ => match Nat.ble (Nat.succ n) len with
  | true => some (.gptr g (Nat.add off (Nat.mul n esz)))
  | false => none
 | _ => none
def lenS (v : AVal) : Option Nat :=
 match v with
 | .slice _ _ n _ _ => some n
 | .nilSlice => some 0
 | .gslice _ _ n _ => some n
 | _ => none
def slcS (v : AVal) (esz l : Nat) (h : Option Nat) : Option AVal :=
 match v with
 | .slice b off len e full => match h.getD len with
  | h => match Nat.ble h len,Nat.ble l h,Nat.beq esz e with
   | true,true,true => some (.slice b (Nat.add off (Nat.mul l e)) (Nat.sub h l) e (Bool.rec false full (Nat.beq h len)))
   | _,_,_ => none
 | .nilSlice => match l,h with
  | 0,none => some .nilSlice
  | 0,some 0 => some .nilSlice
  | _,_ => none
 | .gslice g off len e => match h.getD len with
  | h => match Nat.ble h len,Nat.ble l h,Nat.beq esz e with
   | true,true,true => some (.gslice g (Nat.add off (Nat.mul l e)) (Nat.sub h l) e)
   | _,_,_ => none
 | _ => none
def qe6 (H : Heap) (v : AVal) : Option (List UInt8) :=
 match v with
 | .slice b off n _ _ => match get5 b H with
  | some (.cells cnt ct _ _) => match Nat.ble (Nat.add off n) cnt with
   | true => Qo (CT.slab ct n off)
   | false => none
  | _ => none
 | .nilSlice => some []
 | _ => none
def Qh (P : Program) (s : TypeId) (f : Nat) (a : AVal) (K : AVal → Prop) : Prop :=
 match P.underlying s with
 | some (.struct fields) => match fields[f]? with
  | some fd => match P.info? fd.type with
   | some i => match Nat.beq i.size 0 with
    | false => ∃ v,qJ a fd.offset = some v ∧ K v
    | true => False
   | none => False
  | none => False
 | _ => False
theorem JR {s : TypeId} {f : Nat} {x : Operand} {ρ : Operand → AVal} {K : AVal → Prop} (h : Qh P s f (ρ x) K) :
  ∃ v,qT P s x f ρ H nx = some (.val v H nx) ∧ K v := by
 unfold Qh at h
 split at h <;> try exact h.elim
 rename_i fields hu
 split at h <;> try exact h.elim
 rename_i fd hf
 split at h <;> try exact h.elim
 rename_i i hi
 split at h <;> try exact h.elim
 rename_i hz
 obtain ⟨v,e,h⟩ := h
 refine ⟨v,?_,h⟩
 unfold qJ at e
 unfold qT
 simp only [hu,hf,hi,hz]
 split at e <;> try (cases e; done)
 ·rename_i hx; cases e; rw [hx]
 ·rename_i hx; cases e; rw [hx]
theorem wm {i : Int} (h : 0 ≤ i) : kx i = some i.toNat := by
 cases i with
 | ofNat n => rfl
 | negSucc n => omega
def yZ (P : Program) (t : TypeId) (a ix : AVal) (K : AVal → Prop) : Prop :=
 match ix with
 | .int _ i => match P.underlying t with
  | some (.array len elem) => match P.info? elem with
   | some e => 0 ≤ i ∧ i.toNat < len ∧ ∃ v,qJ a (Nat.mul i.toNat e.size) = some v ∧ K v
   | none => False
  | some (.slice elem) => match P.info? elem with
   | some e => 0 ≤ i ∧ ∃ v,idxS a i.toNat e.size = some v ∧ K v
   | none => False
  | _ => False
 | _ => False
theorem JQ {t : TypeId} {x ix : Operand} {ρ : Operand → AVal} {K : AVal → Prop} (h : yZ P t (ρ x) (ρ ix) K) :
  ∃ v,qN P t x ix ρ H nx = some (.val v H nx) ∧ K v := by
 unfold yZ at h
 split at h <;> try exact h.elim
 rename_i k i hix
 split at h <;> try exact h.elim
 ·rename_i len elem hu
  split at h <;> try exact h.elim
  rename_i e he
  obtain ⟨h0,hlt,v,ev,h⟩ := h
  refine ⟨v,?_,h⟩
  have hb : Nat.ble (Nat.succ i.toNat) len = true := by rw [Nat.ble_eq]; omega
  unfold qN
  unfold qJ at ev
  simp only [hix,wm h0,hu]
  split at ev <;> try (cases ev; done)
  ·rename_i hx; cases ev; simp only [hx,hb,he]
  ·rename_i hx; cases ev; simp only [hx,hb,he]
 ·rename_i elem hu
  split at h <;> try exact h.elim
  rename_i e he
  obtain ⟨h0,v,ev,h⟩ := h
  refine ⟨v,?_,h⟩
  unfold qN
  unfold idxS at ev
  simp only [hix,wm h0,hu]
  split at ev <;> try (cases ev; done)
  ·rename_i hx
   split at ev <;> try (cases ev; done)
   rename_i hb
   cases ev
   simp only [hx,hb,he]
  ·rename_i hx
   split at ev <;> try (cases ev; done)
   rename_i hb
   cases ev
   simp only [hx,hb,he]
def Wg (P : Program) (t : TypeId) (a ix : AVal) (K : AVal → Prop) : Prop :=
 match ix with
 | .int _ i => match P.underlying t with
  | some (.array len elem) => match a with
   | .agg cs => match P.info? elem with
    | some e => 0 ≤ i ∧ i.toNat < len ∧ Jm P elem fun v => ye P elem cs (Nat.mul i.toNat e.size) = some v ∧ K v
    | none => False
   | _ => False
  | some .string => match a with
   | .str s => 0 ≤ i ∧ ∃ c,s[i.toNat]? = some c ∧ K (.int .u8 (.ofNat c.toNat))
   | _ => False
  | _ => False
 | _ => False
theorem Xm {t : TypeId} {x ix : Operand} {ρ : Operand → AVal} {K : AVal → Prop} (h : Wg P t (ρ x) (ρ ix) K) :
  ∃ v,zN P t x ix ρ H nx = some (.val v H nx) ∧ K v := by
 unfold Wg at h
 split at h <;> try exact h.elim
 rename_i k i hix
 split at h <;> try exact h.elim
 ·rename_i len elem hu
  split at h <;> try exact h.elim
  rename_i cs hx
  split at h <;> try exact h.elim
  rename_i e he
  obtain ⟨h0,hlt,h⟩ := h
  obtain ⟨v,ev,h⟩ := yB h
  refine ⟨v,?_,h⟩
  have hb : Nat.ble (Nat.succ i.toNat) len = true := by rw [Nat.ble_eq]; omega
  unfold zN
  simp only [hix,wm h0,hu,hx,hb,he,ev]
 ·rename_i hu
  split at h <;> try exact h.elim
  rename_i s hx
  obtain ⟨h0,c,ec,h⟩ := h
  refine ⟨_,?_,h⟩
  unfold zN
  simp only [hix,wm h0,hu,hx,ec]
def vBnd (x : Option AVal) (K : Option Nat → Prop) : Prop :=
 match x with
 | none => K none
 | some (.int _ i) => 0 ≤ i ∧ K (some i.toNat)
 | some _ => False
theorem ZV {x : Option Operand} {ρ : Operand → AVal} {K : Option Nat → Prop} (h : vBnd (x.map ρ) K) : ∃ n,K n ∧ ∀ d,bnd d x ρ = some (n.getD d) := by
 unfold vBnd at h
 cases x with
 | none => exact ⟨none,h,fun d => rfl⟩
 | some y =>
  simp only [Option.map_some] at h
  split at h <;> try exact h.elim
  ·rename_i e; cases e
  ·rename_i k i e
   obtain ⟨h0,h⟩ := h
   refine ⟨some i.toNat,h,fun d => ?_⟩
   have e' : ρ y = .int k i := Option.some.inj e
   simp only [bnd,e',wm h0,Option.getD_some]
def Wh (P : Program) (t : TypeId) (a : AVal) (lo hi mx : Option AVal) (H : Heap) (K : AVal → Prop) : Prop :=
 match mx with
 | some _ => False
 | none => match P.underlying t with
  | some .string => match a with
   | .str s => vBnd lo fun l => vBnd hi fun h => h.getD s.length ≤ s.length ∧ l.getD 0 ≤ h.getD s.length ∧ K (.str ((s.drop (l.getD 0)).take (h.getD s.length - l.getD 0)))
   | _ => False
  | some (.slice elem) => match P.info? elem with
   | some e => vBnd lo fun l => vBnd hi fun h => ∃ v,slcS a e.size (l.getD 0) h = some v ∧ K v
   | none => False
  | _ => False
theorem XS {t : TypeId} {x : Operand} {lo hi mx : Option Operand} {ρ : Operand → AVal} {K : AVal → Prop} (h : Wh P t (ρ x) (lo.map ρ) (hi.map ρ) (mx.map ρ) H K) :
  ∃ v,ju P t x lo hi mx ρ H nx = some (.val v H nx) ∧ K v := by
 unfold Wh at h
 split at h <;> try exact h.elim
 rename_i hm
 have hm' : mx = none := by cases mx with
  | none => rfl
  | some y => cases hm
 subst hm'
 split at h <;> try exact h.elim
 ·rename_i hu
  split at h <;> try exact h.elim
  rename_i s hx
  obtain ⟨l,h,hl⟩ := ZV h
  obtain ⟨hh,h,hhi⟩ := ZV h
  obtain ⟨h1,h2,h⟩ := h
  refine ⟨_,?_,h⟩
  unfold ju
  have b1 : Nat.ble (hh.getD s.length) s.length = true := by rw [Nat.ble_eq]; exact h1
  have b2 : Nat.ble (l.getD 0) (hh.getD s.length) = true := by rw [Nat.ble_eq]; exact h2
  simp only [hu,hx,hl,hhi,b1,b2]
 ·rename_i elem hu
  split at h <;> try exact h.elim
  rename_i e he
  obtain ⟨l,h,hl⟩ := ZV h
  obtain ⟨hh,h,hhi⟩ := ZV h
  obtain ⟨v,ev,h⟩ := h
  refine ⟨v,?_,h⟩
  unfold ju
  unfold slcS at ev
  split at ev <;> try (cases ev; done)
  ·rename_i b off len es full hx
   simp only [] at ev
   split at ev <;> try (cases ev; done)
   rename_i b1 b2 b3
   cases ev
   simp only [hu,hx,hl,hhi,he,b1,b2,b3,qb]
  ·rename_i hx
   split at ev <;> try (cases ev; done)
   ·rename_i q1; cases ev; simp only [hu,hx,hl,hhi,he,Option.getD_none,q1]
   ·rename_i q1; cases ev; simp only [hu,hx,hl,hhi,he,Option.getD_some,q1]
  ·rename_i g off len es hx
   simp only [] at ev
   split at ev <;> try (cases ev; done)
   rename_i b1 b2 b3
   cases ev
   simp only [hu,hx,hl,hhi,he,b1,b2,b3]
def YK (P : Program) (src dst : TypeId) (a : AVal) (H : Heap) (K : AVal → Prop) : Prop :=
 match P.underlying src,P.underlying dst with
 | some (.int _),some (.int k) => match a with
  | .int _ n => K (.int k (k.wrap n))
  | _ => False
 | some .string,some .string => match a with
  | .str s => K (.str s)
  | _ => False
 | some (.slice e),some .string => match P.underlying e with
  | some (.int .u8) => ∃ s,qe6 H a = some s ∧ K (.str s)
  | _ => False
 | _,_ => False
theorem Yp {src dst : TypeId} {x : Operand} {ρ : Operand → AVal} {K : AVal → Prop} (h : YK P src dst (ρ x) H K) :
  ∃ v,z5 P src dst x ρ H nx = some (.val v H nx) ∧ K v := by
 unfold YK at h
 split at h <;> try exact h.elim
 ·rename_i k0 k hs hd
  split at h <;> try exact h.elim
  rename_i k1 n hx
  refine ⟨_,?_,h⟩
  unfold z5
  simp only [hs,hd,hx,qp,zu]
 ·rename_i hs hd
  split at h <;> try exact h.elim
  rename_i s hx
  refine ⟨_,?_,h⟩
  unfold z5
  simp only [hs,hd,hx]
 ·rename_i el hs hd
  split at h <;> try exact h.elim
  rename_i hel
  obtain ⟨s,es,h⟩ := h
  refine ⟨_,?_,h⟩
  unfold z5
  unfold qe6 at es
  split at es <;> try (cases es; done)
  ·rename_i b off n esz full hx
   split at es <;> try (cases es; done)
   rename_i cnt ct o sp hb
   split at es <;> try (cases es; done)
   rename_i hle
   simp only [hs,hd,hx,hel,hb,hle,es]
  ·rename_i hx
   cases es
   simp only [hs,hd,hx,hel]
def Ka (P : Program) (place : Nat → Option (Nat × Nat × TypeId)) (ρ : Operand → AVal) (cells : List AVal) (l : List (Nat × Operand)) (K : List AVal → Prop) : Prop :=
 match l with
 | [] => K cells
 | (i,x) :: rest => match place i with
  | some (off,size,t) => Z7 P t (ρ x) fun cs => match Nat.beq cs.length size,Nat.ble (Nat.add off size) cells.length with
   | true,true => Ka P place ρ (seg off cs cells) rest K
   | _,_ => False
  | none => False
theorem Qz {place : Nat → Option (Nat × Nat × TypeId)} {ρ : Operand → AVal} : ∀ {l : List (Nat × Operand)} {cells : List AVal} {K : List AVal → Prop},Ka P place ρ cells l K →
  ∃ cs,jD (fun i => (place i).map fun p => (p.1,p.2.1)) ρ cells l = some cs ∧ K cs
 | [],_,_,h => ⟨_,rfl,h⟩
 | (i,x) :: rest,cells,K,h => by
  unfold Ka at h
  split at h <;> try exact h.elim
  rename_i off size t hp
  obtain ⟨cs,hcs,h⟩ := QP h
  split at h <;> try exact h.elim
  rename_i h1 h2
  obtain ⟨r,e,h⟩ := Qz h
  refine ⟨r,?_,h⟩
  unfold jD
  simp only [hp,hcs,h1,h2,Option.map_some]
  exact e
def ZW (P : Program) : List Field → Option (List (Nat × Nat × TypeId))
 | [] => some []
 | f :: l => match P.info? f.type,ZW P l with
  | some i,some r => some ((f.offset,i.size,f.type) :: r)
  | _,_ => none
theorem JC : ∀ {l : List Field} {r : List (Nat × Nat × TypeId)},ZW P l = some r → vt P l = some (r.map fun p => (p.1,p.2.1))
 | [],_,h => by cases h; rfl
 | f :: l,r,h => by
  unfold ZW at h
  split at h <;> try (cases h; done)
  rename_i i r' hi hr
  cases h
  unfold vt
  simp only [hi,JC hr,List.map_cons]
def V4 (P : Program) (t : TypeId) (parts : List (Nat × Operand)) (ρ : Operand → AVal) (K : List AVal → Prop) : Prop :=
 match jg P t,P.underlying t with
 | some z,some (.struct fields) => match ZW P fields.toList with
  | some pl => Ka P (fun i => pl[i]?) ρ z parts K
  | none => False
 | some z,some (.array _ elem) => match P.info? elem with
  | some e => Ka P (fun i => some (Nat.mul i e.size,e.size,elem)) ρ z parts K
  | none => False
 | _,_ => False
theorem XQ {t : TypeId} {parts : Array (Nat × Operand)} {ρ : Operand → AVal} {K : List AVal → Prop} (h : V4 P t parts.toList ρ K) : ∃ cs,vc P t parts ρ = some cs ∧ K cs := by
 unfold V4 at h
 unfold vc
 split at h <;> try exact h.elim
 ·rename_i z fields hz hu
  split at h <;> try exact h.elim
  rename_i pl hpl
  obtain ⟨cs,e,h⟩ := Qz h
  refine ⟨cs,?_,h⟩
  simp only [hz,hu,JC hpl,List.getElem?_map]
  exact e
 ·rename_i z len elem hz hu
  split at h <;> try exact h.elim
  rename_i e he
  obtain ⟨cs,e',h⟩ := Qz h
  refine ⟨cs,?_,h⟩
  simp only [hz,hu,he]
  exact e'
def Zt (P : Program) (op : Op) (ρ : Operand → AVal) (K : Made → Prop) : Prop :=
 match op with
 | .alloc t => match jg P t with
  | some z => match Nat.ble z.length 4096 with
   | true => K ⟨z.length,z,fun b => .ptr b 0⟩
   | false => False
  | none => False
 | .box t x => Z7 P t (ρ x) fun cs => match Nat.ble cs.length 4096 with
  | true => K ⟨cs.length,cs,fun b => .ptr b 0⟩
  | false => False
 | .buildSlice t len parts => match P.underlying t with
  | some (.slice elem) => match jg P elem,P.info? elem with
   | some z,some e => match Nat.ble (Nat.mul len e.size) 4096,Nat.beq e.size 0 with
    | true,false => Ka P (fun i => some (Nat.mul i e.size,e.size,elem)) ρ (repL z len) parts.toList fun cs => K ⟨Nat.mul len e.size,cs,fun b => .slice b 0 len e.size true⟩
    | _,_ => False
   | _,_ => False
  | _ => False
 | .makeSlice t l c => match P.underlying t with
  | some (.slice elem) => match jg P elem,P.info? elem with
   | some z,some e => match Nat.beq e.size 0 with
    | false => match ρ l,ρ c with
     | .int _ n,.int _ m => n = m ∧ 0 ≤ n ∧ n.toNat * e.size ≤ 9223372036854775807 ∧ n.toNat * e.bytes ≤ 140737488355328 ∧ n.toNat ≤ 9223372036854775807 ∧
       K ⟨Nat.mul n.toNat e.size,repL z n.toNat,fun b => .slice b 0 n.toNat e.size true⟩
     | _,_ => False
    | true => False
   | _,_ => False
  | _ => False
 | _ => False
theorem zj {a b : Nat} (h : a ≤ b) : Nat.ble a b = true := by rw [Nat.ble_eq]; exact h
theorem Vq {op : Op} {ρ : Operand → AVal} {K : Made → Prop} (h : Zt P op ρ K) : ∃ m,made P op ρ = some m ∧ Nat.ble m.n 9223372036854775807 = true ∧ K m := by
 unfold Zt at h
 split at h <;> try exact h.elim
 ·split at h <;> try exact h.elim
  rename_i z hz
  split at h <;> try exact h.elim
  rename_i hb
  refine ⟨_,?_,zj (Nat.le_trans (Nat.le_of_ble_eq_true hb) (by decide)),h⟩
  simp only [made,jy,hz]
 ·obtain ⟨cs,hcs,h⟩ := QP h
  split at h <;> try exact h.elim
  rename_i hb
  refine ⟨_,?_,zj (Nat.le_trans (Nat.le_of_ble_eq_true hb) (by decide)),h⟩
  simp only [made,kU,hcs,qb]
 ·rename_i t len parts
  split at h <;> try exact h.elim
  rename_i elem hu
  split at h <;> try exact h.elim
  rename_i z e hz he
  split at h <;> try exact h.elim
  rename_i h1 h2
  obtain ⟨cs,e',h⟩ := Qz h
  refine ⟨_,?_,zj (Nat.le_trans (Nat.le_of_ble_eq_true h1) (by decide)),h⟩
  simp only [made,zC,hu,hz,he,h1,h2]
  have e2 : jD (fun i => some (Nat.mul i e.size,e.size)) ρ (repL z len) parts.toList = some cs := e'
  rw [e2]
 ·rename_i t l c
  split at h <;> try exact h.elim
  rename_i elem hu
  split at h <;> try exact h.elim
  rename_i z e hz he
  split at h <;> try exact h.elim
  rename_i h0
  split at h <;> try exact h.elim
  rename_i k1 n k2 m hl hc
  obtain ⟨rfl,hn,g1,g2,g3,h⟩ := h
  refine ⟨_,?_,zj g1,h⟩
  have b0 : Nat.beq n.toNat n.toNat = true := Nat.beq_refl _
  have b1 : Nat.ble (Nat.mul n.toNat e.size) 9223372036854775807 = true := zj g1
  have b2 : Nat.ble (Nat.mul n.toNat e.bytes) 140737488355328 = true := zj g2
  simp only [made,jU,hu,hz,he,hl,hc,wm hn,b0,b1,b2,h0,zj g3,qb]
def blkN (m : Made) (nx : Nat) (H : Heap) : Heap := set5 nx (some (.cells m.n (CT.ofL m.n m.l) [] false)) H
def appC (H : Heap) (nx esz ebytes : Nat) (s : AVal) (n : Nat) (new : List AVal) : Option (AVal × Heap × Nat) :=
 match n with
 | 0 => match s with
  | .nilSlice => some (.nilSlice,H,nx)
  | .slice b off len e full => some (.slice b off len e full,H,nx)
  | _ => none
 | Nat.succ n' => match s with
  | .nilSlice => match Nat.ble (Nat.mul (Nat.succ n') esz) 9223372036854775807,Nat.ble (Nat.mul (Nat.succ n') ebytes) 140737488355328 with
   | true,true => some (.slice nx 0 (Nat.succ n') esz false,set5 nx (some (.cells (Nat.mul (Nat.succ n') esz) (CT.ofL (Nat.mul (Nat.succ n') esz) new) [] false)) H,Nat.succ nx)
   | _,_ => none
  | .slice b off len e full => match get5 b H,Nat.beq e esz,Nat.ble (Nat.mul (Nat.add len (Nat.succ n')) esz) 9223372036854775807,Nat.ble (Nat.mul (Nat.add len (Nat.succ n')) ebytes) 140737488355328 with
   | some (.cells cnt ct olds sup),true,true,true => match Nat.ble (Nat.add off (Nat.mul len esz)) cnt,full with
    | true,true => some (.slice nx 0 (Nat.add len (Nat.succ n')) esz false,
      set5 nx (some (.cells (Nat.mul (Nat.add len (Nat.succ n')) esz) (CT.ofL (Nat.mul (Nat.add len (Nat.succ n')) esz) (CT.slab ct (Nat.mul len esz) off ++ new)) [] false)) H,Nat.succ nx)
    | true,false => match off,sup with
     | 0,false => some (.slice nx 0 (Nat.add len (Nat.succ n')) esz false,
       ZB b cnt ct olds (Nat.mul len esz) H nx (Nat.mul (Nat.add len (Nat.succ n')) esz) (CT.lay new (Nat.mul len esz) (CT.widen (Nat.mul (Nat.add len (Nat.succ n')) esz) ct)),Nat.succ nx)
     | _,_ => none
    | _,_ => none
   | _,_,_,_ => none
  | _ => none
theorem WH {elem : TypeId} {s : AVal} {src : Nat → Option (Nat × List AVal)} {z : List AVal} {e : TypeInfo} {n : Nat} {new : List AVal} {v : AVal} {H' : Heap} {nx' : Nat}
  (hz : jg P elem = some z) (he : P.info? elem = some e) (hs : src e.size = some (n,new)) (h0 : Nat.beq e.size 0 = false) (h : appC H nx e.size e.bytes s n new = some (v,H',nx')) :
  jp P elem H nx s src = some (.val v H' nx') := by
 have hn : Nat.ble (Nat.succ nx) (Nat.succ nx) = true := zj (Nat.le_refl _)
 unfold appC at h
 unfold jp
 simp only [hz,he,hs,h0,hn]
 cases n with
 | zero =>
  simp only [] at h ⊢
  split at h <;> first | (cases h; done) | (cases h; rfl)
 | succ n' =>
  simp only [] at h ⊢
  split at h <;> try (cases h; done)
  ·split at h <;> try (cases h; done)
   rename_i g1 g2
   cases h
   simp only [g1,g2,qb]
  ·split at h <;> try (cases h; done)
   rename_i g0 g1 g2 g3
   split at h <;> try (cases h; done)
   ·rename_i g4
    cases h
    simp only [g0,g1,g2,g3,g4,qb]
   ·rename_i g4
    split at h <;> try (cases h; done)
    cases h
    simp only [g0,g1,g2,g3,g4,qb]
def Zd (z : List AVal) (size : Nat) (x : AVal) : Option (Nat × List AVal) :=
 match x with
 | .int .i64 (.ofNat n) => match Nat.ble (Nat.mul n size) 9223372036854775807,Nat.ble n 9223372036854775807 with
  | true,true => some (n,repL z n)
  | _,_ => none
 | _ => none
theorem XX {elem : TypeId} {z : List AVal} {size : Nat} {x : AVal} {r : Nat × List AVal} (hz : jg P elem = some z) (h : Zd z size x = some r) : vd P elem size x = some r := by
 unfold Zd at h
 split at h <;> try (cases h; done)
 split at h <;> try (cases h; done)
 rename_i g1 g2
 cases h
 unfold vd
 simp only [hz,g1,g2]
def copC (H : Heap) (esz : Nat) (d s : AVal) : Option (Nat × Heap) :=
 match d,s with
 | .slice b off len _ _,.slice b2 off2 len2 _ _ => match get5 b H,get5 b2 H with
  | some (.cells cnt ct olds false),some (.cells cnt2 ct2 _ _) => match Nat.ble (Nat.add off (Nat.mul (minN len2 len) esz)) cnt,Nat.ble (Nat.add off2 (Nat.mul (minN len2 len) esz)) cnt2,qo (CT.slab ct2 (Nat.mul (minN len2 len) esz) off2) with
   | true,true,true => some (minN len2 len,set5 b (some (.cells cnt (CT.lay (CT.slab ct2 (Nat.mul (minN len2 len) esz) off2) off ct) [] false)) (dels olds H))
   | _,_,_ => none
  | _,_ => none
 | .slice _ _ _ _ _,.nilSlice => some (0,H)
 | .nilSlice,.nilSlice => some (0,H)
 | .nilSlice,.slice _ _ _ _ _ => some (0,H)
 | _,_ => none
theorem qcq {types : Array TypeId} {args : Array Operand} {ρ : Operand → AVal} {dT elem : TypeId} {l : List TypeId} {d s : Operand} {e : TypeInfo} {n : Nat} {H' : Heap}
  (ht : types.toList = dT :: l) (ha : args.toList = [d,s]) (hu : P.underlying dT = some (.slice elem)) (he : P.info? elem = some e) (h : copC H e.size (ρ d) (ρ s) = some (n,H')) :
  vB P types args ρ H nx = some (.val (.int .i64 (.ofNat n)) H' nx) := by
 unfold vB
 simp only [ht,ha,hu,he]
 unfold copC at h
 split at h
 ·rename_i hd hs
  simp only [hd,hs]
  split at h <;> try (cases h; done)
  rename_i g1 g2
  split at h <;> try (cases h; done)
  rename_i g3 g4 g5
  cases h
  simp only [g1,g2,qb,g3,g4,g5]
 ·rename_i hd hs; cases h; simp only [hd,hs]; rfl
 ·rename_i hd hs; cases h; simp only [hd,hs]; rfl
 ·rename_i hd hs; cases h; simp only [hd,hs]; rfl
 ·cases h
def WJ (P : Program) (x : Operand) (a : AVal) (args : List AVal) (K : FuncId → List AVal → Prop) : Prop :=
 match x with
 | .tmp _ => ∃ f as,callTo P a args = some (f,as) ∧ K f as
 | _ => match callTo P a args with
  | some (f,as) => K f as
  | none => False
theorem KZ {x : Operand} {a : AVal} {args : List AVal} {K : FuncId → List AVal → Prop} (h : WJ P x a args K) : ∃ f as,callTo P a args = some (f,as) ∧ K f as := by
 unfold WJ at h
 split at h
 ·exact h
 ·split at h <;> first | exact h.elim | exact ⟨_,_,‹_›,h⟩
def Yq (P : Program) (c : Call) (ρ : Operand → AVal) (H : Heap) (nx : Nat) (κ : ARes → Prop) : Prop :=
 match c.callee with
 | .value f => WJ P f (ρ f) (c.args.toList.map ρ) fun g as => κ (.call g as)
 | .builtin .len => match c.argTypes.toList,c.args.toList with
  | [t],[x] => match P.underlying t with
   | some .string => match ρ x with
    | .str s => κ (.val (.int .i64 (.ofNat s.length)) H nx)
    | _ => False
   | some (.array n _) => κ (.val (.int .i64 (.ofNat n)) H nx)
   | some (.slice _) => ∃ n,lenS (ρ x) = some n ∧ κ (.val (.int .i64 (.ofNat n)) H nx)
   | _ => False
  | _,_ => False
 | .builtin .append => match c.argTypes.toList,c.args.toList with
  | [sT,xT],[s,x] => match P.underlying sT,P.underlying xT with
   | some (.slice elem),some d => match srcD d,P.info? elem,jg P elem with
    | true,some e,some _ => match Nat.beq e.size 0 with
     | false => ∃ n l,aSrc e.size H (ρ x) = some (n,l) ∧ qo l = true ∧ ∃ v H' nx',appC H nx e.size e.bytes (ρ s) n l = some (v,H',nx') ∧ κ (.val v H' nx')
     | true => False
    | false,some e,some z => match VF d,Nat.beq e.size 0 with
     | true,false => ∃ n l,Zd z e.size (ρ x) = some (n,l) ∧ qo l = true ∧ ∃ v H' nx',appC H nx e.size e.bytes (ρ s) n l = some (v,H',nx') ∧ κ (.val v H' nx')
     | _,_ => ∃ r,qG P c ρ H nx = some r ∧ κ r
    | _,_,_ => ∃ r,qG P c ρ H nx = some r ∧ κ r
   | _,_ => False
  | _,_ => False
 | .builtin .max => match c.args.toList with
  | x :: l => match ρ x with
   | .int k n => ∃ m,wu true k n (l.map ρ) = some m ∧ κ (.val (.int k m) H nx)
   | _ => False
  | _ => False
 | .builtin .min => match c.args.toList with
  | x :: l => match ρ x with
   | .int k n => ∃ m,wu false k n (l.map ρ) = some m ∧ κ (.val (.int k m) H nx)
   | _ => False
  | _ => False
 | .builtin .copy => match c.argTypes.toList,c.args.toList with
  | dT :: _,[d,s] => match P.underlying dT with
   | some (.slice elem) => match P.info? elem with
    | some e => ∃ n H',copC H e.size (ρ d) (ρ s) = some (n,H') ∧ κ (.val (.int .i64 (.ofNat n)) H' nx)
    | none => False
   | _ => False
  | _,_ => False
 | .invoke r name => ∃ t v f byPtr u,ρ r = .iface t v ∧ vQ P t name = some (f,byPtr) ∧ zF P f = true ∧ Zv P H t v byPtr = some u ∧ κ (.call f (u :: c.args.toList.map ρ))
 | _ => ∃ r,qG P c ρ H nx = some r ∧ κ r
theorem YI {c : Call} {ρ : Operand → AVal} {κ : ARes → Prop} (h : Yq P c ρ H nx κ) : ∃ r,qG P c ρ H nx = some r ∧ κ r := by
 obtain ⟨callee,args,types⟩ := c
 unfold Yq at h
 simp only [] at h
 split at h
 ·obtain ⟨g,as,e,h⟩ := KZ h
  refine ⟨_,?_,h⟩
  simp only [qG,kv,e]
 ·split at h <;> try exact h.elim
  rename_i t x ht hx
  split at h <;> try exact h.elim
  ·rename_i hu
   split at h <;> try exact h.elim
   rename_i s hs
   refine ⟨_,?_,h⟩
   simp only [qG,qy,ht,hx,kh,hu,hs]
  ·rename_i n e hu
   refine ⟨_,?_,h⟩
   simp only [qG,qy,ht,hx,kh,hu]
  ·rename_i el hu
   obtain ⟨n,e,h⟩ := h
   refine ⟨_,?_,h⟩
   unfold lenS at e
   split at e <;> try (cases e; done)
   ·rename_i hs; cases e; simp only [qG,qy,ht,hx,kh,hu,hs]
   ·rename_i hs; cases e; simp only [qG,qy,ht,hx,kh,hu,hs]
   ·rename_i hs; cases e; simp only [qG,qy,ht,hx,kh,hu,hs]
 ·split at h <;> try exact h.elim
  rename_i sT xT s x ht hx
  split at h <;> try exact h.elim
  rename_i elem d hs hd
  split at h <;> first | exact h | skip
  ·rename_i e z hsrc he hz
   split at h <;> try exact h.elim
   rename_i h0
   obtain ⟨n,l,e1,e2,v,H',nx',e3,h⟩ := h
   refine ⟨_,?_,h⟩
   simp only [qG,ht,hx,hs,hd,hsrc,he,e1,e2]
   exact WH hz he e1 h0 e3
  ·rename_i e z hsrc he hz
   split at h <;> first | exact h | skip
   rename_i hi h0
   obtain ⟨n,l,e1,e2,v,H',nx',e3,h⟩ := h
   refine ⟨_,?_,h⟩
   have e1' := XX (P := P) (elem := elem) hz e1
   simp only [qG,ht,hx,hs,hd,hsrc,he,hi,e1',e2]
   exact WH (src := fun size => vd P elem size (ρ x)) hz he e1' h0 e3
 ·split at h <;> try exact h.elim
  rename_i x l hx
  split at h <;> try exact h.elim
  rename_i k n hn
  obtain ⟨m,e,h⟩ := h
  refine ⟨_,?_,h⟩
  simp only [qG,qy,hx,hn,e,qp]
 ·split at h <;> try exact h.elim
  rename_i x l hx
  split at h <;> try exact h.elim
  rename_i k n hn
  obtain ⟨m,e,h⟩ := h
  refine ⟨_,?_,h⟩
  simp only [qG,qy,hx,hn,e,qp]
 ·split at h <;> try exact h.elim
  rename_i dT l d s ht ha
  split at h <;> try exact h.elim
  rename_i elem hu
  split at h <;> try exact h.elim
  rename_i e he
  obtain ⟨n,H',e1,h⟩ := h
  refine ⟨_,?_,h⟩
  simp only [qG]
  exact qcq ht ha hu he e1
 ·obtain ⟨t,v,f,byPtr,u,e1,e2,e3,e4,h⟩ := h
  refine ⟨_,?_,h⟩
  simp only [qG,jZ,e1,e2,e3,e4]
 ·exact h
def zh : AVal → Bool
 | .ptr _ _ => true
 | .gptr _ _ => true
 | .iface _ _ => true
 | .func (.func _) _ _ => true
 | _ => false
def vres (P : Program) (o : Oper) (ρ : Operand → AVal) (H : Heap) (nx : Nat) (κ : ARes → Prop) : Prop :=
 match o.op with
 | .move x => κ (.val (ρ x) H nx)
 | .assign x => κ (.val (ρ x) H nx)
 | .pick c a b => match ρ c with
  | .bool p => Bool.rec (κ (.val (ρ b) H nx)) (κ (.val (ρ a) H nx)) p
  | _ => False
 | .load t a => VP P t H (ρ a) fun v => κ (.val v H nx)
 | .store t a x => Ws P t H (ρ a) (ρ x) fun H' => κ (.val .und H' nx)
 | .nilCheck x => zh (ρ x) = true ∧ κ (.val (ρ x) H nx)
 | .binOp op t x y _ => vBin P op t x y (ρ x) (ρ y) fun v => κ (.val v H nx)
 | .unOp .neg _ x => match ρ x with
  | .int k n => κ (.val (.int k (k.wrap (0 - n))) H nx)
  | _ => False
 | .unOp .not _ x => match ρ x with
  | .bool b => κ (.val (.bool (!b)) H nx)
  | _ => False
 | .convert s d x => YK P s d (ρ x) H fun v => κ (.val v H nx)
 | .makeInterface t x => match P.underlying t with
  | some d => match vU d with
   | false => κ (.val (.iface t (ρ x)) H nx)
   | true => False
  | none => False
 | .makeFunc fn a b => κ (.val (.func fn (a.toList.map ρ) (b.toList.map ρ)) H nx)
 | .slice t x lo hi mx => Wh P t (ρ x) (lo.map ρ) (hi.map ρ) (mx.map ρ) H fun v => κ (.val v H nx)
 | .fieldAddr s x f => Qh P s f (ρ x) fun v => κ (.val v H nx)
 | .field t x f => match zZ P t x f ρ H nx with
  | some r => κ r
  | none => False
 | .indexAddr t x i => yZ P t (ρ x) (ρ i) fun v => κ (.val v H nx)
 | .index t x i => Wg P t (ρ x) (ρ i) fun v => κ (.val v H nx)
 | .extract t i => match zy t i ρ H nx with
  | some r => κ r
  | none => False
 | .build t ps => V4 P t ps.toList ρ fun cs => κ (.val (.agg cs) H nx)
 | .alloc t => Zt P (.alloc t) ρ fun m => ∃ H',H' = blkN m nx H ∧ κ (.val (m.v nx) H' (Nat.succ nx))
 | .box t x => Zt P (.box t x) ρ fun m => ∃ H',H' = blkN m nx H ∧ κ (.val (m.v nx) H' (Nat.succ nx))
 | .buildSlice t n ps => Zt P (.buildSlice t n ps) ρ fun m => ∃ H',H' = blkN m nx H ∧ κ (.val (m.v nx) H' (Nat.succ nx))
 | .makeSlice t l c => Zt P (.makeSlice t l c) ρ fun m => ∃ H',H' = blkN m nx H ∧ κ (.val (m.v nx) H' (Nat.succ nx))
 | .call c => Yq P c ρ H nx κ
 | .defer c => match c.callee with
  | .value f => WJ P f (ρ f) (c.args.toList.map ρ) fun g as => κ (.dfr g as)
  | _ => False
 | .panic x => ∃ t v,ρ x = .iface t v ∧ κ (.pan (.iface t v))
 | .typeAssert x _ a ok => ∃ v,yH P (ρ x) a ok = some v ∧ Z4 P o.type v fun v => κ (.val v H nx)
 | _ => ∃ r,aop P o ρ H nx = some r ∧ κ r
theorem ZL {op : Op} {ρ : Operand → AVal} {κ : ARes → Prop} (h : Zt P op ρ fun m => ∃ H',H' = blkN m nx H ∧ κ (.val (m.v nx) H' (Nat.succ nx))) : ∃ r,qU P op ρ H nx = some r ∧ κ r := by
 obtain ⟨m,e,hb,_,rfl,h⟩ := Vq h
 refine ⟨_,?_,h⟩
 have hn : Nat.ble (Nat.succ nx) (Nat.succ nx) = true := zj (Nat.le_refl _)
 simp only [qU,e,wX,hb,hn,qb]
 rfl
theorem ZE {o : Oper} {ρ : Operand → AVal} {κ : ARes → Prop} (h : vres P o ρ H nx κ) : ∃ r,aop P o ρ H nx = some r ∧ κ r := by
 unfold vres at h
 unfold aop
 split at h
 ·rename_i e; rw [e]; exact ⟨_,rfl,h⟩
 ·rename_i e; rw [e]; exact ⟨_,rfl,h⟩
 ·rename_i e
  rw [e]
  split at h <;> try exact h.elim
  rename_i p hp
  cases p with
  | true => exact ⟨_,by simp only [jz,hp],h⟩
  | false => exact ⟨_,by simp only [jz,hp],h⟩
 ·rename_i e; rw [e]; obtain ⟨v,e1,h⟩ := Jx h; exact ⟨_,by simp only [jl,e1],h⟩
 ·rename_i e; rw [e]; obtain ⟨v,e1,h⟩ := XB h; exact ⟨_,by simp only [jr,e1],h⟩
 ·rename_i x e
  rw [e]
  obtain ⟨h1,h⟩ := h
  refine ⟨_,?_,h⟩
  show zb x ρ H nx = _
  unfold zb
  unfold zh at h1
  split at h1 <;> first | (cases h1; done) | (rename_i q; simp only [q])
 ·rename_i e; rw [e]; obtain ⟨v,e1,h⟩ := qbz h; exact ⟨_,e1,h⟩
 ·rename_i e
  rw [e]
  split at h <;> try exact h.elim
  rename_i k n hx
  exact ⟨_,by simp only [opUn,hx,qp,zu]; rfl,h⟩
 ·rename_i e
  rw [e]
  split at h <;> try exact h.elim
  rename_i b hx
  exact ⟨_,by simp only [opUn,hx,zY],h⟩
 ·rename_i e; rw [e]; obtain ⟨v,e1,h⟩ := Yp h; exact ⟨_,e1,h⟩
 ·rename_i t x e
  rw [e]
  split at h <;> try exact h.elim
  rename_i d hu
  split at h <;> try exact h.elim
  rename_i hi
  exact ⟨_,by simp only [qB,hu,hi],h⟩
 ·rename_i e; rw [e]; exact ⟨_,rfl,h⟩
 ·rename_i e; rw [e]; obtain ⟨v,e1,h⟩ := XS h; exact ⟨_,e1,h⟩
 ·rename_i e; rw [e]; obtain ⟨v,e1,h⟩ := JR h; exact ⟨_,e1,h⟩
 ·rename_i e; rw [e]; split at h <;> first | exact h.elim | exact ⟨_,‹_›,h⟩
 ·rename_i e; rw [e]; obtain ⟨v,e1,h⟩ := JQ h; exact ⟨_,e1,h⟩
 ·rename_i e; rw [e]; obtain ⟨v,e1,h⟩ := Xm h; exact ⟨_,e1,h⟩
 ·rename_i e; rw [e]; split at h <;> first | exact h.elim | exact ⟨_,‹_›,h⟩
 ·rename_i e; rw [e]; obtain ⟨v,e1,h⟩ := XQ h; exact ⟨_,by simp only [jb,e1],h⟩
 ·rename_i e; rw [e]; exact ZL h
 ·rename_i e; rw [e]; exact ZL h
 ·rename_i e; rw [e]; exact ZL h
 ·rename_i e; rw [e]; exact ZL h
 ·rename_i e; rw [e]; exact YI h
 ·rename_i c e
  rw [e]
  split at h <;> try exact h.elim
  rename_i f hf
  obtain ⟨g,as,e1,h⟩ := KZ h
  refine ⟨_,?_,h⟩
  simp only [jV,hf,kQ,e1]
 ·rename_i e
  rw [e]
  obtain ⟨t,v,e1,h⟩ := h
  exact ⟨_,by simp only [ku,e1],h⟩
 ·rename_i x xt a ok e
  rw [e]
  obtain ⟨v,e1,h⟩ := h
  exact ⟨_,by simp only [zT,e1],Q7 h⟩
 ·exact h
end
end Go.Vs
end
section
namespace Go.Vs
open Go.Ev (qH ks j9 ze jW zV left j6 z0 cls z4 qb zF We Jy)
variable [GTab] {P : Program} {H : Heap} {nx : Nat} {ops : Array Oper} {o : Oper} {nt : Nat} {env : Env}
noncomputable section
abbrev KC := Env → Heap → Nat → Dfs → Option AMode → Prop
abbrev KP := AExit → KC
abbrev EndP := AEnd → Heap → Nat → Prop
abbrev qh := FuncId → List AVal → Heap → Nat → EndP → Prop
abbrev Q1 := FuncId → List AVal → AMode → Heap → Nat → (AEnd → AMode → Heap → Nat → Prop) → Prop
abbrev qj := Code → Env → Heap → Nat → Dfs → Option AMode → KP → Prop
def TriP (P : Program) : qh := fun f args H nx K =>
 ∀ (σ : Sg) (w : World) (args' : List Value) (R : Ending → World → Prop),Rel σ H nx w → DenL σ args args' →
  (∀ e H' nx' σ' w' en,K e H' nx' → Rel σ' H' nx' w' → Ext σ σ' H H' nx nx' w w' → yu σ' e en → R en w') → Calls P f ⟨args'⟩ w R
def jL (P : Program) : Q1 := fun f args m H nx K => zF P f = true ∧
 ∀ (σ : Sg) (w : World) (args' : List Value) (u : FrameMode) (R : Ending → FrameMode → World → Prop),Rel σ H nx w → DenL σ args args' → MRel σ m u →
  (∀ e m' H' nx' σ' w' en u',K e m' H' nx' → Rel σ' H' nx' w' → Ext σ σ' H H' nx nx' w w' → yu σ' e en → MRel σ' m' u' → R en u' w') → CallsD P f ⟨args'⟩ u w R
def Zb (P : Program) (call : qh) : Prop := ∀ f args H nx K,call f args H nx K → TriP P f args H nx K
def qc3 (P : Program) (calld : Q1) : Prop := ∀ f args m H nx K,calld f args m H nx K → jL P f args m H nx K
theorem TriP.mono {f : FuncId} {args : List AVal} {K K' : EndP} (h : TriP P f args H nx K) (hk : ∀ e H' nx',K e H' nx' → K' e H' nx') : TriP P f args H nx K' :=
 fun σ w args' R hr hd hR => h σ w args' R hr hd fun e H' nx' σ' w' en k => hR e H' nx' σ' w' en (hk _ _ _ k)
def qi (e : AEnd) (r : AVal → Prop) (p : List (AVal × Bool) → Prop) : Prop := (∀ v,e = .ret v → r v) ∧ (∀ l,e = .pan l → p l)
def qdx (P : Program) (call : qh) (ty : TypeId) (d : Option Nat) (r : ARes) (env : Env) (H : Heap) (nx : Nat) (dfs : Dfs) (rc : Option AMode) (k : KC) (K : KP) : Prop :=
 match r with
 | .val v H' nx' => k (put d v env) H' nx' dfs rc
 | .call f args => call f args H nx fun e H' nx' => qi e (fun v => Z4 P ty v fun v => k (put d v env) H' nx' dfs rc) (fun l => K (.pan l) env H' nx' dfs rc)
 | .dfr f args => k (put d (.tuple []) env) H nx ((f,args) :: dfs) rc
 | .pan v => K (.pan [(v,false)]) env H nx dfs rc
 | .rcv => match rc with
  | some (.panicking ((v,false) :: older)) => k (put d v env) H nx dfs (some (.panicking ((v,true) :: older)))
  | some .returning => k (put d .nilIface env) H nx dfs rc
  | _ => False
theorem J7 {t : Nat} {v : AVal} (h : get2 t env = v) : set2 t v env = env := by
 funext s
 show (Bool.rec (env s) v (Nat.beq s t) : AVal) = env s
 cases e : Nat.beq s t with
 | false => rfl
 | true => have := Nat.eq_of_beq_eq_true e; subst this; exact h.symm
def ifB (b : Bool) (p q : Prop) : Prop := Bool.rec q p b
theorem qS {b : Bool} {p q : Prop} : ifB b p q ↔ (b = true → p) ∧ (b = false → q) := by cases b <;> simp [ifB]
def Zp (ops : Array Oper) (g : Option (Nat × Bool)) (env : Env) (run skip : Env → Prop) : Prop :=
 match g with
 | none => run env
 | some (j,want) => match (ops[j]?).bind (·.dst) with
  | some t => match Nat.ble t 255 with
   | true => match get2 t env with
    | .bool b => Bool.rec (Bool.rec (run (set2 t (.bool false) env)) (skip (set2 t (.bool false) env)) want) (Bool.rec (skip (set2 t (.bool true) env)) (run (set2 t (.bool true) env)) want) b
    | .tuple [] => skip env
    | _ => False
   | false => False
  | none => skip env
theorem yD {g : Option (Nat × Bool)} {run skip : Env → Prop} (h : Zp ops g env run skip) :
  (qu ops g env = some true ∧ run env) ∨ (qu ops g env = some false ∧ skip env) := by
 unfold Zp at h
 unfold qu
 split at h
 ·exact .inl ⟨rfl,h⟩
 ·rename_i j want
  simp only []
  split at h
  ·rename_i t ht
   split at h <;> try exact h.elim
   rename_i hb
   split at h <;> try exact h.elim
   ·rename_i b hv
    simp only [ht,hb,hv]
    cases b <;> cases want
    all_goals
     simp only [J7 hv] at h
     first
     | exact .inl ⟨by first | rfl | trivial,h⟩
     | exact .inr ⟨by first | rfl | trivial,h⟩
   ·rename_i hv
    simp only [ht,hb,hv]
    exact .inr ⟨by first | rfl | trivial,h⟩
  ·rename_i ht
   simp only [ht]
   exact .inr ⟨by first | rfl | trivial,h⟩
def vOp (P : Program) (call : qh) (nt : Nat) (ops : Array Oper) (o : Oper) (env : Env) (H : Heap) (nx : Nat) (dfs : Dfs) (rc : Option AMode) (k : KC) (K : KP) : Prop :=
 match z0 nt o.dst with
 | true => Zp ops o.guard env (fun env => vres P o (aev env) H nx fun r => qdx P call o.type o.dst r env H nx dfs rc k K) (fun env => k (put o.dst (.tuple []) env) H nx dfs rc)
 | false => False
def vOps (P : Program) (call : qh) (nt : Nat) (ops : Array Oper) (K : KP) : List Oper → KC
 | [] => fun env H nx dfs rc => K .normal env H nx dfs rc
 | o :: l => fun env H nx dfs rc => vOp P call nt ops o env H nx dfs rc (vOps P call nt ops K l) K
def yh (nt : Nat) (K : KP) (σ : Sg) (H : Heap) (nx : Nat) (w : World) (Q : Exit → Act → World → Prop) : Prop :=
 ∀ ex env' H' nx' dfs' σ' w' a' e,K ex env' H' nx' dfs' none → Rel σ' H' nx' w' → Ext σ σ' H H' nx nx' w w' → ARel σ' nt env' dfs' a' → Qw σ' ex e → Q e a' w'
theorem yh.from {K : KP} {σ σ1 : Sg} {H H1 : Heap} {nx nx1 : Nat} {w w1 : World} {Q : Exit → Act → World → Prop} (h : yh nt K σ H nx w Q) (E : Ext σ σ1 H H1 nx nx1 w w1) :
  yh nt K σ1 H1 nx1 w1 Q := fun ex env' H' nx' dfs' σ' w' a' e hk R E2 A X => h ex env' H' nx' dfs' σ' w' a' e hk R (E.trans E2) A X
theorem V9 {call : qh} {dfs : Dfs} {rc : Option AMode} {r : ARes} {k : KC} {K : KP} {ty : TypeId}
  (hc : Zb P call) (hok : OpOK P o (aev env) H nx r) (hdst : z0 nt o.dst = true) (hnr : r ≠ .rcv) (ht : qdx P call ty o.dst r env H nx dfs rc k K)
  {σ : Sg} {w : World} {a : Act} {next : Act → World → Prop} {Q : Exit → Act → World → Prop} (hr : Rel σ H nx w) (ha : ARel σ nt env dfs a)
  (hn : ∀ env1 H1 nx1 dfs1 σ1 w1 a1,k env1 H1 nx1 dfs1 rc → Rel σ1 H1 nx1 w1 → Ext σ σ1 H H1 nx nx1 w w1 → ARel σ1 nt env1 dfs1 a1 → next a1 w1)
  (hp : ∀ l H1 nx1 σ1 w1 c,K (.pan l) env H1 nx1 dfs rc → Rel σ1 H1 nx1 w1 → Ext σ σ1 H H1 nx nx1 w w1 → Chain σ1 l c → Q (.panic c) a w1) :
  We P o a w ∧ o.wp P a w next Q := by
 cases r with
 | val v H' nx' =>
  obtain ⟨σ',w',v',R,E,D,hrun⟩ := hok σ w a.eval hr ha.env.aev
  rcases hrun with hrun | ⟨hrun,rfl⟩
  ·exact ⟨(fun w2 e => by rw [hrun] at e; cases e),by unfold Oper.wp; rw [hrun]; exact hn _ _ _ _ σ' w' _ ht R E ((ha.mono E.sub).put hdst D)⟩
  ·exact ⟨(fun w2 e => by rw [hrun] at e; cases e),by unfold Oper.wp; rw [hrun]; exact hn _ _ _ _ σ' w' _ ht R E ((ha.mono E.sub).put hdst D)⟩
 | call f args =>
  have tri := hc f args H nx _ ht
  obtain ⟨args',hl,hrun⟩ := hok σ w a.eval hr ha.env.aev
  refine ⟨(fun w2 e => by rw [hrun] at e; cases e),?_⟩
  unfold Oper.wp
  rw [hrun]
  show Calls P f ⟨args'⟩ w _
  refine tri σ w args' _ hr hl fun e H' nx' σ' w' en hk R E he => ?_
  cases e with
  | ret v =>
   cases en with
   | returned v' => exact hn _ _ _ _ σ' w' _ (Q7 (hk.1 v rfl)) R E ((ha.mono E.sub).put hdst he)
   | panicked c => exact he.elim
   | outgrown => exact he.elim
  | pan l =>
   cases en with
   | returned v' => exact he.elim
   | panicked c => exact hp l H' nx' σ' w' c (hk.2 l rfl) R E he
   | outgrown => exact he.elim
 | dfr f args =>
  obtain ⟨d,hd,hrun⟩ := hok σ w a.eval hr ha.env.aev
  refine ⟨(fun w2 e => by rw [hrun] at e; cases e),?_⟩
  unfold Oper.wp
  rw [hrun]
  refine hn _ _ _ _ σ w _ ht hr (Ext.refl _ _ _ _) ⟨?_,?_⟩
  ·have h1 : EnvRel σ nt (put o.dst (.tuple []) env) (a.put o.dst undef).tmps := ha.env.put hdst (.tuple .nil)
   have e : (({ a with defers := d :: a.defers } : Act).put o.dst undef).tmps = (a.put o.dst undef).tmps := by cases o.dst <;> rfl
   rw [e]; exact h1
  ·have e : (({ a with defers := d :: a.defers } : Act).put o.dst undef).defers = d :: a.defers := by cases o.dst <;> rfl
   rw [e]; exact .cons hd ha.dfs
 | pan v =>
  obtain ⟨v',dv,hrun⟩ := hok σ w a.eval hr ha.env.aev
  refine ⟨(fun w2 e => by rw [hrun] at e; cases e),?_⟩
  unfold Oper.wp
  rw [hrun]
  exact hp [(v,false)] H nx σ w [{ v := v',recovered := false }] ht hr (Ext.refl _ _ _ _) (.cons dv rfl rfl .nil)
 | rcv => exact (hnr rfl).elim
theorem Zl {call : qh} {K : KP} (hc : Zb P call) : ∀ (l : List Oper) (env : Env) (H : Heap) (nx : Nat) (dfs : Dfs),vOps P call nt ops K l env H nx dfs none →
  ∀ σ w a Q,Rel σ H nx w → ARel σ nt env dfs a → yh nt K σ H nx w Q → wpList P ops Q l a w
 | [],env,H,nx,dfs,h,σ,w,a,Q,hr,ha,hQ => hQ .normal env H nx dfs σ w a .normal h hr (Ext.refl _ _ _ _) ha trivial
 | o :: l,env,H,nx,dfs,h,σ,w,a,Q,hr,ha,hQ => by
  have h' : vOp P call nt ops o env H nx dfs none (vOps P call nt ops K l) K := h
  unfold vOp at h'
  split at h' <;> first | exact h'.elim | skip
  rename_i hdst
  rcases yD h' with ⟨hw,h'⟩ | ⟨hw,h'⟩
  ·obtain ⟨r,hop,h'⟩ := ZE h'
   have hnr : r ≠ .rcv := by
    rintro rfl
    exact h'.elim
   unfold wpList
   rw [if_pos (zp hw ha.env)]
   refine .inl (V9 hc (kC hop) hdst hnr h' hr ha (fun env1 H1 nx1 dfs1 σ1 w1 a1 hk R1 E1 A1 => Zl hc l env1 H1 nx1 dfs1 hk σ1 w1 a1 Q R1 A1 (hQ.from E1)) fun lp H1 nx1 σ1 w1 c hk R1 E1 C1 => ?_).2
   exact hQ (.pan lp) env H1 nx1 dfs σ1 w1 a (.panic c) hk R1 E1 (ha.mono E1.sub) C1
  ·exact Jy (zp hw ha.env) (Zl hc l _ H nx dfs h' σ w _ Q hr (ha.put hdst (.tuple .nil)) hQ)
def dec2 (k : Env → Heap → Prop) : Env → Heap → Bool := fun env H => @decide (k env H) (Classical.propDecidable _)
def dec3 (k : Env → Heap → Nat → Prop) : Env → Heap → Nat → Bool := fun env H nx => @decide (k env H nx) (Classical.propDecidable _)
def decC (call : qh) : zx := fun f args H nx K => @decide (call f args H nx fun e H nx => K e H nx = true) (Classical.propDecidable _)
def decK (K : KP) (env0 : Env) : Kont := fun e _ H nx dfs rc => @decide (K e env0 H nx dfs rc) (Classical.propDecidable _)
theorem ja {p : Prop} : @decide p (Classical.propDecidable _) = true ↔ p := @decide_eq_true_iff p (Classical.propDecidable _)
theorem qdd {call : qh} (hc : Zb P call) : jB P (decC call) := by
 intro f args H nx K h
 exact hc f args H nx _ (ja.1 h)
def KA (P : Program) (ops : Array Oper) (res : Nat) (o : Oper) (i : Nat) (env : Env) (H : Heap) (nx : Nat) (k : Env → Heap → Prop) : Prop :=
 Zp ops o.guard env
  (fun env => match Nat.beq (cls o.op) 1 with
   | true => Zt P o.op (aev env) fun m => ∃ H',H' = blkN m (Nat.add res i) H ∧ k (put o.dst (m.v (Nat.add res i)) env) H'
   | false => vres P o (aev env) H nx fun r => match r with
    | .val v _ _ => k (put o.dst v env) H
    | _ => False)
  (fun env => k (put o.dst (.tuple []) env) H)
theorem XK {res : Nat} {i : Nat} {k : Env → Heap → Prop} (h : KA P ops res o i env H nx k) : zz P ops res o i env H nx (dec2 k) = true := by
 unfold KA at h
 unfold zz
 rcases yD h with ⟨hw,h⟩ | ⟨hw,h⟩
 ·simp only [hw]
  split at h
  ·rename_i hc
   obtain ⟨m,e,hb,_,rfl,h⟩ := Vq h
   simp only [hc,e,hb,qb]
   exact ja.2 h
  ·rename_i hc
   obtain ⟨r,e,h⟩ := ZE h
   simp only [hc,e]
   split at h <;> first | exact h.elim | exact ja.2 h
 ·simp only [hw]
  exact ja.2 h
def yN (P : Program) (ops : Array Oper) (res : Nat) (nx : Nat) (k : Env → Heap → Prop) : List Nat → Env → Heap → Prop
 | [] => k
 | i :: l => fun env H => match ops[i]? with
  | some o => KA P ops res o i env H nx (yN P ops res nx k l)
  | none => False
theorem VJ {res : Nat} {i : Nat} {k k' : Env → Heap → Bool} (h : zz P ops res o i env H nx k = true) (hk : ∀ env H,k env H = true → k' env H = true) :
  zz P ops res o i env H nx k' = true := by
 unfold zz at h ⊢
 split at h <;> try (cases h; done)
 ·split at h
  ·split at h <;> try (cases h; done)
   split at h <;> try (cases h; done)
   rw [qb] at h ⊢
   exact hk _ _ h
  ·split at h <;> first | (cases h; done) | exact hk _ _ h
 ·exact hk _ _ h
theorem Qf {res nx : Nat} {k : Env → Heap → Prop} : ∀ {l : List Nat} {env : Env} {H : Heap},yN P ops res nx k l env H → jt P ops res nx (dec2 k) l env H = true
 | [],_,_,h => ja.2 h
 | i :: l,env,H,h => by
  have h' : (match ops[i]? with | some o => KA P ops res o i env H nx (yN P ops res nx k l) | none => False) := h
  show (match ops[i]? with | some o => zz P ops res o i env H nx (jt P ops res nx (dec2 k) l) | none => false) = true
  split at h' <;> first | exact h'.elim | skip
  rename_i o ho
  try simp only [ho]
  exact VJ (XK h') fun env H hk => Qf (ja.1 hk)
def Jr (P : Program) (ops : Array Oper) (env : Env) (H : Heap) (nx : Nat) : List Nat → Prop
 | [] => True
 | i :: l => (match ops[i]? with
  | some o => Zp ops o.guard env (fun env => vres P o (aev env) H nx fun r => match r with
    | .val v _ _ => (match o.dst with
     | some d => v = get2 d env
     | none => True)
    | _ => False) (fun env => match o.dst with
     | some d => get2 d env = .tuple []
     | none => True)
  | none => False) ∧ Jr P ops env H nx l
theorem Zn : ∀ {l : List Nat},Jr P ops env H nx l → zR P ops env H nx l = true
 | [],_ => rfl
 | i :: l,h => by
  obtain ⟨h1,h2⟩ := h
  show (Bool.rec false (zR P ops env H nx l) (match ops[i]? with | some o => ka P ops env H nx o | none => false) : Bool) = true
  have : (match ops[i]? with | some o => ka P ops env H nx o | none => false) = true := by
   split at h1 <;> try exact h1.elim
   rename_i o ho
   try simp only [ho]
   unfold ka
   rcases yD h1 with ⟨hw,h1⟩ | ⟨hw,h1⟩
   ·simp only [hw]
    obtain ⟨r,e,h1⟩ := ZE h1
    simp only [e]
    split at h1 <;> try exact h1.elim
    simp only []
    split at h1
    ·rename_i d hd; simp only [hd]; exact ja.2 h1
    ·rename_i hd; simp only [hd]
   ·simp only [hw]
    split at h1
    ·rename_i d hd; simp only [hd,h1]
    ·rename_i hd; simp only [hd]
  rw [this]
  exact Zn h2
def vAct (P : Program) (call : qh) (ops : Array Oper) (o : Oper) (env : Env) (H : Heap) (nx : Nat) (dfs : Dfs) (rc : Option AMode) (k : Env → Heap → Nat → Prop) (K : KP) (env0 : Env) : Prop :=
 Zp ops o.guard env
  (fun env => vres P o (aev env) H nx fun r => match r with
   | .val v H' nx' => k (put o.dst v env) H' nx'
   | .call f args => call f args H nx fun e H' nx' => qi e (fun v => Z4 P o.type v fun v => k (put o.dst v env) H' nx') (fun l => K (.pan l) env0 H' nx' dfs rc)
   | .pan v => K (.pan [(v,false)]) env0 H nx dfs rc
   | _ => False)
  (fun env => k (put o.dst (.tuple []) env) H nx)
theorem qcj {call : qh} {dfs : Dfs} {rc : Option AMode} {k : Env → Heap → Nat → Prop} {K : KP} {env0 : Env}
  (hm : ∀ f args H nx (K K' : EndP),call f args H nx K → (∀ e H' nx',K e H' nx' → K' e H' nx') → call f args H nx K')
  (h : vAct P call ops o env H nx dfs rc k K env0) : actK P (decC call) ops o env H nx dfs rc (dec3 k) (decK K env0) env = true := by
 unfold vAct at h
 unfold actK
 rcases yD h with ⟨hw,h⟩ | ⟨hw,h⟩
 ·simp only [hw]
  obtain ⟨r,e,h⟩ := ZE h
  simp only [e]
  split at h <;> try exact h.elim
  ·exact ja.2 h
  ·refine ja.2 (hm _ _ _ _ _ _ h fun e H' nx' he => ?_)
   cases e with
   | ret v => exact ja.2 (Q7 (he.1 v rfl))
   | pan l => exact ja.2 (he.2 l rfl)
  ·exact ja.2 h
 ·simp only [hw]
  exact ja.2 h
def ZM (P : Program) (call : qh) (ops : Array Oper) (res : Nat) (dfs : Dfs) (rc : Option AMode) (K : KP) (env0 : Env) : List (Nat × List Nat × List Nat) → Env → Heap → Nat → Prop
 | [] => fun env H nx => K .normal env H nx dfs rc
 | (e,F,A) :: rest => fun env H nx => match ops[e]? with
  | some o => vAct P call ops o env H nx dfs rc (fun env' H' nx' => yN P ops res nx' (fun env'' H'' => Jr P ops env'' H'' nx' A ∧ ZM P call ops res dfs rc K env0 rest env'' H'' nx') F env' H') K env0
  | none => False
theorem Zw {call : qh} {res : Nat} {dfs : Dfs} {rc : Option AMode} {K : KP} {env0 : Env}
  (hm : ∀ f args H nx (K K' : EndP),call f args H nx K → (∀ e H' nx',K e H' nx' → K' e H' nx') → call f args H nx K') :
  ∀ (rest : List zV) (env : Env) (H : Heap) (nx : Nat),ZM P call ops res dfs rc K env0 rest env H nx →
   RunP P (decC call) ops res dfs rc (fun l H nx => K (.pan l) env0 H nx dfs rc) (fun env H nx => K .normal env H nx dfs rc) rest env H nx
 | [],_,_,_,h => h
 | (e,L,A) :: rest,env,H,nx,h => by
  intro oe hoe
  have h' : (match ops[e]? with
   | some o => vAct P call ops o env H nx dfs rc (fun env' H' nx' => yN P ops res nx' (fun env'' H'' => Jr P ops env'' H'' nx' A ∧ ZM P call ops res dfs rc K env0 rest env'' H'' nx') L env' H') K env0
   | none => False) := h
  rw [hoe] at h'
  refine ⟨_,decK K env0,qcj hm h',fun l H1 nx1 hk => ja.1 hk,fun env1 H1 nx1 hk => ?_⟩
  refine ⟨_,Qf (ja.1 hk),fun env2 H2 hk2 => ?_⟩
  obtain ⟨h1,h2⟩ := ja.1 hk2
  exact ⟨Zn h1,Zw hm rest env2 H2 nx1 h2⟩
def Wt (P : Program) (call : qh) (nt : Nat) (ops : Array Oper) (K : KP) : KC := fun env H nx dfs rc =>
 match Zq nt ops with
 | true => yN P ops nx (Nat.add nx ops.size) (fun env' H' => Jr P ops env' H' (Nat.add nx ops.size) (yX ops) ∧
   ZM P call ops nx dfs rc K (jE ops.toList env) (yw ops) env' H' (Nat.add nx ops.size)) (yP ops) env H
 | false => False
theorem X0 {call : qh} {dfs : Dfs} {rc : Option AMode} {K : KP} (hm : P.follows .mixedOrders = true)
  (hcm : ∀ f args H nx (K K' : EndP),call f args H nx K → (∀ e H' nx',K e H' nx' → K' e H' nx') → call f args H nx K')
  (hc : Zb P call) (h : Wt P call nt ops K env H nx dfs rc) (id : Nat)
  (σ : Sg) (w : World) (a : Act) (Q : Exit → Act → World → Prop) (hr : Rel σ H nx w) (ha : ARel σ nt env dfs a)
  (hQ : ∀ ex env' H' nx' σ' w' a' e,K ex env' H' nx' dfs rc → Rel σ' H' nx' w' → Ext σ σ' H H' nx nx' w w' → ARel σ' nt env' dfs a' → Qw σ' ex e → Q e a' w') :
  (Code.region id ops true).wp P Q a w := by
 unfold Wt at h
 split at h <;> try exact h.elim
 rename_i hplan
 have hlim : nx + ops.size ≤ nx + ops.size := Nat.le_refl _
 unfold Zq at hplan
 split at hplan <;> try (cases hplan; done)
 rename_i past hnt hops hF
 split at hplan <;> try (cases hplan; done)
 rename_i hA hS hcov
 have hn : nt ≤ 256 := Nat.le_of_ble_eq_true hnt
 have F := wH hops
 obtain ⟨env1,H1,hk,b1,b2,b3,b4,b5⟩ := jO F hn hlim (yP ops) [] past env H hF (Qf h)
 obtain ⟨hag0,hk⟩ := ja.1 hk
 have hag : zR P ops env1 H1 (Nat.add nx ops.size) (yX ops) = true := Zn hag0
 have hpast : ∀ i,i ∈ past → ∃ o,ops[i]? = some o ∧ (cls o.op = 0 ∨ cls o.op = 1) := by
  intro i hi
  rcases (ze hF i).1 hi with hi | hi
  ·cases hi
  ·obtain ⟨o,ho,hne⟩ := jW hF i hi
   refine ⟨o,ho,?_⟩
   have : cls o.op = 0 ∨ cls o.op = 1 ∨ cls o.op = 2 := by
    unfold cls
    split <;> first | exact .inl rfl | exact .inr (.inl rfl) | exact .inr (.inr rfl) | skip
    split <;> first | exact .inl rfl | exact .inr (.inr rfl)
   rcases this with h | h | h
   ·exact .inl h
   ·exact .inr h
   ·exact (hne h).elim
 have hblank : ∀ t,t < 256 → get2 t (jE ops.toList env) = .und ∨ ((∀ (j : Nat) (q : Oper),ops[j]? = some q → q.dst ≠ some t) ∧ get2 t (jE ops.toList env) = get2 t env1) := by
  intro t ht
  have hd : ∀ o,o ∈ ops.toList → z0 nt o.dst = true := fun o ho => by
   obtain ⟨i,hi⟩ := List.mem_iff_getElem?.1 ho
   exact F.dst i o (by simpa using hi)
  rcases kH hn ops.toList env t ht hd with h | ⟨h1,h2⟩
  ·exact .inl h
  ·have h3 : ∀ (j : Nat) (q : Oper),ops[j]? = some q → q.dst ≠ some t := fun j q hq => h1 q (by simpa using Array.mem_of_getElem? hq)
   exact .inr ⟨h3,by rw [h2,b1 t ht fun j q _ hq => h3 j q hq]⟩
 have hrun := Zw hcm (yw ops) env1 H1 (Nat.add nx ops.size) hk
 refine wp_region_any hm ?_
 have none' : ∀ b,nx ≤ b → σ b = none := fun b hb => by
  cases e : σ b with
  | none => rfl
  | some p => obtain ⟨cb,sz⟩ := p; have := (hr.dom b cb sz e).1; omega
 have := kb (call := decC call) [] (qdd hc) F hn hlim (yw ops) none past env1 H1 (Nat.add nx ops.size) hS (fun s _ i hi => by cases hi) hpast hblank hrun σ H w Q
  (fun l H' nx' σ' w' a' c hk R E A C => hQ (.pan l) _ H' nx' σ' w' a' (.panic c) hk R E A C)
  (fun env' H' nx' hk hp => QK F hn hp fun σ' w' a' R E A => hQ .normal env' H' nx' σ' w' a' .normal hk R E A trivial)
 rw [List.append_nil] at this
 refine this ops.size _ σ _ a ⟨by simp,ha.env.size,?_,?_,?_,?_,?_,?_,?_,Nat.le_refl _,?_,?_,ha.dfs⟩ ?_
 ·exact fun i j h => (j6 h).elim
 ·exact fun i _ h => j6 h
 ·intro i hi
  have := ks (qH hcov i (List.mem_range.2 hi))
  rcases List.mem_append.1 this with h | h
  ·exact .inl ((ze hF i).2 (.inr h))
  ·exact .inr (.inl h)
 ·intro t ht hown
  rw [b1 t ht fun j q _ hq hd => j6 (hown j q hq hd)]
  exact ha.env.den t ht
 ·intro j q hj hq _ hcl
  cases hip : z4 q.op with
  | true =>
   have h1 := qH hA j hj
   rw [hq] at h1
   simp only [hip] at h1
   have hmem : j ∈ yX ops := by
    split at h1
    ·exact ks ‹_›
    ·rw [j9] at h1; simp at h1
   have h3 := qH hag j hmem
   rw [hq] at h3
   exact kO hcl h3
  | false =>
   rcases (ze hF j).1 hj with hj | hj
   ·cases hj
   ·exact b5 j q hj hq hcl hip
 ·intro j q hj hq _ hcl
  rcases (ze hF j).1 hj with hj | hj
  ·cases hj
  ·exact b4 j q hj hq hcl
 ·exact fun i _ _ => none' _ (by omega)
 ·exact (b3 σ w (hr.more (Nat.le_add_right _ _) hlim) fun j _ => none' _ (by omega)).drew
 ·have E := Ext.drew σ H nx w
  refine ⟨E.sub,E.rng,?_,Nat.le_add_right _ _,rfl,rfl,rfl,Nat.le_refl _,fun _ _ _ => rfl⟩
  intro b hb h0
  exact ⟨h0,b2 b (by omega) fun j _ => by omega⟩
 ·unfold left
  have := List.countP_le_length (p := fun i => !(Array.replicate ops.size false).getD i false) (l := List.range ops.size)
  simpa using this
def Js (c : Operand) (b : Bool) (env : Env) : Env := match c with
 | .tmp t => set2 t (.bool b) env
 | _ => env
theorem Vy {c : Operand} {b : Bool} (h : aev env c = .bool b) : Js c b env = env := by
 cases c with
 | tmp t =>
  have h' : (Bool.rec .und (get2 t env) (Nat.ble t 255) : AVal) = .bool b := h
  cases e : Nat.ble t 255 with
  | false => rw [e] at h'; cases h'
  | true => rw [e] at h'; exact J7 h'
 | const v => rfl
 | global g => rfl
 | func f => rfl
def vK (P : Program) (call : qh) (lp : qj) (nt : Nat) : Code → Env → Heap → Nat → Dfs → Option AMode → KP → Prop
 | .skip => fun env H nx dfs rc K => K .normal env H nx dfs rc
 | .region _ ops false => fun env H nx dfs rc K => vOps P call nt ops K ops.toList env H nx dfs rc
 | .region _ ops true => fun env H nx dfs rc K => Wt P call nt ops K env H nx dfs rc
 | .seq a b => fun env H nx dfs rc K => vK P call lp nt a env H nx dfs rc fun e env H nx dfs rc => match e with
  | .normal => vK P call lp nt b env H nx dfs rc K
  | .exit id => K (.exit id) env H nx dfs rc
  | .ret => K .ret env H nx dfs rc
  | .pan l => K (.pan l) env H nx dfs rc
 | .cond c a b => fun env H nx dfs rc K => match aev env c with
  | .bool p => Bool.rec (vK P call lp nt b (Js c false env) H nx dfs rc K) (vK P call lp nt a (Js c true env) H nx dfs rc K) p
  | _ => False
 | .block id a => fun env H nx dfs rc K => vK P call lp nt a env H nx dfs rc fun e env H nx dfs rc => match e with
  | .normal => K .normal env H nx dfs rc
  | .exit j => match Nat.beq j id with
   | true => K .normal env H nx dfs rc
   | false => K (.exit j) env H nx dfs rc
  | .ret => K .ret env H nx dfs rc
  | .pan l => K (.pan l) env H nx dfs rc
 | .loop a => fun env H nx dfs rc K => lp a env H nx dfs rc K
 | .exit id => fun env H nx dfs rc K => K (.exit id) env H nx dfs rc
 | .ret => fun env H nx dfs rc K => K .ret env H nx dfs rc
 | _ => fun _ _ _ _ _ _ => False
def YW (P : Program) (nt : Nat) (lp : qj) : Prop := ∀ a env H nx dfs K,lp a env H nx dfs none K →
 ∀ σ w act Q,Rel σ H nx w → ARel σ nt env dfs act → yh nt K σ H nx w Q → (Code.loop a).wp P Q act w
theorem KO {call : qh} {lp : qj} (hm : P.follows .mixedOrders = true)
  (hcm : ∀ f args H nx (K K' : EndP),call f args H nx K → (∀ e H' nx',K e H' nx' → K' e H' nx') → call f args H nx K') (hc : Zb P call) (hl : YW P nt lp) :
  ∀ (c : Code) (env : Env) (H : Heap) (nx : Nat) (dfs : Dfs) (K : KP),vK P call lp nt c env H nx dfs none K →
   ∀ σ w a Q,Rel σ H nx w → ARel σ nt env dfs a → yh nt K σ H nx w Q → c.wp P Q a w := by
 intro c
 induction c with
 | skip => exact fun env H nx dfs K h σ w a Q hr ha hQ => wp_skip (hQ .normal env H nx dfs σ w a .normal h hr (Ext.refl _ _ _ _) ha trivial)
 | region id ops draw =>
  intro env H nx dfs K h σ w a Q hr ha hQ
  cases draw with
  | false => exact wp_region_list (Zl hc ops.toList env H nx dfs h σ w a Q hr ha hQ)
  | true => exact X0 hm hcm hc h id σ w a Q hr ha fun ex env' H' nx' σ' w' a' e hk R E A X => hQ ex env' H' nx' dfs σ' w' a' e hk R E A X
 | seq x y ihx ihy =>
  intro env H nx dfs K h σ w a Q hr ha hQ
  refine wp_seq (ihx env H nx dfs _ h σ w a _ hr ha ?_)
  intro ex env' H' nx' dfs' σ' w' a' e hk R E A X
  cases ex with
  | normal => cases e <;> first | exact X.elim | exact ihy env' H' nx' dfs' K hk σ' w' a' Q R A (hQ.from E)
  | exit id => cases e <;> first | exact X.elim | exact hQ _ _ _ _ _ σ' w' a' _ hk R E A X
  | ret => cases e <;> first | exact X.elim | exact hQ _ _ _ _ _ σ' w' a' _ hk R E A X
  | pan l => cases e <;> first | exact X.elim | exact hQ _ _ _ _ _ σ' w' a' _ hk R E A X
 | cond c x y ihx ihy =>
  intro env H nx dfs K h σ w a Q hr ha hQ
  have h' : (match aev env c with
   | .bool p => Bool.rec (vK P call lp nt y (Js c false env) H nx dfs none K) (vK P call lp nt x (Js c true env) H nx dfs none K) p
   | _ => False) := h
  split at h' <;> first | exact h'.elim | skip
  rename_i p hp
  cases p with
  | true =>
   have h2 : vK P call lp nt x (Js c true env) H nx dfs none K := h'
   rw [Vy hp] at h2
   exact wp_cond (t := true) (jR ha hp) (ihx env H nx dfs K h2 σ w a Q hr ha hQ)
  | false =>
   have h2 : vK P call lp nt y (Js c false env) H nx dfs none K := h'
   rw [Vy hp] at h2
   exact wp_cond (t := false) (jR ha hp) (ihy env H nx dfs K h2 σ w a Q hr ha hQ)
 | block id x ihx =>
  intro env H nx dfs K h σ w a Q hr ha hQ
  refine wp_block (ihx env H nx dfs _ h σ w a _ hr ha ?_)
  intro ex env' H' nx' dfs' σ' w' a' e hk R E A X
  cases ex with
  | normal => cases e <;> first | exact X.elim | exact hQ _ _ _ _ _ σ' w' a' _ hk R E A X
  | exit j =>
   cases e <;> try exact X.elim
   have X' : j = _ := X
   subst X'
   cases hb : Nat.beq j id with
   | true =>
    have hid := Nat.eq_of_beq_eq_true hb
    simp only [hb] at hk
    simp only [Exit.inBlock,hid,if_true]
    exact hQ _ _ _ _ _ σ' w' a' .normal hk R E A trivial
   | false =>
    have hid : j ≠ id := fun e => by subst e; simp at hb
    simp only [hb] at hk
    simp only [Exit.inBlock,hid,if_false]
    exact hQ _ _ _ _ _ σ' w' a' _ hk R E A rfl
  | ret => cases e <;> first | exact X.elim | exact hQ _ _ _ _ _ σ' w' a' _ hk R E A X
  | pan l => cases e <;> first | exact X.elim | exact hQ _ _ _ _ _ σ' w' a' _ hk R E A X
 | loop x _ =>
  intro env H nx dfs K h σ w a Q hr ha hQ
  exact hl x env H nx dfs _ h σ w a Q hr ha hQ
 | exit id => exact fun env H nx dfs K h σ w a Q hr ha hQ => wp_exit (hQ _ env H nx dfs σ w a (.exit id) h hr (Ext.refl _ _ _ _) ha rfl)
 | ret => exact fun env H nx dfs K h σ w a Q hr ha hQ => wp_ret (hQ _ env H nx dfs σ w a .ret h hr (Ext.refl _ _ _ _) ha trivial)
 | rangeFunc f p x y => exact fun env H nx dfs K h => h.elim
 | scope x => exact fun env H nx dfs K h => h.elim
 | label l => exact fun env H nx dfs K h => h.elim
 | goto l => exact fun env H nx dfs K h => h.elim
 | refuse s => exact fun env H nx dfs K h => h.elim
def qI (e env : Env) : Prop := ∀ t,t < 256 → e t = .und ∨ e t = env t
theorem qI.refl (e : Env) : qI e e := fun _ _ => .inr rfl
theorem ARel.weaken {σ : Sg} {e env : Env} {dfs : Dfs} {a : Act} (h : ARel σ nt env dfs a) (hle : qI e env) : ARel σ nt e dfs a := by
 refine ⟨⟨h.env.size,h.env.le,fun t ht => ?_⟩,h.dfs⟩
 rcases hle t ht with q | q
 ·show Den σ (e t) _
  rw [q]; exact .und _
 ·show Den σ (e t) _
  rw [q]; exact h.env.den t ht
theorem XF {call : qh} {lp : qj} (hm : P.follows .mixedOrders = true)
  (hcm : ∀ f args H nx (K K' : EndP),call f args H nx K → (∀ e H' nx',K e H' nx' → K' e H' nx') → call f args H nx K') (hc : Zb P call) (hl : YW P nt lp)
  {a : Code} {K : KP} (Inv : Nat → Env → Heap → Nat → Dfs → Prop) (Kx : Nat → Dfs → KP)
  (hKx : ∀ m dfs ex env' H' nx' dfs',Kx m dfs ex env' H' nx' dfs' none → match ex with
   | .normal => ∃ m' env'',m' < m ∧ qI env'' env' ∧ Inv m' env'' H' nx' dfs'
   | ex => ∃ env'',qI env'' env' ∧ K ex env'' H' nx' dfs' none)
  (step : ∀ m env H nx dfs,Inv m env H nx dfs → vK P call lp nt a env H nx dfs none (Kx m dfs))
  {m0 : Nat} {env : Env} {H : Heap} {nx : Nat} {dfs : Dfs} (h0 : Inv m0 env H nx dfs) :
  ∀ σ w act Q,Rel σ H nx w → ARel σ nt env dfs act → yh nt K σ H nx w Q → (Code.loop a).wp P Q act w := by
 intro σ w act Q hr ha hQ
 let J : Nat → Act → World → Prop := fun m act w => ∃ env H nx dfs σ,Inv m env H nx dfs ∧ Rel σ H nx w ∧ ARel σ nt env dfs act ∧ yh nt K σ H nx w Q
 have hJ : J m0 act w := ⟨env,H,nx,dfs,σ,h0,hr,ha,hQ⟩
 have round : ∀ m act w,J m act w → a.wp P (Exit.then (fun a' w' => ∃ m',m' < m ∧ J m' a' w') Q) act w := by
  rintro m act w ⟨env,H,nx,dfs,σ,hI,hr,ha,hQ⟩
  refine KO hm hcm hc hl a env H nx dfs _ (step m env H nx dfs hI) σ w act _ hr ha ?_
  intro ex env' H' nx' dfs' σ' w' a' e hk R E A X
  have hk' := hKx m dfs ex env' H' nx' dfs' hk
  cases ex with
  | normal =>
   cases e <;> try exact X.elim
   obtain ⟨m',env'',hlt,hle,hI'⟩ := hk'
   exact ⟨m',hlt,env'',H',nx',dfs',σ',hI',R,A.weaken hle,hQ.from E⟩
  | exit id =>
   obtain ⟨env'',hle,hk2⟩ := hk'
   cases e <;> first | exact X.elim | exact hQ (.exit id) env'' _ _ _ σ' w' a' _ hk2 R E (A.weaken hle) X
  | ret =>
   obtain ⟨env'',hle,hk2⟩ := hk'
   cases e <;> first | exact X.elim | exact hQ .ret env'' _ _ _ σ' w' a' _ hk2 R E (A.weaken hle) X
  | pan l =>
   obtain ⟨env'',hle,hk2⟩ := hk'
   cases e <;> first | exact X.elim | exact hQ (.pan l) env'' _ _ _ σ' w' a' _ hk2 R E (A.weaken hle) X
 have least : ∀ act w,(∃ m,J m act w) → ∃ m,J m act w ∧ ∀ m',J m' act w → m ≤ m' := by
  rintro act w ⟨m,h⟩
  induction m using Nat.strongRecOn with
  | _ m ih =>
   by_cases hx : ∃ m',m' < m ∧ J m' act w
   ·obtain ⟨m',hlt,h'⟩ := hx
    exact ih m' hlt h'
   ·exact ⟨m,h,fun m' h' => Nat.le_of_not_lt fun hlt => hx ⟨m',hlt,h'⟩⟩
 let μ : Act → World → Nat := fun act w => @dite Nat (∃ m,J m act w) (Classical.propDecidable _) (fun h => Classical.choose (least act w h)) (fun _ => 0)
 have μs : ∀ act w,(∃ m,J m act w) → J (μ act w) act w ∧ ∀ m',J m' act w → μ act w ≤ m' := by
  intro act w h
  have : μ act w = Classical.choose (least act w h) := by simp only [μ,h,dite_true]
  rw [this]
  exact Classical.choose_spec (least act w h)
 refine wp_loop (fun act w => ∃ m,J m act w) μ ⟨m0,hJ⟩ ?_
 intro act w h
 obtain ⟨h1,_⟩ := μs act w h
 refine wp_mono (round _ act w h1) ?_
 intro e a' w' hq
 cases e with
 | normal =>
  obtain ⟨m',hlt,hj⟩ := hq
  exact ⟨⟨m',hj⟩,Nat.lt_of_le_of_lt ((μs a' w' ⟨m',hj⟩).2 m' hj) hlt⟩
 | exit id => exact hq
 | goto l => exact hq
 | ret => exact hq
 | panic c => exact hq
 | outgrown => exact hq
end
end Go.Vs
end
section
namespace Go.Vs
open Go.Ev (zw)
variable [GTab] {P : Program} {H : Heap} {nx : Nat} {env : Env}
noncomputable section
def vRes (P : Program) (env : Env) (H : Heap) : List ResultVar → (List AVal → Prop) → Prop
 | [],k => k []
 | .tmp t :: l,k => match Nat.ble t 255 with
  | true => vRes P env H l fun vs => k (get2 t env :: vs)
  | false => False
 | .cell a t :: l,k => match Nat.ble a 255 with
  | true => VP P t H (get2 a env) fun v => vRes P env H l fun vs => k (v :: vs)
  | false => False
theorem Qv : ∀ {l : List ResultVar} {k : List AVal → Prop},vRes P env H l k → ∃ vs,qX P env H l = some vs ∧ k vs
 | [],_,h => ⟨[],rfl,h⟩
 | .tmp t :: l,k,h => by
  unfold vRes at h
  split at h <;> try exact h.elim
  rename_i hb
  obtain ⟨vs,e,h⟩ := Qv h
  exact ⟨_,by unfold qX; simp only [hb,e],h⟩
 | .cell a t :: l,k,h => by
  unfold vRes at h
  split at h <;> try exact h.elim
  rename_i hb
  obtain ⟨v,e1,h⟩ := Jx h
  obtain ⟨vs,e,h⟩ := Qv h
  exact ⟨_,by unfold qX; simp only [hb,e,e1],h⟩
def wG (P : Program) (calld : Q1) (rs : List ResultVar) (env : Env) : Dfs → AMode → Heap → Nat → EndP → Prop
 | [],m,H,nx,K => match m with
  | .returning => ∃ vs,qX P env H rs = some vs ∧ K (.ret (kY vs)) H nx
  | .panicking l => K (.pan l) H nx
 | (g,args) :: dfs,m,H,nx,K => calld g args m H nx fun e m' H' nx' => qi e (fun _ => wG P calld rs env dfs (wL m') H' nx' K) (fun l => wG P calld rs env dfs (wO m' l) H' nx' K)
theorem Za {calld : Q1} (hcd : qc3 P calld) {fn : Func} {nt : Nat} :
  ∀ (dfs : Dfs) (m : AMode) (H : Heap) (nx : Nat) (K : EndP),wG P calld fn.results.toList env dfs m H nx K →
   ∀ σ w u ds tmps R,Rel σ H nx w → EnvRel σ nt env tmps → DfsRel σ dfs ds → MRel σ m u →
    (∀ e H' nx' σ' w' en,K e H' nx' → Rel σ' H' nx' w' → Ext σ σ' H H' nx nx' w w' → yu σ' e en → R en w') → Leaves P fn tmps R ds u w
 | [],m,H,nx,K,h => by
  intro σ w u ds tmps R hr he hdf hm hR
  cases m with
  | returning =>
   obtain ⟨vs,hvs,h'⟩ := h
   cases hdf
   cases u <;> try exact hm.elim
   obtain ⟨v',dv,hrun⟩ := kI hr he hvs
   exact ⟨v',hrun,hR _ _ _ σ w _ h' hr (Ext.refl _ _ _ _) dv⟩
  | panicking l =>
   cases hdf
   cases u <;> try exact hm.elim
   exact hR (.pan l) H nx σ w _ h hr (Ext.refl _ _ _ _) hm
 | (f,args) :: dfs,m,H,nx,K,h => by
  obtain ⟨hbody,tri⟩ := hcd f args m H nx _ h
  intro σ w u ds tmps R hr he hdf hm hR
  cases hdf with
  | @cons _ _ d _ l' hd ht =>
   obtain ⟨cap,htar,hargs⟩ := hd
   refine ⟨KM hm,.func f,cap,f,d.args ++ cap,htar,?_,?_⟩
   ·rw [htar]
    simp only [invoke]
    exact zw hbody _ w
   ·have hl : (⟨(d.args ++ cap).toList⟩ : Array Value) = d.args ++ cap := rfl
    rw [← hl]
    refine tri σ w _ u _ hr hargs hm fun e m' H1 nx1 σ1 w1 en u1 hk R1 E1 X1 M1 => ?_
    cases e with
    | ret v =>
     cases en with
     | returned v' => exact Za hcd dfs _ H1 nx1 K (hk.1 v rfl) σ1 w1 (settle u1) l' tmps R R1 (he.mono E1.sub) (ht.mono E1.sub) (Q6 M1) fun e2 H2 nx2 σ2 w2 en2 hk2 R2 E2 X2 => hR e2 H2 nx2 σ2 w2 en2 hk2 R2 (E1.trans E2) X2
     | panicked c => exact X1.elim
     | outgrown => exact X1.elim
    | pan l =>
     cases en with
     | returned v' => exact X1.elim
     | panicked c => exact Za hcd dfs _ H1 nx1 K (hk.2 l rfl) σ1 w1 (raised u1 c) l' tmps R R1 (he.mono E1.sub) (ht.mono E1.sub) (Zj M1 X1) fun e2 H2 nx2 σ2 w2 en2 hk2 R2 E2 X2 => hR e2 H2 nx2 σ2 w2 en2 hk2 R2 (E1.trans E2) X2
     | outgrown => exact X1.elim
def LpP (P : Program) (nt : Nat) : qj := fun a env H nx dfs _ K =>
 ∀ σ w act Q,Rel σ H nx w → ARel σ nt env dfs act → yh nt K σ H nx w Q → (Code.loop a).wp P Q act w
theorem Wp (P : Program) (nt : Nat) : YW P nt (LpP P nt) := fun _ _ _ _ _ _ h => h
def q9 (P : Program) (call : qh) (lp : Nat → qj) (f : FuncId) (args : List AVal) (H : Heap) (nx : Nat) (K : List ResultVar → KP) : Prop :=
 match P.funcs[f]? with
 | some fn => match fn.body,Nat.ble fn.ntmps 256,Nat.ble args.length fn.ntmps with
  | some c,true,true => vK P call (lp fn.ntmps) fn.ntmps c (jY args 0 (all2 (.tuple []))) H nx [] none (K fn.results.toList)
  | _,_,_ => False
 | none => False
def vW (env : Env) : List ResultVar → Option (List AVal)
 | [] => some []
 | .tmp t :: l => match Nat.ble t 255,vW env l with
  | true,some vs => some (get2 t env :: vs)
  | _,_ => none
 | .cell _ _ :: _ => none
theorem Kc : ∀ {l : List ResultVar} {vs : List AVal} {k : List AVal → Prop},vW env l = some vs → k vs → vRes P env H l k
 | [],_,_,e,h => by cases e; exact h
 | .tmp t :: l,vs,k,e,h => by
  unfold vW at e
  split at e <;> try (cases e; done)
  rename_i vs' hb hl
  cases e
  unfold vRes
  simp only [hb]
  exact Kc hl h
 | .cell _ _ :: _,_,_,e,_ => by cases e
abbrev ql := List AVal → Dfs → AMode → Heap → Nat → EndP → Prop
inductive RVal where
 | val (v : AVal)
 | cell (p : AVal) (t : TypeId)
abbrev qk := List RVal → Dfs → AMode → Heap → Nat → EndP → Prop
def rvOK : List ResultVar → Bool
 | [] => true
 | .tmp t :: l => match Nat.ble t 255 with
  | true => rvOK l
  | false => false
 | .cell a _ :: l => match Nat.ble a 255 with
  | true => rvOK l
  | false => false
def yQ (env : Env) : List ResultVar → List RVal
 | [] => []
 | .tmp t :: l => .val (get2 t env) :: yQ env l
 | .cell a t :: l => .cell (get2 a env) t :: yQ env l
def WX (P : Program) (H : Heap) : List RVal → (List AVal → Prop) → Prop
 | [],k => k []
 | .val v :: l,k => WX P H l fun vs => k (v :: vs)
 | .cell p t :: l,k => VP P t H p fun v => WX P H l fun vs => k (v :: vs)
theorem Jj : ∀ {rs : List ResultVar} {k : List AVal → Prop},rvOK rs = true → WX P H (yQ env rs) k → ∃ vs,qX P env H rs = some vs ∧ k vs
 | [],_,_,h => ⟨[],rfl,h⟩
 | .tmp t :: l,k,e,h => by
  cases hb : Nat.ble t 255 with
  | false => unfold rvOK at e; rw [hb] at e; cases e
  | true =>
   unfold rvOK at e; rw [hb] at e
   obtain ⟨vs,e1,h⟩ := Jj e h
   exact ⟨_,by unfold qX; simp only [hb,e1],h⟩
 | .cell a t :: l,k,e,h => by
  cases hb : Nat.ble a 255 with
  | false => unfold rvOK at e; rw [hb] at e; cases e
  | true =>
   unfold rvOK at e; rw [hb] at e
   obtain ⟨v,e1,h⟩ := Jx h
   obtain ⟨vs,e2,h⟩ := Jj e h
   exact ⟨_,by unfold qX; simp only [hb,e1,e2],h⟩
def wZ (P : Program) (calld : Q1) : qk := fun rv dfs => match dfs with
 | [] => fun m H nx K => match m with
  | .returning => WX P H rv fun vs => K (.ret (kY vs)) H nx
  | .panicking l => K (.pan l) H nx
 | (g,args) :: dfs => fun m H nx K => calld g args m H nx fun e m' H' nx' => qi e (fun _ => wZ P calld rv dfs (wL m') H' nx' K) (fun l => wZ P calld rv dfs (wO m' l) H' nx' K)
def Qs (calld : Q1) : ql := fun vs dfs => match dfs with
 | [] => fun m H nx K => match m with
  | .returning => K (.ret (kY vs)) H nx
  | .panicking l => K (.pan l) H nx
 | (g,args) :: dfs => fun m H nx K => calld g args m H nx fun e m' H' nx' => qi e (fun _ => Qs calld vs dfs (wL m') H' nx' K) (fun l => Qs calld vs dfs (wO m' l) H' nx' K)
theorem JM (P : Program) {f : FuncId} {args : List AVal} {m : AMode} {K K' : AEnd → AMode → Heap → Nat → Prop} (h : jL P f args m H nx K) (hk : ∀ e m' H' nx',K e m' H' nx' → K' e m' H' nx') : jL P f args m H nx K' :=
 ⟨h.1,fun σ w args' u R hr hd hm hR => h.2 σ w args' u R hr hd hm fun e m' H' nx' σ' w' en u' k => hR e m' H' nx' σ' w' en u' (hk _ _ _ _ k)⟩
theorem yA {rs : List ResultVar} {vs : List AVal} {K : EndP} (e : vW env rs = some vs) : ∀ {dfs : Dfs} {m : AMode} {H : Heap} {nx : Nat},Qs (jL P) vs dfs m H nx K → wG P (jL P) rs env dfs m H nx K
 | [],m,H,nx,h => by
  cases m with
  | returning => exact Qv (Kc (P := P) (H := H) (k := fun vs => K (.ret (kY vs)) H nx) e h)
  | panicking l => exact h
 | (g,args) :: dfs,m,H,nx,h => by
  refine JM P h fun e' m' H' nx' hk => ⟨fun v hv => ?_,fun l hl => ?_⟩
  ·exact yA e (hk.1 v hv)
  ·exact yA e (hk.2 l hl)
theorem wB {rs : List ResultVar} {K : EndP} (e : rvOK rs = true) : ∀ {dfs : Dfs} {m : AMode} {H : Heap} {nx : Nat},wZ P (jL P) (yQ env rs) dfs m H nx K → wG P (jL P) rs env dfs m H nx K
 | [],m,H,nx,h => by
  cases m with
  | returning => exact Jj e h
  | panicking l => exact h
 | (g,args) :: dfs,m,H,nx,h => by
  refine JM P h fun e' m' H' nx' hk => ⟨fun v hv => ?_,fun l hl => ?_⟩
  ·exact wB e (hk.1 v hv)
  ·exact wB e (hk.2 l hl)
def endK (P : Program) (lv : ql) (lvc : qk) (K : EndP) (rs : List ResultVar) : KP := fun e env H nx dfs _ => match e with
 | .normal => match dfs with
  | [] => vRes P env H rs fun vs => K (.ret (kY vs)) H nx
  | d :: ds => match vW env rs with
   | some vs => lv vs (d :: ds) .returning H nx K
   | none => match rvOK rs with
    | true => lvc (yQ env rs) (d :: ds) .returning H nx K
    | false => False
 | .ret => match dfs with
  | [] => vRes P env H rs fun vs => K (.ret (kY vs)) H nx
  | d :: ds => match vW env rs with
   | some vs => lv vs (d :: ds) .returning H nx K
   | none => match rvOK rs with
    | true => lvc (yQ env rs) (d :: ds) .returning H nx K
    | false => False
 | .pan l => match dfs with
  | [] => K (.pan l) H nx
  | d :: ds => match vW env rs with
   | some vs => lv vs (d :: ds) (.panicking l) H nx K
   | none => match rvOK rs with
    | true => lvc (yQ env rs) (d :: ds) (.panicking l) H nx K
    | false => False
 | .exit _ => False
theorem qd9 {K : EndP} {rs : List ResultVar} {dfs : Dfs} {rc : Option AMode} {e : AExit} (h : endK P (Qs (jL P)) (wZ P (jL P)) K rs e env H nx dfs rc) :
  match e with
  | .normal => wG P (jL P) rs env dfs .returning H nx K
  | .ret => wG P (jL P) rs env dfs .returning H nx K
  | .pan l => wG P (jL P) rs env dfs (.panicking l) H nx K
  | .exit _ => False := by
 cases e with
 | exit _ => exact h
 | normal =>
  cases dfs with
  | nil => exact Qv (k := fun vs => K (.ret (kY vs)) H nx) h
  | cons d ds =>
   have h' : (match vW env rs with
    | some vs => Qs (jL P) vs (d :: ds) .returning H nx K
    | none => match rvOK rs with
     | true => wZ P (jL P) (yQ env rs) (d :: ds) .returning H nx K
     | false => False) := h
   split at h'
   ·exact yA ‹_› h'
   ·split at h' <;> first | exact h'.elim | exact wB ‹_› h'
 | ret =>
  cases dfs with
  | nil => exact Qv (k := fun vs => K (.ret (kY vs)) H nx) h
  | cons d ds =>
   have h' : (match vW env rs with
    | some vs => Qs (jL P) vs (d :: ds) .returning H nx K
    | none => match rvOK rs with
     | true => wZ P (jL P) (yQ env rs) (d :: ds) .returning H nx K
     | false => False) := h
   split at h'
   ·exact yA ‹_› h'
   ·split at h' <;> first | exact h'.elim | exact wB ‹_› h'
 | pan l =>
  cases dfs with
  | nil => exact h
  | cons d ds =>
   have h' : (match vW env rs with
    | some vs => Qs (jL P) vs (d :: ds) (.panicking l) H nx K
    | none => match rvOK rs with
     | true => wZ P (jL P) (yQ env rs) (d :: ds) (.panicking l) H nx K
     | false => False) := h
   split at h'
   ·exact yA ‹_› h'
   ·split at h' <;> first | exact h'.elim | exact wB ‹_› h'
theorem Zk (P : Program) : ∀ f args H nx (K K' : EndP),TriP P f args H nx K → (∀ e H' nx',K e H' nx' → K' e H' nx') → TriP P f args H nx K' := fun _ _ _ _ _ _ h hk => h.mono hk
theorem TriP.of_body (hm : P.follows .mixedOrders = true) {f : FuncId} {args : List AVal} {K : EndP}
  (h : q9 P (TriP P) (LpP P) f args H nx (endK P (Qs (jL P)) (wZ P (jL P)) K)) : TriP P f args H nx K := by
 unfold q9 at h
 split at h <;> try exact h.elim
 rename_i fn hf
 split at h <;> try exact h.elim
 rename_i c hb hn ha
 have hn' : fn.ntmps ≤ 256 := Nat.le_of_ble_eq_true hn
 have ha' : args.length ≤ fn.ntmps := Nat.le_of_ble_eq_true ha
 intro σ w args' R hr hda hR
 refine calls_of_wp_defers hf hb ?_
 have hEnv := yM hn' ha' hda
 refine KO hm (Zk P) (fun _ _ _ _ _ h => h) (Wp P _) c _ H nx [] _ h σ w _ _ hr ⟨hEnv,.nil⟩ ?_
 intro ex env' H' nx' dfs' σ' w' a' e hk R1 E1 A1 X1
 have fin : ∀ m u,MRel σ' m u → wG P (jL P) fn.results.toList env' dfs' m H' nx' K → Leaves P fn a'.tmps R a'.defers u w' := by
  intro m u hmu hlv
  exact Za (fn := fn) (nt := fn.ntmps) (fun _ _ _ _ _ _ h => h) dfs' m H' nx' K hlv σ' w' u a'.defers a'.tmps R R1 A1.env A1.dfs hmu
   fun e2 H2 nx2 σ2 w2 en2 hk2 R2 E2 X2 => hR e2 H2 nx2 σ2 w2 en2 hk2 R2 (E1.trans E2) X2
 have hk := qd9 hk
 cases ex with
 | normal => cases e <;> first | exact X1.elim | exact fin .returning .returning trivial hk
 | ret => cases e <;> first | exact X1.elim | exact fin .returning .returning trivial hk
 | pan l =>
  cases e <;> try exact X1.elim
  exact fin (.panicking l) (.panicking _) X1 hk
 | exit i => exact hk.elim
end
end Go.Vs
end
section
namespace Go.Vs
variable [GTab] {env : Env}
noncomputable section
def qY : Code → List Nat → Code
 | .seq a _,0 :: p => qY a p
 | .seq _ b,_ :: p => qY b p
 | .cond _ a _,0 :: p => qY a p
 | .cond _ _ b,_ :: p => qY b p
 | .block _ a,_ :: p => qY a p
 | .loop a,_ :: p => qY a p
 | c,_ => c
def zW (P : Program) (call : qh) (lp : qj) (nt : Nat) : Code → List Nat → KP → KP
 | .seq a b,0 :: p,K => zW P call lp nt a p fun e env H nx dfs rc => match e with
  | .normal => vK P call lp nt b env H nx dfs rc K
  | .exit id => K (.exit id) env H nx dfs rc
  | .ret => K .ret env H nx dfs rc
  | .pan l => K (.pan l) env H nx dfs rc
 | .seq _ b,_ :: p,K => zW P call lp nt b p K
 | .cond _ a _,0 :: p,K => zW P call lp nt a p K
 | .cond _ _ b,_ :: p,K => zW P call lp nt b p K
 | .block id a,_ :: p,K => zW P call lp nt a p fun e env H nx dfs rc => match e with
  | .normal => K .normal env H nx dfs rc
  | .exit j => match Nat.beq j id with
   | true => K .normal env H nx dfs rc
   | false => K (.exit j) env H nx dfs rc
  | .ret => K .ret env H nx dfs rc
  | .pan l => K (.pan l) env H nx dfs rc
 | _,_,K => K
def envL (base : AVal) : List (Nat × AVal) → Env
 | [] => all2 base
 | (t,v) :: l => set2 t v (envL base l)
def Y9 (env : Env) : List (Nat × AVal) → Prop
 | [] => True
 | (t,v) :: l => env t = v ∧ Y9 env l
theorem qI.of_list : ∀ {l : List (Nat × AVal)},Y9 env l → qI (envL .und l) env
 | [],_ => fun _ _ => .inl rfl
 | (t,v) :: l,⟨h,hl⟩ => fun s hs => by
  show (Bool.rec (envL .und l s) v (Nat.beq s t) : AVal) = .und ∨ (Bool.rec (envL .und l s) v (Nat.beq s t) : AVal) = env s
  cases e : Nat.beq s t with
  | true => have := Nat.eq_of_beq_eq_true e; subst this; exact .inr h.symm
  | false => exact qI.of_list hl s hs
def qs (P : Program) (f : FuncId) : Code := match P.funcs[f]? with
 | some fn => match fn.body with
  | some c => c
  | none => .skip
 | none => .skip
def kj (P : Program) (f : FuncId) : List ResultVar := match P.funcs[f]? with
 | some fn => fn.results.toList
 | none => []
def newB (b : Nat) (cs : List AVal) (H : Heap) : Heap := set5 b (some (.cells cs.length (CT.ofL cs.length cs) [] false)) H
def kB (b n : Nat) (cs : List AVal) (H : Heap) : Heap := set5 b (some (.cells n (CT.ofL n cs) [] false)) H
def jT (N : KC) (X : Nat → KC) (R : KC) (Pn : List (AVal × Bool) → KC) : KP := fun e env H nx dfs rc => match e with
 | .normal => N env H nx dfs rc
 | .exit id => X id env H nx dfs rc
 | .ret => R env H nx dfs rc
 | .pan l => Pn l env H nx dfs rc
theorem KG {P : Program} (hm : P.follows .mixedOrders = true) {nt : Nat} {a : Code} {K : KP} {X Y : Type} (canon : X → Env) (canonY : Y → Env)
  (I : Nat → X → Heap → Nat → Prop) (J : Nat → Y → Heap → Nat → Prop) {env : Env} {H : Heap} {nx : Nat} {dfs : Dfs} {rc : Option AMode} (m0 : Nat) (x0 : X)
  (hle : qI (canon x0) env) (h0 : I m0 x0 H nx)
  (step : ∀ m x H nx,I m x H nx → vK P (TriP P) (LpP P nt) nt a (canon x) H nx dfs none
   (jT (fun env' H' nx' dfs' _ => dfs' = dfs ∧ ∃ m' x',m' < m ∧ qI (canon x') env' ∧ I m' x' H' nx')
    (fun id env' H' nx' dfs' _ => dfs' = dfs ∧ ∃ y,qI (canonY y) env' ∧ J id y H' nx')
    (fun env' H' nx' dfs' rc' => K .ret env' H' nx' dfs' rc') (fun l env' H' nx' dfs' rc' => K (.pan l) env' H' nx' dfs' rc')))
  (after : ∀ id y H nx,J id y H nx → K (.exit id) (canonY y) H nx dfs none) :
  LpP P nt a env H nx dfs rc K := by
 intro σ w act Q hr ha hQ
 refine XF (call := TriP P) (lp := LpP P nt) hm (Zk P) (fun _ _ _ _ _ h => h) (Wp P nt) (K := K)
  (fun m env' H' nx' dfs' => dfs' = dfs ∧ ∃ x,env' = canon x ∧ I m x H' nx')
  (fun m _ => jT (fun env' H' nx' dfs' _ => dfs' = dfs ∧ ∃ m' x',m' < m ∧ qI (canon x') env' ∧ I m' x' H' nx')
    (fun id env' H' nx' dfs' _ => dfs' = dfs ∧ ∃ y,qI (canonY y) env' ∧ J id y H' nx')
    (fun env' H' nx' dfs' rc' => K .ret env' H' nx' dfs' rc') (fun l env' H' nx' dfs' rc' => K (.pan l) env' H' nx' dfs' rc')) ?_ ?_
  (m0 := m0) (env := canon x0) (H := H) (nx := nx) (dfs := dfs) ⟨rfl,x0,rfl,h0⟩ σ w act Q hr (ha.weaken hle) hQ
 ·intro m dfs1 ex env' H' nx' dfs' h
  cases ex with
  | normal =>
   obtain ⟨h1,m',x',h2,h3,h4⟩ := h
   exact ⟨m',canon x',h2,h3,h1,x',rfl,h4⟩
  | exit id =>
   obtain ⟨rfl,y,h2,h3⟩ := h
   exact ⟨canonY y,h2,after id y H' nx' h3⟩
  | ret => exact ⟨env',qI.refl _,h⟩
  | pan l => exact ⟨env',qI.refl _,h⟩
 ·rintro m env' H' nx' dfs' ⟨rfl,x,rfl,hI⟩
  exact step m x H' nx' hI
end
end Go.Vs
end
section
namespace Go.Vs
variable [GTab] {H : Heap}
noncomputable section
theorem kD (b : Nat) (cs : List AVal) (H : Heap) : newB b cs H b = some (.cells cs.length cs [] false) := by
 show get5 b (set5 b _ H) = _
 rw [qg,CT.ofL_eq rfl]
theorem jd {b c : Nat} {cs : List AVal} (h : c ≠ b) : newB b cs H c = H c := by
 show get5 c (set5 b _ H) = get5 c H
 exact qr (fun e => h e.symm) (by omega) (by omega)
def Has (H : Heap) (b : Nat) (cs : List AVal) : Prop := H b = some (.cells cs.length cs [] false)
theorem W3 (b : Nat) (cs : List AVal) (H : Heap) : Has (newB b cs H) b cs := kD b cs H
theorem Has.ne {b c : Nat} {cs ds : List AVal} (h : Has H c cs) (hne : c ≠ b) : Has (newB b ds H) c cs := (jd hne).trans h
theorem qa0 {l ct : List AVal} {off n : Nat} (hn : ct.length = n) (h : off + l.length ≤ n) : relay l l.length off n ct = ct.take off ++ l ++ ct.drop (off + l.length) := by
 unfold relay
 split
 ·rename_i h1 h2 _
  have e1 := Nat.eq_of_beq_eq_true h1
  have e2 := Nat.eq_of_beq_eq_true h2
  subst e1
  rw [CT.ofL_eq e2]
  simp only [List.take_zero,List.nil_append,Nat.zero_add]
  rw [List.drop_eq_nil_of_le (by omega)]
  simp
 ·exact CT.lay_eq (by omega)
def qC (cs : List AVal) (off : Nat) (vs : List AVal) : List AVal := cs.take off ++ vs ++ cs.drop (off + vs.length)
theorem kP {cs vs : List AVal} {off : Nat} (h : off + vs.length ≤ cs.length) : (qC cs off vs).length = cs.length := by
 simp [qC]; omega
theorem XV {b n : Nat} {cs : List AVal} (h : cs.length = n) : set5 b (some (.cells n cs [] false)) H = newB b cs H := by
 subst h
 unfold newB
 rw [CT.ofL_eq rfl]
theorem Yy {b off : Nat} {cs vs : List AVal} (h : Has H b cs) (ho : off + vs.length ≤ cs.length) (hv : qo vs = true) :
  stC H (.ptr b off) vs = some (newB b (qC cs off vs) H) := by
 unfold stC
 simp only [get5]
 rw [h]
 have : Nat.ble (Nat.add off vs.length) cs.length = true := zj ho
 simp only [this,hv]
 rw [qa0 rfl ho]
 have e : dels [] H = H := rfl
 rw [e]
 exact congrArg some (XV (kP ho))
theorem X3 (b : Nat) (cs ds : List AVal) (H : Heap) : newB b cs (newB b ds H) = newB b cs H := by
 funext c
 by_cases h : c = b
 ·subst h; rw [kD,kD]
 ·rw [jd h,jd h,jd h]
theorem qd {v : AVal} {r : AVal → Prop} {p : List (AVal × Bool) → Prop} : qi (.ret v) r p ↔ r v := by simp [qi]
theorem qt (b off c : Nat) : qJ (.ptr b off) c = some (.ptr b (off + c)) := rfl
theorem qW {b off len e n esz : Nat} {full : Bool} (h : n < len) : idxS (.slice b off len e full) n esz = some (.ptr b (off + n * esz)) := by
 have : Nat.ble (Nat.succ n) len = true := zj h
 simp only [idxS,this]
 rfl
theorem w8 {b off len e : Nat} {full : Bool} : lenS (.slice b off len e full) = some len := rfl
theorem qP {n : Int} (h0 : -9223372036854775808 ≤ n) (h1 : n ≤ 9223372036854775807) : IntKind.i64.wrap n = n := IntWalk.i64_in _ (by omega)
theorem qc6 {b off : Nat} {cs vs : List AVal} (ho : off + vs.length ≤ cs.length) (hv : qo vs = true) :
  stC (newB b cs H) (.ptr b off) vs = some (newB b (qC cs off vs) H) := by
 rw [Yy (W3 b cs H) ho hv,X3]
theorem ZQ {b : Nat} {cs vs : List AVal} (ho : vs.length = cs.length) (hv : qo vs = true) :
  stC (newB b cs H) (.ptr b 0) vs = some (newB b vs H) := by
 rw [qc6 (by omega) hv]
 unfold qC
 rw [List.take_zero,List.nil_append,List.drop_eq_nil_of_le (by omega),List.append_nil]
theorem qz {α : Type} {a b : α} : (some a = some b) = (a = b) := by simp
end
end Go.Vs
end
section
namespace Go.Vs
variable [GTab] {P : Program} {H : Heap} {nx : Nat} {nt : Nat} {env : Env}
noncomputable section
def WpP (P : Program) (nt : Nat) (c : Code) (env : Env) (H : Heap) (nx : Nat) (dfs : Dfs) (K : KP) : Prop :=
 ∀ σ w act Q,Rel σ H nx w → ARel σ nt env dfs act → yh nt K σ H nx w Q → c.wp P Q act w
section
variable {P : Program} {nt : Nat} {c a b : Code} {env e : Env} {H : Heap} {nx : Nat} {dfs : Dfs} {K K' : KP}
theorem WpP.of_vK (hm : P.follows .mixedOrders = true) (h : vK P (TriP P) (LpP P nt) nt c env H nx dfs none K) : WpP P nt c env H nx dfs K :=
 KO hm (Zk P) (fun _ _ _ _ _ h => h) (Wp P nt) c env H nx dfs K h
theorem WpP.weaken (hle : qI e env) (h : WpP P nt c e H nx dfs K) : WpP P nt c env H nx dfs K :=
 fun σ w act Q hr ha hQ => h σ w act Q hr (ha.weaken hle) hQ
theorem WpP.mono (h : WpP P nt c env H nx dfs K) (hk : ∀ ex env' H' nx' dfs',K ex env' H' nx' dfs' none → K' ex env' H' nx' dfs' none) : WpP P nt c env H nx dfs K' :=
 fun σ w act Q hr ha hQ => h σ w act Q hr ha fun ex env' H' nx' dfs' σ' w' a' e k R E A X => hQ ex env' H' nx' dfs' σ' w' a' e (hk _ _ _ _ _ k) R E A X
def trim (ts : List Nat) (env : Env) : Env := envL .und (ts.map fun t => (t,env t))
theorem qbx (ts : List Nat) (env : Env) : qI (trim ts env) env := by
 refine qI.of_list ?_
 induction ts with
 | nil => trivial
 | cons t ts ih => exact ⟨rfl,ih⟩
def vx (ts : List Nat) (K : KP) : KP := fun ex env H nx dfs rc => K ex (trim ts env) H nx dfs rc
theorem WpP.trim {ts : List Nat} (h : WpP P nt c env H nx dfs (vx ts K)) : WpP P nt c env H nx dfs K :=
 fun σ w act Q hr ha hQ => h σ w act Q hr ha fun ex env' H' nx' dfs' σ' w' a' e k R E A X => hQ ex _ H' nx' dfs' σ' w' a' e k R E (A.weaken (qbx ts env')) X
def qhj (b : Env → Heap → Nat → Dfs → Prop) (K : KP) : KP := fun ex env H nx dfs rc => match ex with
 | .normal => b env H nx dfs
 | .exit id => K (.exit id) env H nx dfs rc
 | .ret => K .ret env H nx dfs rc
 | .pan l => K (.pan l) env H nx dfs rc
theorem WpP.seq (h : WpP P nt a env H nx dfs (qhj (fun env H nx dfs => WpP P nt b env H nx dfs K) K)) : WpP P nt (.seq a b) env H nx dfs K := by
 intro σ w act Q hr ha hQ
 refine wp_seq (h σ w act _ hr ha ?_)
 intro ex env' H' nx' dfs' σ' w' a' e hk R E A X
 cases ex with
 | normal => cases e <;> first | exact X.elim | exact hk σ' w' a' Q R A (hQ.from E)
 | exit id => cases e <;> first | exact X.elim | exact hQ _ _ _ _ _ σ' w' a' _ hk R E A X
 | ret => cases e <;> first | exact X.elim | exact hQ _ _ _ _ _ σ' w' a' _ hk R E A X
 | pan l => cases e <;> first | exact X.elim | exact hQ _ _ _ _ _ σ' w' a' _ hk R E A X
theorem WpP.cond {x : Operand} {p : Bool} (hp : aev env x = .bool p) (h : WpP P nt (match p with | true => a | false => b) env H nx dfs K) : WpP P nt (.cond x a b) env H nx dfs K := by
 intro σ w act Q hr ha hQ
 cases p with
 | true => exact wp_cond (t := true) (jR ha hp) (h σ w act Q hr ha hQ)
 | false => exact wp_cond (t := false) (jR ha hp) (h σ w act Q hr ha hQ)
def qgb (i : Nat) (K : KP) : KP := fun ex env H nx dfs rc => match ex with
 | .exit j => if j = i then K .normal env H nx dfs rc else K (.exit j) env H nx dfs rc
 | .normal => K .normal env H nx dfs rc
 | .ret => K .ret env H nx dfs rc
 | .pan l => K (.pan l) env H nx dfs rc
theorem WpP.block {i : Nat} (h : WpP P nt a env H nx dfs (qgb i K)) : WpP P nt (.block i a) env H nx dfs K := by
 intro σ w act Q hr ha hQ
 refine wp_block (h σ w act _ hr ha ?_)
 intro ex env' H' nx' dfs' σ' w' a' e hk R E A X
 cases ex with
 | normal => cases e <;> first | exact X.elim | exact hQ _ _ _ _ _ σ' w' a' _ hk R E A X
 | exit j =>
  cases e <;> try exact X.elim
  rename_i j'
  have hj : j = j' := by first | exact X | exact X.symm
  subst hj
  have hk' : (if j = i then K .normal env' H' nx' dfs' none else K (.exit j) env' H' nx' dfs' none) := hk
  show (if j = i then Q .normal a' w' else Q (.exit j) a' w')
  by_cases hji : j = i
  ·rw [if_pos hji] at hk' ⊢
   exact hQ .normal _ _ _ _ σ' w' a' _ hk' R E A trivial
  ·rw [if_neg hji] at hk' ⊢
   exact hQ (.exit j) _ _ _ _ σ' w' a' _ hk' R E A (by first | exact rfl | exact X)
 | ret => cases e <;> first | exact X.elim | exact hQ _ _ _ _ _ σ' w' a' _ hk R E A X
 | pan l => cases e <;> first | exact X.elim | exact hQ _ _ _ _ _ σ' w' a' _ hk R E A X
theorem WpP.skip (h : K .normal env H nx dfs none) : WpP P nt .skip env H nx dfs K := by
 intro σ w act Q hr ha hQ
 exact wp_skip (hQ .normal env H nx dfs σ w act _ h hr (Ext.refl _ _ _ _) ha trivial)
theorem LpP.of_wp (h : WpP P nt (.loop a) env H nx dfs K) {rc : Option AMode} : LpP P nt a env H nx dfs rc K := fun σ w act Q hr ha hQ => h σ w act Q hr ha hQ
end
theorem VG {a : Code} {K : KP} (Inv : Nat → Env → Heap → Nat → Dfs → Prop) (Kx : Nat → Dfs → KP)
  (hKx : ∀ m dfs ex env' H' nx' dfs',Kx m dfs ex env' H' nx' dfs' none → match ex with
   | .normal => ∃ m' env'',m' < m ∧ qI env'' env' ∧ Inv m' env'' H' nx' dfs'
   | ex => ∃ env'',qI env'' env' ∧ K ex env'' H' nx' dfs' none)
  (step : ∀ m env H nx dfs,Inv m env H nx dfs → WpP P nt a env H nx dfs (Kx m dfs))
  {m0 : Nat} {env : Env} {H : Heap} {nx : Nat} {dfs : Dfs} (h0 : Inv m0 env H nx dfs) : WpP P nt (.loop a) env H nx dfs K := by
 intro σ w act Q hr ha hQ
 let J : Nat → Act → World → Prop := fun m act w => ∃ env H nx dfs σ,Inv m env H nx dfs ∧ Rel σ H nx w ∧ ARel σ nt env dfs act ∧ yh nt K σ H nx w Q
 have hJ : J m0 act w := ⟨env,H,nx,dfs,σ,h0,hr,ha,hQ⟩
 have round : ∀ m act w,J m act w → a.wp P (Exit.then (fun a' w' => ∃ m',m' < m ∧ J m' a' w') Q) act w := by
  rintro m act w ⟨env,H,nx,dfs,σ,hI,hr,ha,hQ⟩
  refine step m env H nx dfs hI σ w act _ hr ha ?_
  intro ex env' H' nx' dfs' σ' w' a' e hk R E A X
  have hk' := hKx m dfs ex env' H' nx' dfs' hk
  cases ex with
  | normal =>
   cases e <;> try exact X.elim
   obtain ⟨m',env'',hlt,hle,hI'⟩ := hk'
   exact ⟨m',hlt,env'',H',nx',dfs',σ',hI',R,A.weaken hle,hQ.from E⟩
  | exit id =>
   obtain ⟨env'',hle,hk2⟩ := hk'
   cases e <;> first | exact X.elim | exact hQ (.exit id) env'' _ _ _ σ' w' a' _ hk2 R E (A.weaken hle) X
  | ret =>
   obtain ⟨env'',hle,hk2⟩ := hk'
   cases e <;> first | exact X.elim | exact hQ .ret env'' _ _ _ σ' w' a' _ hk2 R E (A.weaken hle) X
  | pan l =>
   obtain ⟨env'',hle,hk2⟩ := hk'
   cases e <;> first | exact X.elim | exact hQ (.pan l) env'' _ _ _ σ' w' a' _ hk2 R E (A.weaken hle) X
 have least : ∀ act w,(∃ m,J m act w) → ∃ m,J m act w ∧ ∀ m',J m' act w → m ≤ m' := by
  rintro act w ⟨m,h⟩
  induction m using Nat.strongRecOn with
  | _ m ih =>
   by_cases hx : ∃ m',m' < m ∧ J m' act w
   ·obtain ⟨m',hlt,h'⟩ := hx
    exact ih m' hlt h'
   ·exact ⟨m,h,fun m' h' => Nat.le_of_not_lt fun hlt => hx ⟨m',hlt,h'⟩⟩
 let μ : Act → World → Nat := fun act w => @dite Nat (∃ m,J m act w) (Classical.propDecidable _) (fun h => Classical.choose (least act w h)) (fun _ => 0)
 have μs : ∀ act w,(∃ m,J m act w) → J (μ act w) act w ∧ ∀ m',J m' act w → μ act w ≤ m' := by
  intro act w h
  have : μ act w = Classical.choose (least act w h) := by simp only [μ,h,dite_true]
  rw [this]
  exact Classical.choose_spec (least act w h)
 refine wp_loop (fun act w => ∃ m,J m act w) μ ⟨m0,hJ⟩ ?_
 intro act w h
 obtain ⟨h1,_⟩ := μs act w h
 refine wp_mono (round _ act w h1) ?_
 intro e a' w' hq
 cases e with
 | normal =>
  obtain ⟨m',hlt,hj⟩ := hq
  exact ⟨⟨m',hj⟩,Nat.lt_of_le_of_lt ((μs a' w' ⟨m',hj⟩).2 m' hj) hlt⟩
 | exit id => exact hq
 | goto l => exact hq
 | ret => exact hq
 | panic c => exact hq
 | outgrown => exact hq
theorem KS {a : Code} {K : KP} {X Y : Type} (canon : X → Env) (canonY : Y → Env)
  (I : Nat → X → Heap → Nat → Prop) (J : Nat → Y → Heap → Nat → Prop) {env : Env} {H : Heap} {nx : Nat} {dfs : Dfs} {rc : Option AMode} (m0 : Nat) (x0 : X)
  (hle : qI (canon x0) env) (h0 : I m0 x0 H nx)
  (step : ∀ m x H nx,I m x H nx → WpP P nt a (canon x) H nx dfs
   (jT (fun env' H' nx' dfs' _ => dfs' = dfs ∧ ∃ m' x',m' < m ∧ qI (canon x') env' ∧ I m' x' H' nx')
    (fun id env' H' nx' dfs' _ => dfs' = dfs ∧ ∃ y,qI (canonY y) env' ∧ J id y H' nx')
    (fun env' H' nx' dfs' rc' => K .ret env' H' nx' dfs' rc') (fun l env' H' nx' dfs' rc' => K (.pan l) env' H' nx' dfs' rc')))
  (after : ∀ id y H nx,J id y H nx → K (.exit id) (canonY y) H nx dfs none) :
  LpP P nt a env H nx dfs rc K := by
 refine LpP.of_wp (WpP.weaken hle ?_)
 refine VG (K := K)
  (fun m env' H' nx' dfs' => dfs' = dfs ∧ ∃ x,env' = canon x ∧ I m x H' nx')
  (fun m _ => jT (fun env' H' nx' dfs' _ => dfs' = dfs ∧ ∃ m' x',m' < m ∧ qI (canon x') env' ∧ I m' x' H' nx')
    (fun id env' H' nx' dfs' _ => dfs' = dfs ∧ ∃ y,qI (canonY y) env' ∧ J id y H' nx')
    (fun env' H' nx' dfs' rc' => K .ret env' H' nx' dfs' rc') (fun l env' H' nx' dfs' rc' => K (.pan l) env' H' nx' dfs' rc')) ?_ ?_
  (m0 := m0) ⟨rfl,x0,rfl,h0⟩
 ·intro m dfs1 ex env' H' nx' dfs' h
  cases ex with
  | normal =>
   obtain ⟨h1,m',x',h2,h3,h4⟩ := h
   exact ⟨m',canon x',h2,h3,h1,x',rfl,h4⟩
  | exit id =>
   obtain ⟨rfl,y,h2,h3⟩ := h
   exact ⟨canonY y,h2,after id y H' nx' h3⟩
  | ret => exact ⟨env',qI.refl _,h⟩
  | pan l => exact ⟨env',qI.refl _,h⟩
 ·rintro m env' H' nx' dfs' ⟨rfl,x,rfl,hI⟩
  exact step m x H' nx' hI
end
end Go.Vs
end
section
namespace Go.Vs
variable [GTab] {H : Heap}
noncomputable section
abbrev GH := Nat → Option (List AVal)
def gup (b : Nat) (x : Option (List AVal)) (Γ : GH) : GH := fun c => if c = b then x else Γ c
theorem qc (b : Nat) (x : Option (List AVal)) (Γ : GH) : gup b x Γ b = x := by simp [gup]
theorem qe {b c : Nat} {x : Option (List AVal)} {Γ : GH} (h : c ≠ b) : gup b x Γ c = Γ c := by simp [gup,h]
theorem vh (b : Nat) (x y : Option (List AVal)) (Γ : GH) : gup b x (gup b y Γ) = gup b x Γ := by
 funext c; by_cases h : c = b <;> simp [gup,h]
def Row (H : Heap) (b : Nat) (cs : List AVal) (olds : List Nat) : Prop := ∃ ct,H b = some (.cells cs.length ct olds false) ∧ ct.take cs.length = cs
def HOK (Γ : GH) (H : Heap) (nx : Nat) : Prop := ∀ b cs,Γ b = some cs → b < nx ∧ ∃ olds,Row H b cs olds ∧ ∀ o,o ∈ olds → o < nx ∧ Γ o = none
theorem HOK.lt {Γ : GH} {nx b : Nat} {cs : List AVal} (h : HOK Γ H nx) (e : Γ b = some cs) : b < nx := (h b cs e).1
theorem HOK.non {Γ : GH} {nx b : Nat} (h : HOK Γ H nx) (e : nx ≤ b) : Γ b = none := by
 cases hb : Γ b with
 | none => rfl
 | some cs => exact absurd (h.lt hb) (by omega)
theorem HOK.more {Γ : GH} {nx nx' : Nat} (h : HOK Γ H nx) (e : nx ≤ nx') : HOK Γ H nx' := fun b cs hb =>
 let ⟨h1,olds,h2,h3⟩ := h b cs hb
 ⟨Nat.lt_of_lt_of_le h1 e,olds,h2,fun o ho => ⟨Nat.lt_of_lt_of_le (h3 o ho).1 e,(h3 o ho).2⟩⟩
theorem jX {α : Type} {n : Nat} {l m : List α} (h : l.take n = m) (hm : m.length = n) : n ≤ l.length := by
 have := congrArg List.length h
 rw [List.length_take,hm] at this
 omega
theorem HOK.ld1 {Γ : GH} {nx b : Nat} {cs : List AVal} (h : HOK Γ H nx) (e : Γ b = some cs) (off : Nat) : ld1 H (.ptr b off) = cs[off]? := by
 obtain ⟨_,olds,⟨ct,hb,hc⟩,_⟩ := h b cs e
 unfold Vs.ld1
 simp only [get5]
 rw [hb]
 have hl := jX hc rfl
 by_cases ho : off < cs.length
 ·have : Nat.ble (Nat.succ off) cs.length = true := zj ho
  simp only [this,CT.get]
  rw [← hc,List.getElem?_take_of_lt ho]
  simp [List.getD,show off < ct.length by omega]
 ·have : Nat.ble (Nat.succ off) cs.length = false := by
   cases e : Nat.ble (Nat.succ off) cs.length with
   | false => rfl
   | true => exact (ho (Nat.le_of_ble_eq_true e)).elim
  simp only [this]
  rw [List.getElem?_eq_none (by omega)]
theorem yG {cs ct : CT} {off sz : Nat} (hc : ct.take cs.length = cs) (ho : off + sz ≤ cs.length) : CT.slab ct sz off = (cs.drop off).take sz := by
 have hl := jX hc rfl
 rw [CT.slab_eq (by omega)]
 conv => rhs; rw [← hc]
 rw [List.drop_take,List.take_take,Nat.min_eq_left (by omega)]
theorem HOK.ldN {Γ : GH} {nx b : Nat} {cs : List AVal} (h : HOK Γ H nx) (e : Γ b = some cs) {off sz : Nat} (ho : off + sz ≤ cs.length) :
  ldN H sz (.ptr b off) = some (.agg ((cs.drop off).take sz)) := by
 obtain ⟨_,olds,⟨ct,hb,hc⟩,_⟩ := h b cs e
 unfold Vs.ldN
 simp only [get5]
 rw [hb]
 have : Nat.ble (Nat.add off sz) cs.length = true := zj ho
 simp only [this,yG hc ho]
theorem yJ : ∀ {l : List Nat} {H : Heap} {c : Nat},c ∉ l → dels l H c = H c
 | [],_,_,_ => rfl
 | b :: l,H,c,h => by
  rw [yO,yJ (fun x => h (List.mem_cons_of_mem _ x))]
  show get5 c (set5 b _ H) = get5 c H
  exact qr (fun e => h (by rw [e]; exact List.mem_cons_self)) (by omega) (by omega)
theorem vG {b c : Nat} {x : Option AObj} (h : c ≠ b) : set5 b x H c = H c := qr (H := H) (x := x) (fun e => h e.symm) (by omega) (by omega)
theorem Qq (b : Nat) (x : Option AObj) (H : Heap) : set5 b x H b = x := qg b x H
theorem HOK.newN {Γ : GH} {nx nx' b : Nat} (h : HOK Γ H nx) (hb : nx ≤ b) (hn : b < nx') {cs : List AVal} {ct : CT} (hc : ct.take cs.length = cs) :
  HOK (gup b (some cs) Γ) (set5 b (some (.cells cs.length ct [] false)) H) nx' := by
 intro c ds e
 by_cases hc' : c = b
 ·subst hc'
  rw [qc] at e; cases e
  exact ⟨hn,[],⟨ct,Qq _ _ _,hc⟩,by simp⟩
 ·rw [qe hc'] at e
  obtain ⟨h1,olds,⟨ct',h2,h2'⟩,h3⟩ := h c ds e
  exact ⟨by omega,olds,⟨ct',by rw [vG hc']; exact h2,h2'⟩,fun o ho => ⟨by have := (h3 o ho).1; omega,by rw [qe (by have := (h3 o ho).1; omega)]; exact (h3 o ho).2⟩⟩
theorem HOK.new {Γ : GH} {nx nx' b : Nat} (h : HOK Γ H nx) (hb : nx ≤ b) (hn : b < nx') (cs : List AVal) : HOK (gup b (some cs) Γ) (newB b cs H) nx' :=
 h.newN hb hn (by rw [CT.ofL_eq rfl]; exact List.take_length)
theorem HOK.st {Γ : GH} {nx b off : Nat} {cs vs : List AVal} (h : HOK Γ H nx) (e : Γ b = some cs) (ho : off + vs.length ≤ cs.length) (hv : qo vs = true) :
  ∃ H',stC H (.ptr b off) vs = some H' ∧ HOK (gup b (some (qC cs off vs)) Γ) H' nx := by
 obtain ⟨hb,olds,⟨ct,h2,h2'⟩,h3⟩ := h b cs e
 have hl := jX h2' rfl
 refine ⟨set5 b (some (.cells cs.length (relay vs vs.length off cs.length ct) [] false)) (dels olds H),?_,?_⟩
 ·unfold stC
  simp only [get5]
  rw [h2]
  have : Nat.ble (Nat.add off vs.length) cs.length = true := zj ho
  simp only [this,hv]
 ·intro c ds ec
  by_cases hc : c = b
  ·subst hc
   rw [qc] at ec; cases ec
   refine ⟨hb,[],⟨_,by rw [Qq,kP ho],?_⟩,by simp⟩
   rw [kP ho]
   unfold relay qC
   split
   ·rename_i g1 g2 _
    have e1 := Nat.eq_of_beq_eq_true g1
    have e2 := Nat.eq_of_beq_eq_true g2
    subst e1
    rw [CT.ofL_eq e2,← e2,List.take_length]
    simp only [List.take_zero,List.nil_append,Nat.zero_add]
    rw [List.drop_eq_nil_of_le (by omega)]
    simp
   ·rw [CT.lay_eq (by omega)]
    have ea : (ct.take off ++ vs).length = off + vs.length := by simp; omega
    rw [List.take_append,ea,List.take_of_length_le (by omega : (ct.take off ++ vs).length ≤ cs.length)]
    congr 1
    ·conv => rhs; rw [← h2']
     rw [List.take_take,Nat.min_eq_left (by omega)]
    ·conv => rhs; rw [← h2']
     rw [List.drop_take]
  ·rw [qe hc] at ec
   obtain ⟨h4,olds',⟨ct',h5,h5'⟩,h6⟩ := h c ds ec
   refine ⟨h4,olds',⟨ct',?_,h5'⟩,fun o hoo => ⟨(h6 o hoo).1,?_⟩⟩
   ·rw [vG hc,yJ (fun hm => by have := (h3 c hm).2; rw [ec] at this; cases this)]
    exact h5
   ·rw [qe (fun x => by have := (h6 o hoo).2; rw [x,e] at this; cases this)]
    exact (h6 o hoo).2
theorem HOK.src {Γ : GH} {nx b off n sz e : Nat} {full : Bool} {cs : List AVal} (h : HOK Γ H nx) (eb : Γ b = some cs) (ho : off + n * sz ≤ cs.length) :
  aSrc sz H (.slice b off n e full) = some (n,(cs.drop off).take (n * sz)) := by
 obtain ⟨hb,olds,⟨ct,h2,h2'⟩,h3⟩ := h b cs eb
 unfold aSrc
 simp only [get5]
 rw [h2]
 have : Nat.ble (Nat.add off (Nat.mul n sz)) cs.length = true := zj ho
 simp only [this]
 rw [show Nat.mul n sz = n * sz from rfl,yG h2' ho]
theorem HOK.appNil {Γ : GH} {nx esz ebytes k : Nat} {new : List AVal} (h : HOK Γ H nx) (hk : new.length = k * esz) (hk0 : 0 < k)
  (h1 : k * esz ≤ 9223372036854775807) (h2 : k * ebytes ≤ 140737488355328) :
  ∃ H',appC H nx esz ebytes .nilSlice k new = some (.slice nx 0 k esz false,H',nx + 1) ∧ HOK (gup nx (some new) Γ) H' (nx + 1) := by
 obtain ⟨k',rfl⟩ : ∃ k',k = Nat.succ k' := ⟨k - 1,by omega⟩
 have g2 : Nat.ble (Nat.mul (Nat.succ k') esz) 9223372036854775807 = true := zj h1
 have g3 : Nat.ble (Nat.mul (Nat.succ k') ebytes) 140737488355328 = true := zj h2
 refine ⟨set5 nx (some (.cells (Nat.mul (Nat.succ k') esz) (CT.ofL (Nat.mul (Nat.succ k') esz) new) [] false)) H,?_,?_⟩
 ·unfold appC
  simp only [g2,g3]
 ·have e : Nat.mul (Nat.succ k') esz = new.length := hk.symm
  rw [e]
  exact h.newN (Nat.le_refl _) (Nat.lt_succ_self _) (by rw [CT.ofL_eq rfl]; exact List.take_length)
theorem HOK.appFull {Γ : GH} {nx b off len esz ebytes k : Nat} {cs new : List AVal} (h : HOK Γ H nx) (e : Γ b = some cs) (hl : off + len * esz ≤ cs.length) (hk : new.length = k * esz) (hk0 : 0 < k)
  (h1 : (len + k) * esz ≤ 9223372036854775807) (h2 : (len + k) * ebytes ≤ 140737488355328) :
  ∃ H',appC H nx esz ebytes (.slice b off len esz true) k new = some (.slice nx 0 (len + k) esz false,H',nx + 1) ∧ HOK (gup nx (some ((cs.drop off).take (len * esz) ++ new)) Γ) H' (nx + 1) := by
 obtain ⟨hb,olds,⟨ct,h3,h3'⟩,h4⟩ := h b cs e
 obtain ⟨k',rfl⟩ : ∃ k',k = Nat.succ k' := ⟨k - 1,by omega⟩
 have g1 : Nat.beq esz esz = true := Nat.beq_refl esz
 have g2 : Nat.ble (Nat.mul (Nat.add len (Nat.succ k')) esz) 9223372036854775807 = true := zj h1
 have g3 : Nat.ble (Nat.mul (Nat.add len (Nat.succ k')) ebytes) 140737488355328 = true := zj h2
 have g4 : Nat.ble (Nat.add off (Nat.mul len esz)) cs.length = true := zj hl
 have hm : ((cs.drop off).take (len * esz) ++ new).length = (len + Nat.succ k') * esz := by
  rw [List.length_append,List.length_take,List.length_drop,hk,Nat.add_mul,Nat.min_eq_left (by omega)]
 refine ⟨set5 nx (some (.cells ((len + Nat.succ k') * esz) (CT.ofL ((len + Nat.succ k') * esz) ((cs.drop off).take (len * esz) ++ new)) [] false)) H,?_,?_⟩
 ·unfold appC
  simp only [get5,h3,g1,g2,g3,g4]
  rw [show Nat.mul len esz = len * esz from rfl,yG h3' hl]; rfl
 ·rw [← hm]
  exact h.newN (Nat.le_refl _) (Nat.lt_succ_self _) (by rw [CT.ofL_eq rfl]; exact List.take_length)
theorem HOK.app {Γ : GH} {nx b len esz ebytes k : Nat} {cs new : List AVal} (h : HOK Γ H nx) (e : Γ b = some cs) (hl : len * esz ≤ cs.length) (hk : new.length = k * esz) (hk0 : 0 < k)
  (h1 : (len + k) * esz ≤ 9223372036854775807) (h2 : (len + k) * ebytes ≤ 140737488355328) :
  ∃ H',appC H nx esz ebytes (.slice b 0 len esz false) k new = some (.slice nx 0 (len + k) esz false,H',nx + 1) ∧
   HOK (gup nx (some (cs.take (len * esz) ++ new)) (gup b none Γ)) H' (nx + 1) := by
 obtain ⟨hb,olds,⟨ct,h3,h3'⟩,h4⟩ := h b cs e
 have hlen := jX h3' rfl
 obtain ⟨k',rfl⟩ : ∃ k',k = Nat.succ k' := ⟨k - 1,by omega⟩
 have g1 : Nat.beq esz esz = true := Nat.beq_refl esz
 have g2 : Nat.ble (Nat.mul (Nat.add len (Nat.succ k')) esz) 9223372036854775807 = true := zj h1
 have g3 : Nat.ble (Nat.mul (Nat.add len (Nat.succ k')) ebytes) 140737488355328 = true := zj h2
 have g4 : Nat.ble (Nat.add 0 (Nat.mul len esz)) cs.length = true := zj (by show 0 + len * esz ≤ _; omega)
 have hm : (cs.take (len * esz) ++ new).length = (len + Nat.succ k') * esz := by
  rw [List.length_append,List.length_take,hk,Nat.add_mul,Nat.min_eq_left (by omega)]
 have hct : (CT.lay new (len * esz) (CT.widen ((len + Nat.succ k') * esz) ct)).take (cs.take (len * esz) ++ new).length = cs.take (len * esz) ++ new := by
  have hw : (len + Nat.succ k') * esz ≤ (CT.widen ((len + Nat.succ k') * esz) ct).length := by simp [CT.widen]; omega
  have hn : len * esz + new.length = (len + Nat.succ k') * esz := by rw [hk,Nat.add_mul]
  rw [CT.lay_eq (by omega),hm]
  have ht : (CT.widen ((len + Nat.succ k') * esz) ct).take (len * esz) = cs.take (len * esz) := by
   unfold CT.widen
   rw [List.take_append_of_le_length (by omega)]
   conv => rhs; rw [← h3']
   rw [List.take_take,Nat.min_eq_left (by omega)]
  rw [ht]
  exact List.take_left' hm
 have hap : appC H nx esz ebytes (.slice b 0 len esz false) (Nat.succ k') new = some (.slice nx 0 (len + Nat.succ k') esz false,
   ZB b cs.length ct olds (len * esz) H nx ((len + Nat.succ k') * esz) (CT.lay new (len * esz) (CT.widen ((len + Nat.succ k') * esz) ct)),nx + 1) := by
  unfold appC
  simp only [get5,h3,g1,g2,g3,g4]
  rfl
 refine ⟨_,hap,?_⟩
 rw [← hm]
 have hrest : ∀ c ds,c ≠ nx → c ≠ b → Γ c = some ds → dels olds H c = H c := fun c ds _ _ ec => yJ fun hx => by have := (h4 c hx).2; rw [ec] at this; cases this
 have key : ∀ (H2 : Heap) (ol : List Nat),(∀ o,o ∈ ol → o = b) → (∀ c,c ≠ nx → c ≠ b → H2 c = dels olds H c) →
   HOK (gup nx (some (cs.take (len * esz) ++ new)) (gup b none Γ)) (set5 nx (some (.cells (cs.take (len * esz) ++ new).length (CT.lay new (len * esz) (CT.widen (cs.take (len * esz) ++ new).length ct)) ol false)) H2) (nx + 1) := by
  intro H2 ol hol h2c c ds ec
  by_cases hc : c = nx
  ·subst hc
   rw [qc] at ec; cases ec
   refine ⟨Nat.lt_succ_self _,ol,⟨_,Qq _ _ _,by rw [hm]; rw [hm] at hct; exact hct⟩,fun o ho => ?_⟩
   rw [hol o ho]
   exact ⟨by omega,by rw [qe (by omega),qc]⟩
  ·rw [qe hc] at ec
   have hcb : c ≠ b := fun x => by rw [x,qc] at ec; cases ec
   rw [qe hcb] at ec
   obtain ⟨h5,olds',⟨ct',h6,h6'⟩,h7⟩ := h c ds ec
   refine ⟨by omega,olds',⟨ct',by rw [vG hc,h2c c hc hcb,hrest c ds hc hcb ec]; exact h6,h6'⟩,fun o ho => ?_⟩
   have ho' := h7 o ho
   refine ⟨by omega,?_⟩
   rw [qe (by omega)]
   by_cases hob : o = b
   ·rw [hob,qc]
   ·rw [qe hob]; exact ho'.2
 unfold ZB
 split
 ·exact key _ [b] (by simp) (fun c h1 h2 => by rw [vG h2])
 ·exact key _ [] (by simp) (fun c h1 h2 => by rw [vG h2,vG h2])
end
end Go.Vs
end
section
namespace Go.Vs
open Go.Ev (minN)
variable [GTab]
noncomputable section
theorem HOK.copy {Γ : GH} {H : Heap} {nx b b2 off off2 len len2 esz e1 e2 : Nat} {f1 f2 : Bool} {cs cs2 : List AVal} (h : HOK Γ H nx) (hb : Γ b = some cs) (hb2 : Γ b2 = some cs2) (hle : len2 ≤ len)
  (h1 : off + len2 * esz ≤ cs.length) (h2 : off2 + len2 * esz ≤ cs2.length) (hv : qo ((cs2.drop off2).take (len2 * esz)) = true) :
  ∃ H',copC H esz (.slice b off len e1 f1) (.slice b2 off2 len2 e2 f2) = some (len2,H') ∧ HOK (gup b (some (qC cs off ((cs2.drop off2).take (len2 * esz)))) Γ) H' nx := by
 obtain ⟨hlt,olds,⟨ct,g1,g1'⟩,g3⟩ := h b cs hb
 obtain ⟨_,olds2,⟨ct2,g2,g2'⟩,_⟩ := h b2 cs2 hb2
 have hmin : minN len2 len = len2 := by
  unfold minN
  have : Nat.ble len2 len = true := zj hle
  rw [this]
 have hs : CT.slab ct2 (len2 * esz) off2 = (cs2.drop off2).take (len2 * esz) := yG g2' h2
 have hlen : ((cs2.drop off2).take (len2 * esz)).length = len2 * esz := by rw [List.length_take,List.length_drop]; omega
 have n1 : Nat.ble (Nat.add off (Nat.mul len2 esz)) cs.length = true := zj h1
 have n2 : Nat.ble (Nat.add off2 (Nat.mul len2 esz)) cs2.length = true := zj h2
 have hl := jX g1' rfl
 have hsp : (qC cs off ((cs2.drop off2).take (len2 * esz))).length = cs.length := kP (by omega)
 refine ⟨set5 b (some (.cells cs.length (CT.lay ((cs2.drop off2).take (len2 * esz)) off ct) [] false)) (dels olds H),?_,?_⟩
 ·unfold copC
  simp only [get5,g1,g2,hmin,n1,n2]
  rw [show Nat.mul len2 esz = len2 * esz from rfl,hs]
  simp only [hv]
 ·intro c ds ec
  by_cases hc : c = b
  ·subst hc
   rw [qc] at ec; cases ec
   refine ⟨hlt,[],⟨_,by rw [Qq,hsp],?_⟩,by simp⟩
   rw [hsp,CT.lay_eq (by omega)]
   unfold qC
   have ea : (ct.take off ++ (cs2.drop off2).take (len2 * esz)).length = off + len2 * esz := by rw [List.length_append,hlen,List.length_take]; omega
   rw [List.take_append,ea,List.take_of_length_le (by omega : (ct.take off ++ (cs2.drop off2).take (len2 * esz)).length ≤ cs.length),hlen]
   congr 1
   ·conv => rhs; rw [← g1']
    rw [List.take_take,Nat.min_eq_left (by omega)]
   ·conv => rhs; rw [← g1']
    rw [List.drop_take]
  ·rw [qe hc] at ec
   obtain ⟨h4,olds',⟨ct',h5,h5'⟩,h6⟩ := h c ds ec
   refine ⟨h4,olds',⟨ct',?_,h5'⟩,fun o hoo => ⟨(h6 o hoo).1,?_⟩⟩
   ·rw [vG hc,yJ (fun hm => by have := (g3 c hm).2; rw [ec] at this; cases this)]
    exact h5
   ·rw [qe (fun x => by have := (h6 o hoo).2; rw [x,hb] at this; cases this)]
    exact (h6 o hoo).2
end
end Go.Vs
end
section
namespace Go.Vs
variable [GTab] {H : Heap} {nx : Nat}
noncomputable section
structure KeptW (w w' : World) : Prop where
 os : w'.os = w.os
 tape : w'.tape = w.tape
 output : w'.output = w.output
 size : w.heap.size ≤ w'.heap.size
 same : ∀ i,i < w.heap.size → w'.heap[i]? = w.heap[i]?
theorem Rel.kept {σ : Sg} {w w' : World} (h : Rel σ H nx w) (k : KeptW w w') : Rel σ H nx w' :=
 ⟨h.lim,fun b cb sz e => ⟨(h.dom b cb sz e).1,Nat.lt_of_lt_of_le (h.dom b cb sz e).2 k.size⟩,fun b o cb sz e1 e2 => (h.obj b o cb sz e1 e2).of_block (k.same cb (h.dom b cb sz e2).2),h.sep,h.sup,h.old,
  h.glob.of k.size (fun i hi _ => k.same i hi) fun b _ sz e _ => ⟨b,sz,e⟩⟩
theorem Ext.kept {σ : Sg} {w w' : World} (k : KeptW w w') : Ext σ σ H H nx nx w w' :=
 ⟨fun _ _ h => h,fun b _ sz h _ => ⟨b,sz,h⟩,fun _ _ h => ⟨h,rfl⟩,Nat.le_refl _,k.os,k.tape,k.output,k.size,fun i hi _ => k.same i hi⟩
theorem TriP.of_kept {P : Program} {f : FuncId} {args : List AVal} {K : EndP} {v : AVal}
  (h : ∀ (σ : Sg) (w : World) (args' : List Value),Glob (fun _ => none) w → DenL σ args args' → Calls P f ⟨args'⟩ w fun e w' => (∃ v',e = .returned v' ∧ Den σ v v') ∧ KeptW w w')
  (hK : K (.ret v) H nx) : TriP P f args H nx K := by
 intro σ w args' R hr hd hR
 refine (h σ w args' (hr.glob.of (Nat.le_refl _) (fun _ _ _ => rfl) (fun b cb sz e => by cases e)) hd).mono ?_
 rintro e w' ⟨⟨v',rfl,hv⟩,hk⟩
 exact hR _ _ _ _ _ _ hK (hr.kept hk) (Ext.kept hk) (by first | exact .ret hv | exact hv)
end
end Go.Vs
end
section
namespace Go.Ev
variable [GTab]
noncomputable def qj6 (m : Nat) : List AVal := (List.range m).map fun i => .int .i64 (.ofNat i)
noncomputable def qju (args : List AVal) (rest : Option (List AVal)) : Option (List AVal) :=
 match args with
 | [.anyInt .i64 m i,.int .i64 (.ofNat (Nat.succ j))] => match Nat.ble (Nat.succ j) 4096 with
  | true => match Nat.beq m (Nat.succ j) with
   | true => some [.int .i64 (.ofNat i)]
   | false => some (qj6 (Nat.succ j))
  | false => rest
 | _ => rest
end Go.Ev
namespace Go.Ev
variable [GTab]
def noBlk : AVal → Bool
 | .und | .bool _ | .int _ _ | .str _ _ | .nilPtr | .nilSlice | .nilMap | .nilFunc | .nilIface | .anyInt _ _ _ | .anyBool | .gptr _ _ | .anyStr _ => true
 | _ => false
theorem Den.noBlk {σ σ2 : Sg} {a : AVal} {v : Value} (h : Ev.noBlk a = true) (hd : Den σ a v) : Den σ2 a v := by
 cases hd <;> first | (cases h; done) | (constructor; done) | (constructor; assumption)
noncomputable def WT (p a : AVal) : Bool := match p with
 | .und => true
 | p => match noBlk p with
  | true => beqA 9 p a
  | false => false
noncomputable def Xd : List AVal → List AVal → Bool
 | [],[] => true
 | p :: ps,a :: as => match WT p a with
  | true => Xd ps as
  | false => false
 | _,_ => false
noncomputable def qb4 (p a : AVal) : Bool := match p,a with
 | .tuple ps,.tuple as => Xd ps as
 | p,a => WT p a
theorem K7 {σ σ2 : Sg} {p a : AVal} {v : Value} (h : WT p a = true) (hd : Den σ a v) : Den σ2 p v := by
 unfold WT at h
 split at h
 ·exact .und _
 ·split at h <;> try (cases h; done)
  rename_i hn
  have := wU _ _ _ h
  subst this
  exact hd.noBlk hn
theorem K3 {σ σ2 : Sg} : ∀ {ps as : List AVal} {vs : List Value},Xd ps as = true → DenL σ as vs → DenL σ2 ps vs
 | [],[],_,_,.nil => .nil
 | p :: ps,a :: as,_,h,.cons hd t => by
  unfold Xd at h
  split at h <;> try (cases h; done)
  exact .cons (K7 ‹_› hd) (K3 h t)
 | [],_ :: _,_,h,_ => by cases h
 | _ :: _,[],_,h,_ => by cases h
theorem qb7 {σ σ2 : Sg} {p a : AVal} {v : Value} (h : qb4 p a = true) (hd : Den σ a v) : Den σ2 p v := by
 unfold qb4 at h
 split at h
 ·cases hd with
  | tuple hl => exact .tuple (K3 h hl)
 ·exact K7 h hd
noncomputable def isV (p : AVal) (e : AEnd) : Bool := match e with
 | .ret a => qb4 p a
 | .pan _ => false
noncomputable def runV (P : Program) (orc : Orc) (f : FuncId) (n : Nat) (args : List AVal) (p : AVal) : Bool := (Wy P orc n).1 f args (all5 none) 0 fun e _ _ => isV p e
theorem ZG {P : Program} {orc : Orc} {f : FuncId} {n : Nat} {args : List AVal} {p : AVal} (hm : P.follows .mixedOrders = true) (ho : yR P orc) (h : runV P orc f n args p = true) {w : World} (hg : Glob (fun _ => none) w) (args' : List Value) (hd : DenL (fun _ => none) args args') :
  Calls P f ⟨args'⟩ w fun e w' => (∃ v',Den (fun _ => none) p v' ∧ e = .returned v') ∧ w'.tape = w.tape ∧ Kept w w' := by
 refine (Xt hm ho n).1 f args (all5 none) 0 _ h (fun _ => none) w args' _ (Rel.nothing hg) hd fun e H' nx' σ' w' en hk R E he => ?_
 unfold isV at hk
 cases e with
 | pan l => exact Bool.noConfusion hk
 | ret a =>
  cases en with
  | returned v' => exact ⟨⟨v',qb7 hk he,rfl⟩,E.tape,E.os,E.output,E.size,fun i hi => E.frame i hi fun b sz h => by cases h⟩
  | panicked c => exact he.elim
  | outgrown => exact he.elim
end Go.Ev
end
section
namespace Go.Ev
variable [GTab]
noncomputable def mapB (f : Nat → Nat) (v : AVal) : AVal :=
 AVal.rec (motive_1 := fun _ => AVal) (motive_2 := fun _ => List AVal) .und (fun b => .bool b) (fun k n => .int k n) (fun n x => .str n x) (fun b off => .ptr (f b) off) .nilPtr
  (fun b off len esz full => .slice (f b) off len esz full) .nilSlice (fun b => .map (f b)) .nilMap (fun fn _ _ a b => .func fn a b) .nilFunc (fun t _ v => .iface t v) .nilIface (fun _ l => .agg l) (fun _ l => .tuple l)
  (fun k m i => .anyInt k m i) .anyBool (fun g off => .gptr g off) (fun i => .anyStr i) [] (fun _ _ v l => v :: l) v
noncomputable def jw (f : Nat → Nat) (l : List AVal) : List AVal := List.rec (motive := fun _ => List AVal) [] (fun v _ ih => mapB f v :: ih) l
theorem qbw (f : Nat → Nat) (a : List AVal) : mapB f (.agg a) = .agg (jw f a) := by
 have h : ∀ l : List AVal,AVal.rec_1 (motive_1 := fun _ => AVal) (motive_2 := fun _ => List AVal) .und (fun b => .bool b) (fun k n => .int k n) (fun n x => .str n x) (fun b off => .ptr (f b) off) .nilPtr
  (fun b off len esz full => .slice (f b) off len esz full) .nilSlice (fun b => .map (f b)) .nilMap (fun fn _ _ a b => .func fn a b) .nilFunc (fun t _ v => .iface t v) .nilIface (fun _ l => .agg l) (fun _ l => .tuple l)
  (fun k m i => .anyInt k m i) .anyBool (fun g off => .gptr g off) (fun i => .anyStr i) [] (fun _ _ v l => v :: l) l = jw f l := by
  intro l
  induction l with
  | nil => rfl
  | cons v l ih => show mapB f v :: _ = mapB f v :: jw f l; rw [ih]
 show AVal.agg _ = _
 rw [h]
theorem Wa (f : Nat → Nat) (a : List AVal) : mapB f (.tuple a) = .tuple (jw f a) := by
 have h : ∀ l : List AVal,AVal.rec_1 (motive_1 := fun _ => AVal) (motive_2 := fun _ => List AVal) .und (fun b => .bool b) (fun k n => .int k n) (fun n x => .str n x) (fun b off => .ptr (f b) off) .nilPtr
  (fun b off len esz full => .slice (f b) off len esz full) .nilSlice (fun b => .map (f b)) .nilMap (fun fn _ _ a b => .func fn a b) .nilFunc (fun t _ v => .iface t v) .nilIface (fun _ l => .agg l) (fun _ l => .tuple l)
  (fun k m i => .anyInt k m i) .anyBool (fun g off => .gptr g off) (fun i => .anyStr i) [] (fun _ _ v l => v :: l) l = jw f l := by
  intro l
  induction l with
  | nil => rfl
  | cons v l ih => show mapB f v :: _ = mapB f v :: jw f l; rw [ih]
 show AVal.tuple _ = _
 rw [h]
section
variable {σ1 σ2 : Sg} {f g : Nat → Nat} (hs : ∀ b p,σ1 (f b) = some p → σ2 (g b) = some p)
include hs
end
theorem ww (f : Nat → Nat) : ∀ (l : List AVal) (i : Nat),(jw f l)[i]? = (l[i]?).map (Ev.mapB f)
 | [],i => by simp [jw]
 | v :: l,0 => by show (Ev.mapB f v :: jw f l)[0]? = _; simp
 | v :: l,i + 1 => by show (Ev.mapB f v :: jw f l)[i + 1]? = _; simp [ww f l i]
noncomputable def layO (nx : Nat) (objs : List (List AVal)) : Nat → Heap → Heap :=
 List.rec (motive := fun _ => Nat → Heap → Heap) (fun _ H => H) (fun c _ ih b H => qn b fun b => ih (Nat.succ b) (hset b (some (.cells c.length (CT.ofL c.length (jw (Nat.add nx) c)) [] false)) H)) objs
theorem Xs (nx : Nat) (c : List AVal) (objs : List (List AVal)) (b : Nat) (H : Heap) :
  layO nx (c :: objs) b H = layO nx objs (b + 1) (set5 b (some (.cells c.length (CT.ofL c.length (jw (Nat.add nx) c)) [] false)) H) := by
 have e : layO nx (c :: objs) b H = qn b fun b => layO nx objs (Nat.succ b) (hset b (some (.cells c.length (CT.ofL c.length (jw (Nat.add nx) c)) [] false)) H) := rfl
 rw [e,qb,ZJ]
theorem Jl (nx : Nat) : ∀ (objs : List (List AVal)) (b : Nat) (H : Heap) (x : Nat),b + objs.length ≤ 1048576 → x < 1048576 →
  get5 x (layO nx objs b H) = if b ≤ x ∧ x < b + objs.length then (objs[x - b]?).map (fun c => .cells c.length (CT.ofL c.length (jw (Nat.add nx) c)) [] false) else get5 x H
 | [],b,H,x,_,_ => by
  rw [if_neg (by simp)]; rfl
 | c :: objs,b,H,x,hb,hx => by
  simp only [List.length_cons] at hb
  rw [Xs,Jl nx objs (b + 1) _ x (by omega) hx]
  by_cases h1 : b = x
  ·subst h1
   rw [if_neg (by omega),qg,if_pos (by simp)]
   simp
  ·by_cases h2 : b + 1 ≤ x ∧ x < b + 1 + objs.length
   ·rw [if_pos h2,if_pos (by simp; omega)]
    have e : x - b = (x - (b + 1)) + 1 := by omega
    rw [e]; simp
   ·rw [if_neg h2,qr h1 (by omega) hx,if_neg (by simp; omega)]
noncomputable def rnF (rn : List Nat) (b : Nat) : Nat := List.rec (motive := fun _ => Nat → Nat) (fun _ => 1048576) (fun r _ ih b => Nat.rec (motive := fun _ => Nat) r (fun b _ => ih b) b) rn b
theorem JN : ∀ (rn : List Nat) (b : Nat),rnF rn b = rn.getD b 1048576
 | [],b => by simp [rnF]
 | r :: rn,0 => rfl
 | r :: rn,b + 1 => by show rnF rn b = _; rw [JN rn b]; simp
noncomputable def yK (rn : List Nat) (o : Option AObj) (c : List AVal) : Bool :=
 match o with
 | some (.cells n ct olds _) => match Nat.beq n c.length,allL (fun b => bnot (memN b rn)) olds with
  | true,true => beqL 9 (jw (rnF rn) c) (CT.slab ct n 0)
  | _,_ => false
 | _ => false
noncomputable def wk (rn : List Nat) (H : Heap) : List Nat → List (List AVal) → Bool
 | [],[] => true
 | r :: rs,c :: cs => match yK rn (hget r H) c with
  | true => wk rn H rs cs
  | false => false
 | _,_ => false
noncomputable def vz : List Nat → Bool
 | [] => true
 | r :: rs => match memN r rs with
  | true => false
  | false => vz rs
noncomputable def isI (rn : List Nat) (p : AVal) (objs : List (List AVal)) (e : AEnd) (H : Heap) : Bool :=
 match e with
 | .ret v => match beqA 9 (Ev.mapB (rnF rn) p) v with
  | true => wk rn H rn objs
  | false => false
 | .pan _ => false
theorem ys (i : Nat) : ∀ l : List Nat,memN i l = true ↔ i ∈ l
 | [] => by simp [memN]
 | j :: l => by
  have e : memN i (j :: l) = (Bool.rec (memN i l) true (Nat.beq j i) : Bool) := rfl
  rw [e]
  cases h : Nat.beq j i with
  | true => have := Nat.eq_of_beq_eq_true h; simp [this]
  | false =>
   have hne : i ≠ j := fun he => by subst he; rw [Nat.beq_refl] at h; cases h
   show memN i l = true ↔ _
   rw [ys i l]; simp [hne]
theorem we : ∀ {l : List Nat},vz l = true → ∀ (i j a : Nat),l[i]? = some a → l[j]? = some a → i = j
 | [],_,i,j,a,h,_ => by simp at h
 | r :: rs,h,i,j,a,hi,hj => by
  unfold vz at h
  split at h <;> try (cases h; done)
  rename_i hm
  have hnm : r ∉ rs := fun hh => by rw [(ys r rs).2 hh] at hm; cases hm
  cases i with
  | zero =>
   cases j with
   | zero => rfl
   | succ j => simp at hi hj; subst hi; exact (hnm (List.mem_of_getElem? hj)).elim
  | succ i =>
   cases j with
   | zero => simp at hi hj; subst hj; exact (hnm (List.mem_of_getElem? hi)).elim
   | succ j => simp at hi hj; rw [we h i j a hi hj]
theorem yq {rn : List Nat} {H : Heap} : ∀ {rs : List Nat} {cs : List (List AVal)},wk rn H rs cs = true → rs.length = cs.length ∧ ∀ (i r : Nat) (c : List AVal),rs[i]? = some r → cs[i]? = some c → yK rn (get5 r H) c = true
 | [],[],_ => ⟨rfl,fun i r c h _ => by simp at h⟩
 | [],_ :: _,h => by cases h
 | _ :: _,[],h => by cases h
 | r :: rs,c :: cs,h => by
  unfold wk at h
  split at h <;> try (cases h; done)
  rename_i hc
  rw [ZF] at hc
  obtain ⟨h1,h2⟩ := yq h
  refine ⟨by simp [h1],fun i r' c' e1 e2 => ?_⟩
  cases i with
  | zero => simp at e1 e2; subst e1; subst e2; exact hc
  | succ i => simp at e1 e2; exact h2 i r' c' e1 e2
end Go.Ev
end
section
namespace Go.Ev
variable [GTab] {P : Program}
noncomputable def cntN (x c n : Nat) : Nat := Nat.rec (motive := fun _ => Nat) 0 (fun n ih => Bool.rec ih (Nat.succ ih) (Nat.beq (Nat.mod (Nat.div x (Nat.pow 256 n)) 256) c)) n
noncomputable def idxN (x c n : Nat) : Nat → Option Nat := Nat.rec (motive := fun _ => Nat → Option Nat) (fun _ => none) (fun n ih i => Bool.rec (ih (Nat.succ i)) (some i) (Nat.beq (Nat.mod (Nat.div x (Nat.pow 256 n)) 256) c)) n
theorem Vp {y c : Nat} (hc : c < 256) : (UInt8.ofNat y == UInt8.ofNat c) = Nat.beq (Nat.mod y 256) c := by
 have h1 : Nat.beq (Nat.mod y 256) c = true ↔ y % 256 = c := by
  constructor
  ·exact fun h => Nat.eq_of_beq_eq_true h
  ·intro h; show Nat.beq (y % 256) c = true; rw [h]; exact Nat.beq_refl c
 cases hb : Nat.beq (Nat.mod y 256) c with
 | true =>
  have := h1.1 hb
  rw [beq_iff_eq]
  exact Zz (by omega)
 | false =>
  rw [beq_eq_false_iff_ne]
  intro h
  have h2 := J4 h
  have : y % 256 = c := by omega
  rw [h1.2 this] at hb
  cases hb
theorem qd7 (x c : Nat) (hc : c < 256) : ∀ n,Lib.countByte (digs n x) (UInt8.ofNat c) = cntN x c n := by
 intro n
 induction n with
 | zero => rfl
 | succ n ih =>
  have e : cntN x c (n + 1) = Bool.rec (cntN x c n) (Nat.succ (cntN x c n)) (Nat.beq (Nat.mod (x / 256 ^ n) 256) c) := rfl
  rw [e,← Vp hc]
  unfold Lib.countByte at ih ⊢
  simp only [digs,List.count_cons,ih]
  cases (UInt8.ofNat (x / 256 ^ n) == UInt8.ofNat c) <;> rfl
theorem qde (x c : Nat) (hc : c < 256) : ∀ n i,(idxN x c n i = none ∧ Lib.indexByte (digs n x) (UInt8.ofNat c) = -1) ∨ ∃ k : Nat,idxN x c n i = some (i + k) ∧ Lib.indexByte (digs n x) (UInt8.ofNat c) = (k : Int) := by
 intro n
 induction n with
 | zero => intro i; exact .inl ⟨rfl,rfl⟩
 | succ n ih =>
  intro i
  have e : idxN x c (n + 1) i = Bool.rec (idxN x c n (Nat.succ i)) (some i) (Nat.beq (Nat.mod (x / 256 ^ n) 256) c) := rfl
  rw [e,← Vp hc]
  simp only [digs,Lib.indexByte]
  cases hb : (UInt8.ofNat (x / 256 ^ n) == UInt8.ofNat c) with
  | true => exact .inr ⟨0,rfl,rfl⟩
  | false =>
   rcases ih (i + 1) with ⟨h1,h2⟩ | ⟨k,h1,h2⟩
   ·exact .inl ⟨h1,by simp [h2]⟩
   ·refine .inr ⟨k + 1,?_,?_⟩
    ·show idxN x c n (i + 1) = _
     rw [h1]; congr 1; omega
    ·rw [h2]
     have : ((k : Int) == -1) = false := beq_eq_false_iff_ne.2 (by omega)
     simp [this]
noncomputable def cntR (args : List AVal) (rest : Option (List AVal)) : Option (List AVal) :=
 match args with
 | [.str n x,.str m c] => match Nat.beq m 1 with
  | true => qn (cntN x c n) fun r => some [.int .i64 (.ofNat r)]
  | false => rest
 | _ => rest
noncomputable def idxR (args : List AVal) (rest : Option (List AVal)) : Option (List AVal) :=
 match args with
 | [.str n x,.int .u8 (.ofNat c)] => match Nat.ble c 255 with
  | true => match idxN x c n 0 with
   | some r => qn r fun r => some [.int .i64 (.ofNat r)]
   | none => some [.int .i64 (.negSucc 0)]
  | false => rest
 | _ => rest
structure TextOK (P : Program) (fc fi : FuncId) : Prop where
 cnt : ∀ (s : ByteArray) (c : UInt8) (w : World),Calls P fc #[.string s,.string ⟨#[c]⟩] w fun e w' => e = .returned (.int .i64 (Lib.countByte s.data.toList c)) ∧ w' = w
 idx : ∀ (s : ByteArray) (c : Int) (w : World),Calls P fi #[.string s,.int .u8 c] w fun e w' => e = .returned (.int .i64 (Lib.indexByte s.data.toList c.toNat.toUInt8)) ∧ w' = w
noncomputable def KY (fc fi : FuncId) (orc : Orc) : Orc := fun f args => Bool.rec (Bool.rec (orc f args) (idxR args (orc f args)) (Nat.beq f fi)) (cntR args (orc f args)) (Nat.beq f fc)
theorem Wo {fc fi : FuncId} {orc : Orc} (ho : yR P orc) (ht : TextOK P fc fi) : yR P (KY fc fi orc) := by
 intro f args l hl σ w args' hg hd
 unfold KY at hl
 cases hf : Nat.beq f fc with
 | true =>
  rw [hf] at hl
  have e := Nat.eq_of_beq_eq_true hf
  subst e
  have hl' : cntR args (orc f args) = some l := hl
  unfold cntR at hl'
  split at hl'
  ·rename_i n x m c
   split at hl'
   ·rename_i hm
    have hm' := Nat.eq_of_beq_eq_true hm
    subst hm'
    rw [qb] at hl'
    cases hl'
    cases hd with
    | cons h1 t1 =>
     cases t1 with
     | cons h2 t2 =>
      cases t2
      cases h1 with
      | str _ _ hx =>
       cases h2 with
       | str _ _ hc =>
        have hc' : c < 256 := by simpa using hc
        have e2 : dec 1 c = ⟨#[UInt8.ofNat c]⟩ := by simp [dec,digs]
        rw [e2]
        refine (ht.cnt (dec n x) (UInt8.ofNat c) w).mono fun e w' ⟨he,hw⟩ => ?_
        subst hw
        refine ⟨⟨_,_,List.mem_singleton.2 rfl,.int _ _,?_⟩,rfl,Kept.refl _⟩
        rw [he,Qu,qd7 x c hc']
        rfl
   ·exact ho f _ l hl' σ w args' hg hd
  ·exact ho f _ l hl' σ w args' hg hd
 | false =>
  rw [hf] at hl
  cases hf2 : Nat.beq f fi with
  | false => rw [hf2] at hl; exact ho f args l hl σ w args' hg hd
  | true =>
   rw [hf2] at hl
   have e := Nat.eq_of_beq_eq_true hf2
   subst e
   have hl' : idxR args (orc f args) = some l := hl
   unfold idxR at hl'
   split at hl'
   ·rename_i n x c
    split at hl'
    ·rename_i hm
     have hm' : c ≤ 255 := Nat.le_of_ble_eq_true hm
     cases hd with
     | cons h1 t1 =>
      cases t1 with
      | cons h2 t2 =>
       cases t2
       cases h1 with
       | str _ _ hx =>
        cases h2
        refine (ht.idx (dec n x) (Int.ofNat c) w).mono fun e w' ⟨he,hw⟩ => ?_
        subst hw
        have e3 : (Int.ofNat c).toNat.toUInt8 = UInt8.ofNat c := rfl
        rw [e3,Qu] at he
        rcases qde x c (by omega) n 0 with ⟨g1,g2⟩ | ⟨k,g1,g2⟩
        ·rw [g1] at hl'
         cases hl'
         exact ⟨⟨_,_,List.mem_singleton.2 rfl,.int _ _,by rw [he,g2]; rfl⟩,rfl,Kept.refl _⟩
        ·rw [g1] at hl'
         simp only [qb,Nat.zero_add] at hl'
         cases hl'
         exact ⟨⟨_,_,List.mem_singleton.2 rfl,.int _ _,by rw [he,g2]; rfl⟩,rfl,Kept.refl _⟩
    ·exact ho f _ l hl' σ w args' hg hd
   ·exact ho f _ l hl' σ w args' hg hd
end Go.Ev
namespace Go.Ev
variable [GTab] {P : Program}
noncomputable def decN (fuel : Nat) : Nat → Nat × Nat :=
 Nat.rec (motive := fun _ => Nat → Nat × Nat) (fun u => (1,Nat.add 48 u)) (fun _ ih u => Bool.rec (Nat.succ (ih (Nat.div u 10)).1,Nat.add (Nat.mul (ih (Nat.div u 10)).2 256) (Nat.add 48 (Nat.mod u 10))) (1,Nat.add 48 u) (Nat.ble u 9)) fuel
theorem QL (x : Nat) : digs 1 x = [UInt8.ofNat x] := by simp [digs]
theorem Km : ∀ (fuel u : Nat),u < 10 ^ (fuel + 1) → digs (decN fuel u).1 (decN fuel u).2 = Lib.decDigits u ∧ (decN fuel u).2 < 256 ^ (decN fuel u).1
 | 0,u,h => by
  have h' : u < 10 := by simpa using h
  have e : decN 0 u = (1,48 + u) := rfl
  rw [e,Lib.decDigits,dif_pos h']
  exact ⟨QL _,by show 48 + u < 256 ^ 1; omega⟩
 | fuel + 1,u,h => by
  have e : decN (fuel + 1) u = Bool.rec (Nat.succ (decN fuel (u / 10)).1,Nat.add (Nat.mul (decN fuel (u / 10)).2 256) (Nat.add 48 (u % 10))) (1,Nat.add 48 u) (Nat.ble u 9) := rfl
  rw [e]
  cases hb : Nat.ble u 9 with
  | true =>
   have h' : u ≤ 9 := Nat.le_of_ble_eq_true hb
   rw [Lib.decDigits,dif_pos (by omega)]
   exact ⟨QL _,by show 48 + u < 256 ^ 1; omega⟩
  | false =>
   have h' : ¬ u < 10 := fun hlt => by
    have : Nat.ble u 9 = true := by rw [Nat.ble_eq]; omega
    rw [hb] at this; cases this
   have hp : 10 ^ (fuel + 1 + 1) = 10 ^ (fuel + 1) * 10 := Nat.pow_succ ..
   obtain ⟨i1,i2⟩ := Km fuel (u / 10) (by omega)
   rw [Lib.decDigits,dif_neg h',← i1]
   have hd : 48 + u % 10 < 256 ^ 1 := by omega
   refine ⟨?_,?_⟩
   ·show digs ((decN fuel (u / 10)).1 + 1) ((decN fuel (u / 10)).2 * 256 + (48 + u % 10)) = _
    have := yn (decN fuel (u / 10)).1 1 (decN fuel (u / 10)).2 (48 + u % 10) hd
    rw [QL] at this
    simpa using this
   ·show (decN fuel (u / 10)).2 * 256 + (48 + u % 10) < 256 ^ ((decN fuel (u / 10)).1 + 1)
    rw [Nat.pow_succ]
    omega
noncomputable def Vd (n : Int) : AVal :=
 Int.rec (motive := fun _ => AVal) (fun u => qn (decN 20 u).1 fun l => qn (decN 20 u).2 fun x => .str l x)
  (fun u => qn (decN 20 (Nat.succ u)).1 fun l => qn (Nat.add (Nat.mul 45 (Nat.pow 256 l)) (decN 20 (Nat.succ u)).2) fun x => .str (Nat.succ l) x) n
theorem Vv {σ : Sg} {n : Int} (h0 : -9223372036854775808 ≤ n) (h1 : n ≤ 9223372036854775807) : Den σ (Vd n) (.string ⟨(Lib.itoa n).toArray⟩) := by
 have big : (10 : Nat) ^ (20 + 1) = 1000000000000000000000 := by decide
 cases n with
 | ofNat u =>
  have hu : (u : Int) ≤ 9223372036854775807 := h1
  obtain ⟨i1,i2⟩ := Km 20 u (by rw [big]; omega)
  have e : Vd (.ofNat u) = .str (decN 20 u).1 (decN 20 u).2 := by
   show (qn (decN 20 u).1 fun l => qn (decN 20 u).2 fun x => AVal.str l x) = _
   rw [qb,qb]
  rw [e]
  have e2 : Lib.itoa (.ofNat u) = Lib.decDigits u := Lib.itoa_nonneg u
  rw [e2,← i1]
  exact .str _ _ i2
 | negSucc u =>
  have hu : -9223372036854775808 ≤ Int.negSucc u := h0
  obtain ⟨i1,i2⟩ := Km 20 (u + 1) (by rw [big]; omega)
  have e : Vd (.negSucc u) = .str ((decN 20 (u + 1)).1 + 1) (45 * 256 ^ (decN 20 (u + 1)).1 + (decN 20 (u + 1)).2) := by
   show (qn (decN 20 (Nat.succ u)).1 fun l => qn (Nat.add (Nat.mul 45 (Nat.pow 256 l)) (decN 20 (Nat.succ u)).2) fun x => AVal.str (Nat.succ l) x) = _
   rw [qb,qb]; rfl
  rw [e]
  have e2 : Lib.itoa (.negSucc u) = 45 :: Lib.decDigits (u + 1) := Lib.itoa_neg (u + 1) (by omega)
  have e3 : digs ((decN 20 (u + 1)).1 + 1) (45 * 256 ^ (decN 20 (u + 1)).1 + (decN 20 (u + 1)).2) = 45 :: Lib.decDigits (u + 1) := by
   have := yn 1 (decN 20 (u + 1)).1 45 (decN 20 (u + 1)).2 i2
   rw [QL,i1] at this
   rw [Nat.add_comm]
   exact this
  rw [e2,← e3]
  refine .str _ _ ?_
  rw [Nat.pow_succ]
  omega
noncomputable def fmtR (args : List AVal) (rest : Option (List AVal)) : Option (List AVal) :=
 match args with
 | [.anyInt .i64 m i,.int .i64 (.ofNat b)] => match Nat.beq m 65536,Nat.beq b 10 with
  | true,true => some [.anyStr i]
  | _,_ => rest
 | [.int .i64 n,.int .i64 (.ofNat b)] => match fits .i64 n,Nat.beq b 10 with
  | true,true => some [Vd n]
  | _,_ => rest
 | _ => rest
noncomputable def digR (args : List AVal) (rest : Option (List AVal)) : Option (List AVal) :=
 match args with
 | [.anyInt .i64 m i] => match Nat.beq m 65536 with
  | true => some [.anyStr i]
  | false => rest
 | [.int .i64 n] => match fits .i64 n with
  | true => some [Vd n]
  | false => rest
 | _ => rest
structure SymOK (P : Program) (fF fD : FuncId) : Prop where
 fmt : ∀ (n : Int) (w : World),-9223372036854775808 ≤ n → n ≤ 9223372036854775807 → Glob (fun _ => none) w → Calls P fF #[.int .i64 n,.int .i64 10] w fun e w' => e = .returned (.string ⟨(Lib.itoa n).toArray⟩) ∧ w'.tape = w.tape ∧ Kept w w'
 dig : ∀ (n : Int) (w : World),-9223372036854775808 ≤ n → n ≤ 9223372036854775807 → Calls P fD #[.int .i64 n] w fun e w' => e = .returned (.string ⟨(Lib.itoa n).toArray⟩) ∧ w'.tape = w.tape ∧ Kept w w'
 txt : ∀ i,GTab.txt i = ⟨(Lib.itoa (IntKind.i64.wrap (GTab.val i))).toArray⟩
class SymC (P : Program) (fF fD : FuncId) : Prop where
 ok : SymOK P fF fD
noncomputable def Wv (fF fD : FuncId) (orc : Orc) : Orc := fun f args => Bool.rec (Bool.rec (orc f args) (digR args (orc f args)) (Nat.beq f fD)) (fmtR args (orc f args)) (Nat.beq f fF)
theorem VY {n : Int} (h : fits .i64 n = true) : -9223372036854775808 ≤ n ∧ n ≤ 9223372036854775807 := by
 have := KV h
 rw [vy] at this
 split at this <;> omega
theorem Ja (n : Int) : -9223372036854775808 ≤ IntKind.i64.wrap n ∧ IntKind.i64.wrap n ≤ 9223372036854775807 := by
 rw [vy]
 split <;> omega
theorem XR {fF fD : FuncId} {orc : Orc} (ho : yR P orc) (hs : SymOK P fF fD) : yR P (Wv fF fD orc) := by
 intro f args l hl σ w args' hg hd
 unfold Wv at hl
 cases hf : Nat.beq f fF with
 | true =>
  rw [hf] at hl
  have e := Nat.eq_of_beq_eq_true hf
  subst e
  have hl' : fmtR args (orc f args) = some l := hl
  unfold fmtR at hl'
  split at hl'
  ·rename_i m i b
   split at hl'
   ·rename_i hm hb
    have hm' := Nat.eq_of_beq_eq_true hm
    have hb' := Nat.eq_of_beq_eq_true hb
    subst hm' hb'
    cases hl'
    cases hd with
    | cons h1 t1 =>
     cases t1 with
     | cons h2 t2 =>
      cases t2
      cases h2
      cases h1 with
      | anyInt _ _ _ n hn =>
       have hn' : n = IntKind.i64.wrap (GTab.val i) := by unfold vM at hn; rwa [if_pos rfl] at hn
       subst hn'
       obtain ⟨r1,r2⟩ := Ja (GTab.val i)
       refine (hs.fmt _ w r1 r2 hg).mono fun e w' ⟨he,ht,hk⟩ => ⟨⟨_,_,List.mem_singleton.2 rfl,.anyStr i,?_⟩,ht,hk⟩
       rw [he,hs.txt]
   ·exact ho f _ l hl' σ w args' hg hd
  ·rename_i n b
   split at hl'
   ·rename_i hm hb
    have hb' := Nat.eq_of_beq_eq_true hb
    subst hb'
    cases hl'
    cases hd with
    | cons h1 t1 =>
     cases t1 with
     | cons h2 t2 =>
      cases t2
      cases h2
      cases h1
      obtain ⟨r1,r2⟩ := VY hm
      exact (hs.fmt _ w r1 r2 hg).mono fun e w' ⟨he,ht,hk⟩ => ⟨⟨_,_,List.mem_singleton.2 rfl,Vv r1 r2,he⟩,ht,hk⟩
   ·exact ho f _ l hl' σ w args' hg hd
  ·exact ho f _ l hl' σ w args' hg hd
 | false =>
  rw [hf] at hl
  cases hf2 : Nat.beq f fD with
  | false => rw [hf2] at hl; exact ho f args l hl σ w args' hg hd
  | true =>
   rw [hf2] at hl
   have e := Nat.eq_of_beq_eq_true hf2
   subst e
   have hl' : digR args (orc f args) = some l := hl
   unfold digR at hl'
   split at hl'
   ·rename_i m i
    split at hl'
    ·rename_i hm
     have hm' := Nat.eq_of_beq_eq_true hm
     subst hm'
     cases hl'
     cases hd with
     | cons h1 t1 =>
      cases t1
      cases h1 with
      | anyInt _ _ _ n hn =>
       have hn' : n = IntKind.i64.wrap (GTab.val i) := by unfold vM at hn; rwa [if_pos rfl] at hn
       subst hn'
       obtain ⟨r1,r2⟩ := Ja (GTab.val i)
       refine (hs.dig _ w r1 r2).mono fun e w' ⟨he,ht,hk⟩ => ⟨⟨_,_,List.mem_singleton.2 rfl,.anyStr i,?_⟩,ht,hk⟩
       rw [he,hs.txt]
    ·exact ho f _ l hl' σ w args' hg hd
   ·rename_i n
    split at hl'
    ·rename_i hm
     cases hl'
     cases hd with
     | cons h1 t1 =>
      cases t1
      cases h1
      obtain ⟨r1,r2⟩ := VY hm
      exact (hs.dig _ w r1 r2).mono fun e w' ⟨he,ht,hk⟩ => ⟨⟨_,_,List.mem_singleton.2 rfl,Vv r1 r2,he⟩,ht,hk⟩
    ·exact ho f _ l hl' σ w args' hg hd
   ·exact ho f _ l hl' σ w args' hg hd
end Go.Ev
end
section
namespace Go.Ev
theorem qF.self (a : Int) : qF a a := ⟨0,by omega⟩
theorem ZA (n : Int) : IntKind.i64.wrap n = if n % 18446744073709551616 ≥ 9223372036854775808 then n % 18446744073709551616 - 18446744073709551616 else n % 18446744073709551616 := by
 simp [IntKind.wrap,IntKind.bits,IntKind.signed]
noncomputable def vv {α : Type} (l : List (Nat × Nat × α)) (i j : Nat) : Option α :=
 List.rec (motive := fun _ => Option α) none (fun t _ ih => Bool.rec ih (Bool.rec ih (some t.2.2) (Nat.beq t.2.1 j)) (Nat.beq t.1 i)) l
theorem z9 {α : Type} : ∀ {l : List (Nat × Nat × α)} {i j : Nat} {r : α},vv l i j = some r → (i,j,r) ∈ l
 | [],i,j,r,h => by cases h
 | (a,b,c) :: l,i,j,r,h => by
  have h' : (Bool.rec (vv l i j) (Bool.rec (vv l i j) (some c) (Nat.beq b j)) (Nat.beq a i) : Option α) = some r := h
  cases h1 : Nat.beq a i with
  | false => rw [h1] at h'; exact List.mem_cons_of_mem _ (z9 h')
  | true =>
   rw [h1] at h'
   cases h2 : Nat.beq b j with
   | false => rw [h2] at h'; exact List.mem_cons_of_mem _ (z9 h')
   | true =>
    rw [h2] at h'
    cases h'
    have e1 := Nat.eq_of_beq_eq_true h1
    have e2 := Nat.eq_of_beq_eq_true h2
    subst e1 e2
    exact List.mem_cons_self ..
theorem qd2 (a b : Int) : ieq a b = (a == b) := by
 rw [Bool.eq_iff_iff,beq_iff_eq]
 cases a with
 | ofNat x => cases b with
  | ofNat y => show Nat.beq x y = true ↔ _; rw [Nat.beq_eq]; simp; omega
  | negSucc y => show false = true ↔ _; simp
 | negSucc x => cases b with
  | ofNat y => show false = true ↔ _; simp
  | negSucc y => show Nat.beq x y = true ↔ _; rw [Nat.beq_eq]; simp
noncomputable def Vu {α : Type} (l : List (Int × α)) (n : Int) : Option α :=
 List.rec (motive := fun _ => Option α) none (fun t _ ih => Bool.rec ih (some t.2) (ieq t.1 n)) l
theorem QM {α : Type} : ∀ {l : List (Int × α)} {n : Int} {r : α},Vu l n = some r → (n,r) ∈ l
 | [],n,r,h => by cases h
 | (a,c) :: l,n,r,h => by
  have h' : (Bool.rec (Vu l n) (some c) (ieq a n) : Option α) = some r := h
  cases h1 : ieq a n with
  | false => rw [h1] at h'; exact List.mem_cons_of_mem _ (QM h')
  | true =>
   rw [h1] at h'
   cases h'
   have e1 : a = n := by rw [qd2] at h1; simpa using h1
   subst e1
   exact List.mem_cons_self ..
noncomputable def WM {α : Type} (l : List (Nat × α)) (n : Nat) : Option α :=
 List.rec (motive := fun _ => Option α) none (fun t _ ih => Bool.rec ih (some t.2) (Nat.beq t.1 n)) l
theorem Jh {α : Type} : ∀ {l : List (Nat × α)} {n : Nat} {r : α},WM l n = some r → (n,r) ∈ l
 | [],n,r,h => by cases h
 | (a,c) :: l,n,r,h => by
  have h' : (Bool.rec (WM l n) (some c) (Nat.beq a n) : Option α) = some r := h
  cases h1 : Nat.beq a n with
  | false => rw [h1] at h'; exact List.mem_cons_of_mem _ (Jh h')
  | true =>
   rw [h1] at h'
   cases h'
   have e1 := Nat.eq_of_beq_eq_true h1
   subst e1
   exact List.mem_cons_self ..
structure Syms where
 vals : List Int
 con : List (Int × Nat) := []
 lit : List (Nat × Int) := []
 add : List (Nat × Nat × Nat) := []
 sub : List (Nat × Nat × Nat) := []
 mul : List (Nat × Nat × Nat) := []
 quo : List (Nat × Nat × Nat) := []
 rem : List (Nat × Nat × Nat) := []
 eq : List (Nat × Nat × Bool) := []
 lt : List (Nat × Nat × Bool) := []
structure Syms.OK (s : Syms) : Prop where
 con : ∀ t ∈ s.con,qF t.1 (s.vals.getD t.2 0)
 lit : ∀ t ∈ s.lit,qF t.2 (s.vals.getD t.1 0)
 add : ∀ t ∈ s.add,qF (s.vals.getD t.1 0 + s.vals.getD t.2.1 0) (s.vals.getD t.2.2 0)
 sub : ∀ t ∈ s.sub,qF (s.vals.getD t.1 0 - s.vals.getD t.2.1 0) (s.vals.getD t.2.2 0)
 mul : ∀ t ∈ s.mul,qF (s.vals.getD t.1 0 * s.vals.getD t.2.1 0) (s.vals.getD t.2.2 0)
 quo : ∀ t ∈ s.quo,IntKind.i64.wrap (s.vals.getD t.2.1 0) ≠ 0 ∧ qF ((IntKind.i64.wrap (s.vals.getD t.1 0)).tdiv (IntKind.i64.wrap (s.vals.getD t.2.1 0))) (s.vals.getD t.2.2 0)
 rem : ∀ t ∈ s.rem,IntKind.i64.wrap (s.vals.getD t.2.1 0) ≠ 0 ∧ qF ((IntKind.i64.wrap (s.vals.getD t.1 0)).tmod (IntKind.i64.wrap (s.vals.getD t.2.1 0))) (s.vals.getD t.2.2 0)
 eq : ∀ t ∈ s.eq,(t.2.2 = true ↔ qF (s.vals.getD t.1 0) (s.vals.getD t.2.1 0))
 lt : ∀ t ∈ s.lt,t.2.2 = decide (IntKind.i64.wrap (s.vals.getD t.1 0) < IntKind.i64.wrap (s.vals.getD t.2.1 0))
noncomputable abbrev Syms.tab (s : Syms) (h : s.OK) (g : Nat) (o : Obj) : GTab where
 tab := fun _ => none
 val := fun i => s.vals.getD i 0
 blk := fun b => Bool.rec none (some o) (Nat.beq b g)
 txt := fun i => ⟨(Lib.itoa (IntKind.i64.wrap (s.vals.getD i 0))).toArray⟩
 con := Vu s.con
 lit := WM s.lit
 add := vv s.add
 sub := vv s.sub
 mul := vv s.mul
 quo := vv s.quo
 rem := vv s.rem
 eq := vv s.eq
 lt := vv s.lt
 conOK := fun _ _ e => h.con _ (QM e)
 litOK := fun _ _ e => h.lit _ (Jh e)
 addOK := fun _ _ _ e => h.add _ (z9 e)
 subOK := fun _ _ _ e => h.sub _ (z9 e)
 mulOK := fun _ _ _ e => h.mul _ (z9 e)
 quoOK := fun _ _ _ e => h.quo _ (z9 e)
 remOK := fun _ _ _ e => h.rem _ (z9 e)
 eqOK := fun _ _ _ e => h.eq _ (z9 e)
 ltOK := fun _ _ _ e => h.lt _ (z9 e)
theorem Syms.blk {s : Syms} {h : s.OK} {g : Nat} {o : Obj} : (s.tab h g o).blk g = some o := by
 show (Bool.rec none (some o) (Nat.beq g g) : Option Obj) = some o
 rw [Nat.beq_refl]
end Go.Ev
namespace Go.Ev
variable [GTab]
end Go.Ev
end
section
namespace Go.Bridge
open Go
variable [Ev.GTab] [Vs.GTab]
noncomputable section
def tr (nx : Nat) : Ev.AVal → Vs.AVal
 | .bool b => .bool b
 | .int k n => .int k n
 | .str n x => .str (Ev.digs n x)
 | .ptr b off => .ptr (nx + b) off
 | .nilPtr => .nilPtr
 | .slice b off len esz full => .slice (nx + b) off len esz full
 | .nilSlice => .nilSlice
 | .nilMap => .nilMap
 | .nilFunc => .nilFunc
 | .nilIface => .nilIface
 | .gptr g off => .gptr g off
 | .anyInt k 65536 i => .int k (k.wrap (Ev.GTab.val i))
 | .anyStr i => .str (Ev.GTab.txt i).data.toList
 | _ => .und
end
end Go.Bridge
end
section
namespace Go.Bridge
open Go
variable [Ev.GTab] [Vs.GTab]
noncomputable section
def tr2 (ψ : Nat → Nat) : Ev.AVal → Vs.AVal
 | .bool b => .bool b
 | .int k n => .int k n
 | .str n x => .str (Ev.digs n x)
 | .ptr b off => .ptr (ψ b) off
 | .nilPtr => .nilPtr
 | .slice b off len esz full => .slice (ψ b) off len esz full
 | .nilSlice => .nilSlice
 | .nilMap => .nilMap
 | .nilFunc => .nilFunc
 | .nilIface => .nilIface
 | .gptr g off => .gptr g off
 | .anyInt k 65536 i => .int k (k.wrap (Ev.GTab.val i))
 | .anyStr i => .str (Ev.GTab.txt i).data.toList
 | _ => .und
section
variable {ψ : Nat → Nat} {σ : Vs.Sg} {σ1 : Ev.Sg}
theorem W2 (hs : ∀ b p,σ1 b = some p → σ (ψ b) = some p) {v : Ev.AVal} {v' : Value} (h : Ev.Den σ1 v v') : Vs.Den σ (tr2 ψ v) v' := by
 cases h with
 | und => exact .und _
 | bool b => exact .bool b
 | int k n => exact .int k n
 | str n x h => exact .str _
 | ptr h => exact .ptr (hs _ _ h)
 | nilPtr => exact .nilPtr
 | slice h h1 h2 h3 => exact .slice (hs _ _ h) h1 h2 h3
 | slice0 h => exact .slice0 (hs _ _ h)
 | nilSlice => exact .nilSlice
 | map h => exact .und _
 | nilMap => exact .nilMap
 | func h1 h2 => exact .und _
 | nilFunc => exact .nilFunc
 | iface h => exact .und _
 | nilIface => exact .nilIface
 | agg h => exact .und _
 | tuple h => exact .und _
 | anyInt k m i n h =>
  by_cases hm : m = 65536
  ·subst hm
   unfold Ev.vM at h
   rw [if_pos rfl] at h
   subst h
   exact .int _ _
  ·have : tr2 ψ (.anyInt k m i) = .und := by unfold tr2; split <;> simp_all
   rw [this]; exact .und _
 | anyBool b => exact .und _
 | gptr g off => exact .gptr g off
 | anyStr i =>
  have := Vs.YQ (Ev.GTab.txt i)
  show Vs.Den _ (.str (Ev.GTab.txt i).data.toList) _
  conv => arg 3; rw [← this]
  exact .str _
def Qe (n0 : Nat) : Ev.AVal → Prop
 | .und => True
 | .bool _ => True
 | .int _ _ => True
 | .str n x => x < 256 ^ n
 | .ptr b _ => b < n0
 | .nilPtr => True
 | .slice b _ _ _ _ => b < n0
 | .nilSlice => True
 | .anyInt _ m _ => m = 65536
 | .anyStr _ => True
 | .gptr _ _ => True
 | _ => False
theorem Ju {n0 : Nat} (hs : ∀ b p,b < n0 → σ (ψ b) = some p → σ1 b = some p) {v : Ev.AVal} {v' : Value} (hb : Qe n0 v) (h : Vs.Den σ (tr2 ψ v) v') : Ev.Den σ1 v v' := by
 cases v with
 | und => exact .und _
 | bool b => cases h; exact .bool _
 | int k n => cases h; exact .int _ _
 | str n x => cases h; exact .str n x hb
 | ptr b off => cases h with | ptr h => exact .ptr (hs _ _ hb h)
 | nilPtr => cases h; exact .nilPtr
 | slice b off len esz full => cases h with
  | slice h h1 h2 h3 => exact .slice (hs _ _ hb h) h1 h2 h3
  | slice0 h => exact .slice0 (hs _ _ hb h)
 | nilSlice => cases h; exact .nilSlice
 | anyInt k m i =>
  have hm : m = 65536 := hb
  subst hm
  have h' : Vs.Den σ (.int k (k.wrap (Ev.GTab.val i))) v' := h
  cases h'
  exact .anyInt _ _ _ _ (by unfold Ev.vM; rw [if_pos rfl])
 | anyStr i =>
  have h' : Vs.Den σ (.str (Ev.GTab.txt i).data.toList) v' := h
  cases h'
  rw [Vs.YQ]
  exact .anyStr i
 | gptr g off => cases h; exact .gptr _ _
 | _ => exact hb.elim
end
def sg0 (n0 : Nat) (φ : Nat → Nat) (σ : Vs.Sg) : Ev.Sg := fun b => if b < n0 then σ (φ b) else none
theorem Jb {n0 b : Nat} {φ : Nat → Nat} {σ : Vs.Sg} (h : b < n0) : sg0 n0 φ σ b = σ (φ b) := by simp [sg0,h]
theorem zi {n0 b : Nat} {φ : Nat → Nat} {σ : Vs.Sg} {p : Nat × Nat} (h : sg0 n0 φ σ b = some p) : b < n0 ∧ σ (φ b) = some p := by
 unfold sg0 at h
 split at h
 ·exact ⟨‹_›,h⟩
 ·cases h
def psi (n0 nx : Nat) (φ : Nat → Nat) : Nat → Nat := fun b => if b < n0 then φ b else nx + (b - n0)
theorem KN {n0 nx b : Nat} {φ : Nat → Nat} (h : b < n0) : psi n0 nx φ b = φ b := by simp [psi,h]
theorem QW {n0 nx b : Nat} {φ : Nat → Nat} (h : n0 ≤ b) : psi n0 nx φ b = nx + (b - n0) := by simp [psi]; omega
theorem JS {n0 nx : Nat} {φ : Nat → Nat} {v : Ev.AVal} (h : Qe n0 v) : tr2 (psi n0 nx φ) v = tr2 φ v := by
 cases v with
 | ptr b off => show Vs.AVal.ptr (psi n0 nx φ b) off = .ptr (φ b) off; rw [KN h]
 | slice b off len esz full => show Vs.AVal.slice (psi n0 nx φ b) off len esz full = .slice (φ b) off len esz full; rw [KN h]
 | anyInt k m i =>
  have hm : m = 65536 := h
  subst hm; rfl
 | _ => first | rfl | exact h.elim
end
end Go.Bridge
end
section
namespace Go.Bridge
open Go
variable [Ev.GTab] [Vs.GTab]
noncomputable section
def trA (ψ : Nat → Nat) : Ev.AVal → Vs.AVal
 | .agg vs => .agg (vs.map (tr2 ψ))
 | v => tr2 ψ v
def trU (ψ : Nat → Nat) : Ev.AVal → Vs.AVal
 | .tuple vs => .tuple (vs.map (trA ψ))
 | v => trA ψ v
section
variable {ψ f : Nat → Nat} {σ : Vs.Sg} {σ1 : Ev.Sg}
theorem ZX (hs : ∀ b p,σ1 (f b) = some p → σ (ψ b) = some p) : ∀ (c : Ev.AVal) (v : Value),Ev.Den σ1 (Ev.mapB f c) v → Vs.Den σ (tr2 ψ c) v
 | .und,_,_ => .und _
 | .bool b,_,h => by cases h with | bool => exact .bool b
 | .int k n,_,h => by cases h with | int => exact .int k n
 | .str n x,_,h => by cases h with | str _ _ hx => exact .str _
 | .ptr b off,_,h => by cases h with | ptr hp => exact .ptr (hs _ _ hp)
 | .nilPtr,_,h => by cases h with | nilPtr => exact .nilPtr
 | .slice b off len esz full,_,h => by
  cases h with
  | slice hp h1 h2 h3 => exact .slice (hs _ _ hp) h1 h2 h3
  | slice0 hp => exact .slice0 (hs _ _ hp)
 | .nilSlice,_,h => by cases h with | nilSlice => exact .nilSlice
 | .map b,_,h => .und _
 | .nilMap,_,h => by cases h with | nilMap => exact .nilMap
 | .func fn a b,_,h => .und _
 | .nilFunc,_,h => by cases h with | nilFunc => exact .nilFunc
 | .iface t v,_,h => .und _
 | .nilIface,_,h => by cases h with | nilIface => exact .nilIface
 | .agg a,_,h => .und _
 | .tuple a,_,h => .und _
 | .anyInt k m i,_,h => W2 (σ1 := fun _ => none) (fun _ _ h => by cases h) (Ev.Den.noBlk (a := .anyInt k m i) rfl (σ := σ1) h)
 | .anyBool,_,h => .und _
 | .gptr q off,_,h => by cases h with | gptr => exact .gptr q off
 | .anyStr i,_,h => W2 (σ1 := fun _ => none) (fun _ _ h => by cases h) (Ev.Den.noBlk (a := .anyStr i) rfl (σ := σ1) h)
theorem Vw (hs : ∀ b p,σ1 (f b) = some p → σ (ψ b) = some p) : ∀ (l : List Ev.AVal) (v : List Value),Ev.DenL σ1 (Ev.jw f l) v → Vs.DenL σ (l.map (tr2 ψ)) v
 | [],_,h => by cases h; exact .nil
 | c :: l,_,h => by
  have h' : Ev.DenL σ1 (Ev.mapB f c :: Ev.jw f l) _ := h
  cases h' with
  | cons h1 h2 => exact .cons (ZX hs c _ h1) (Vw hs l _ h2)
theorem W1 (hs : ∀ b p,σ1 (f b) = some p → σ (ψ b) = some p) (c : Ev.AVal) (v : Value) (h : Ev.Den σ1 (Ev.mapB f c) v) : Vs.Den σ (trA ψ c) v := by
 unfold trA
 split
 ·rw [Ev.qbw] at h
  cases h with | agg h => exact .agg (Vw hs _ _ h)
 ·exact ZX hs c v h
theorem VX (hs : ∀ b p,σ1 (f b) = some p → σ (ψ b) = some p) : ∀ (l : List Ev.AVal) (v : List Value),Ev.DenL σ1 (Ev.jw f l) v → Vs.DenL σ (l.map (trA ψ)) v
 | [],_,h => by cases h; exact .nil
 | c :: l,_,h => by
  have h' : Ev.DenL σ1 (Ev.mapB f c :: Ev.jw f l) _ := h
  cases h' with
  | cons h1 h2 => exact .cons (W1 hs c _ h1) (VX hs l _ h2)
theorem VV (hs : ∀ b p,σ1 (f b) = some p → σ (ψ b) = some p) (c : Ev.AVal) (v : Value) (h : Ev.Den σ1 (Ev.mapB f c) v) : Vs.Den σ (trU ψ c) v := by
 unfold trU
 split
 ·rw [Ev.Wa] at h
  cases h with | tuple h => exact .tuple (VX hs _ _ h)
 ·exact W1 hs c v h
end
def evH (objs : List (List Ev.AVal)) : Ev.Heap := Ev.layO 0 objs 0 (Ev.all5 none)
def layV (ψ : Nat → Nat) (nx : Nat) (objs : List (List Ev.AVal)) (H : Vs.Heap) : Vs.Heap := fun b => if b < nx then H b else (objs[b - nx]?).map fun c => .cells c.length (c.map (tr2 ψ)) [] false
theorem KH {ψ : Nat → Nat} {nx b : Nat} {objs : List (List Ev.AVal)} {H : Vs.Heap} (h : b < nx) : layV ψ nx objs H b = H b := by simp [layV,h]
theorem ZR {ψ : Nat → Nat} {nx b : Nat} {objs : List (List Ev.AVal)} {H : Vs.Heap} : layV ψ nx objs H (nx + b) = (objs[b]?).map fun c => .cells c.length (c.map (tr2 ψ)) [] false := by simp [layV]; intro h; omega
def runJ (P : Program) (W : Ev.Wr) (g : FuncId) (n : Nat) (args : List Ev.AVal) (objs0 objs1 : List (List Ev.AVal)) (rn : List Nat) (p : Ev.AVal) : Bool :=
 (Ev.jn P W n).1 g args (evH objs0) objs0.length fun e H _ => Ev.isI rn p (objs0 ++ objs1) e H
def WW (n0 : Nat) : Ev.AVal → Bool
 | .und => true
 | .bool _ => true
 | .int _ _ => true
 | .str n x => Nat.ble (Nat.succ x) (256 ^ n)
 | .ptr b _ => Nat.ble (Nat.succ b) n0
 | .nilPtr => true
 | .slice b _ _ _ _ => Nat.ble (Nat.succ b) n0
 | .nilSlice => true
 | .anyInt _ m _ => Nat.beq m 65536
 | .anyStr _ => true
 | .gptr _ _ => true
 | _ => false
theorem vA {n0 : Nat} {v : Ev.AVal} (h : WW n0 v = true) : Qe n0 v := by
 cases v <;> first | trivial | (cases h; done) | exact Nat.le_of_ble_eq_true h | exact Nat.eq_of_beq_eq_true h
def wR (objs : List (List Ev.AVal)) : Bool := objs.all fun c => Nat.ble c.length 4096 && c.all (WW objs.length)
theorem JX {n0 : Nat} {v : Ev.AVal} (h : Qe n0 v) : Ev.mapB (Nat.add 0) v = v := by
 cases v <;> first | rfl | (exact h.elim) | skip
 ·rename_i b off; show Ev.AVal.ptr (Nat.add 0 b) off = _; rw [show Nat.add 0 b = b from Nat.zero_add b]
 ·rename_i b off l e f; show Ev.AVal.slice (Nat.add 0 b) off l e f = _; rw [show Nat.add 0 b = b from Nat.zero_add b]
structure Lies (n0 nx : Nat) (φ : Nat → Nat) (H0 : Ev.Heap) (H : Vs.Heap) : Prop where
 lim : n0 ≤ 1048576
 lt : ∀ b,b < n0 → φ b < nx
 inj : ∀ b c,b < n0 → c < n0 → φ b = φ c → b = c
 obj : ∀ b,b < n0 → ∃ n ct,Ev.get5 b H0 = some (.cells n ct [] false) ∧ n ≤ ct.cap ∧ (∀ i,i < n → Qe n0 (ct.get i)) ∧ H (φ b) = some (.cells n ((List.range n).map fun i => tr2 φ (ct.get i)) [] false)
theorem Lies.rel {n0 nx : Nat} {φ : Nat → Nat} {H0 : Ev.Heap} {H : Vs.Heap} (t : Lies n0 nx φ H0 H) {σ : Vs.Sg} {w : World} (hr : Vs.Rel σ H nx w) (hg : Ev.Glob (sg0 n0 φ σ) w) : Ev.Rel (sg0 n0 φ σ) H0 n0 w := by
 refine ⟨t.lim,fun b cb sz e => ?_,fun b o cb sz ho e => ?_,fun b b' o o' cb sz sz' ho ho' e e' => ?_,fun b b' o o' p ho ho' e hm => ?_,fun b o p ho e b' hm => ?_,hg⟩
 ·obtain ⟨h1,h2⟩ := zi e
  exact ⟨h1,(hr.dom _ _ _ h2).2⟩
 ·obtain ⟨h1,h2⟩ := zi e
  obtain ⟨n,ct,a1,a2,a3,a4⟩ := t.obj b h1
  rw [a1] at ho; cases ho
  obtain ⟨b1,b2,b3,b4⟩ := hr.obj (φ b) _ cb sz a4 h2
  refine ⟨b1,a2,b3,fun i hi => ?_⟩
  obtain ⟨v',c1,c2⟩ := b4 i hi
  refine ⟨v',c1,Ju (fun b p hb hs => by rw [Jb hb]; exact hs) (a3 i hi) ?_⟩
  have : Vs.CT.get i ((List.range n).map fun i => tr2 φ (ct.get i)) = tr2 φ (ct.get i) := by simp [Vs.CT.get,List.getD,hi]
  rw [this] at c2; exact c2
 ·obtain ⟨h1,h2⟩ := zi e
  obtain ⟨h3,h4⟩ := zi e'
  obtain ⟨n,ct,_,_,_,a4⟩ := t.obj b h1
  obtain ⟨n',ct',_,_,_,a5⟩ := t.obj b' h3
  rcases hr.sep _ _ _ _ cb sz sz' a4 a5 h2 h4 with q | q | q
  ·exact .inl (t.inj b b' h1 h3 q)
  ·cases q
  ·cases q
 ·have hb' := (zi e).1
  obtain ⟨n',ct',a1,_⟩ := t.obj b' hb'
  rw [a1] at ho'; cases ho'
  cases hm
 ·have hb' := (zi e).1
  obtain ⟨n',ct',a1,_⟩ := t.obj b hb'
  rw [a1] at ho; cases ho
  cases hm
theorem Lies.of_graph {φ : Nat → Nat} {nx : Nat} {objs : List (List Ev.AVal)} {H : Vs.Heap} (hlim : objs.length ≤ 1048576) (hgr : wR objs = true) (hlt : ∀ b,b < objs.length → φ b < nx)
  (hinj : ∀ b c,b < objs.length → c < objs.length → φ b = φ c → b = c) (hH : ∀ i c,objs[i]? = some c → H (φ i) = some (.cells c.length (c.map (tr2 φ)) [] false)) : Lies objs.length nx φ (evH objs) H := by
 unfold wR at hgr
 rw [List.all_eq_true] at hgr
 refine ⟨hlim,hlt,hinj,fun b hb => ?_⟩
 ·have hx := hgr _ (List.getElem_mem hb)
  rw [Bool.and_eq_true,List.all_eq_true] at hx
  have hle : (objs[b]).length ≤ 4096 := Nat.le_of_ble_eq_true hx.1
  have hg : Ev.get5 b (evH objs) = some (.cells (objs[b]).length (Ev.CT.ofL (objs[b]).length (Ev.jw (Nat.add 0) (objs[b]))) [] false) := by
   unfold evH
   rw [Ev.Jl 0 objs 0 _ b (by omega) (by omega),if_pos ⟨by omega,by omega⟩,Nat.sub_zero,List.getElem?_eq_getElem hb]
   rfl
  have hget : ∀ i (hi : i < (objs[b]).length),(Ev.CT.ofL (objs[b]).length (Ev.jw (Nat.add 0) (objs[b]))).get i = (objs[b])[i] := fun i hi => by
   rw [Ev.CT.get_ofL _ _ i hle hi]
   simp only [List.getD,Ev.ww,List.getElem?_eq_getElem hi,Option.map_some,Option.getD_some]
   exact JX (vA (hx.2 _ (List.getElem_mem hi)))
  refine ⟨_,_,hg,Ev.CT.ofL_cap _ _ hle,fun i hi => ?_,?_⟩
  ·rw [hget i hi]; exact vA (hx.2 _ (List.getElem_mem hi))
  ·rw [hH b _ (List.getElem?_eq_getElem hb)]
   congr 2
   apply List.ext_getElem
   ·simp
   ·intro i h1 h2
    simp at h1
    simp only [List.getElem_map,List.getElem_range]
    rw [hget i h1]
theorem Kg {P : Program} {W : Ev.Wr} {g : FuncId} {n : Nat} {args0 : List Ev.AVal} {argsV : List Vs.AVal} {objs0 objs1 : List (List Ev.AVal)} {rn : List Nat} {p : Ev.AVal} {φ : Nat → Nat} {nx : Nat} {H : Vs.Heap} {K : Vs.EndP}
  (hm : P.follows .mixedOrders = true) (hW : Ev.WrOK P W) (hlim : objs0.length ≤ 1048576) (hgr : wR objs0 = true) (hlt : ∀ b,b < objs0.length → φ b < nx)
  (hinj : ∀ b c,b < objs0.length → c < objs0.length → φ b = φ c → b = c) (hH : ∀ i c,objs0[i]? = some c → H (φ i) = some (.cells c.length (c.map (tr2 φ)) [] false))
  (hg : ∀ σ w,Vs.Glob σ w → Ev.Glob (sg0 objs0.length φ σ) w) (ha : ∀ (σ : Vs.Sg) args',Vs.DenL σ argsV args' → Ev.DenL (sg0 objs0.length φ σ) args0 args')
  (hrn : rn.take objs0.length = List.range objs0.length) (hnd : Ev.vz rn = true) (hrun : runJ P W g n args0 objs0 objs1 rn p = true)
  (hK : K (.ret (trU (psi objs0.length nx φ) p)) (layV (psi objs0.length nx φ) nx objs1 H) (nx + objs1.length)) : Vs.TriP P g argsV H nx K := by
 have t := Lies.of_graph hlim hgr hlt hinj hH
 intro σ w args' R hr hd hR
 refine (Ev.Qj hm hW n).1 g args0 (evH objs0) objs0.length _ hrun (sg0 objs0.length φ σ) w args' R (t.rel hr (hg σ w hr.glob)) (ha σ args' hd) fun e H1 nx1 σ1 w1 en hi R1 E1 X1 => ?_
 cases e with
 | pan l => exact Bool.noConfusion hi
 | ret v =>
  have hi' : (match Ev.beqA 9 (Ev.mapB (Ev.rnF rn) p) v with | true => Ev.wk rn H1 rn (objs0 ++ objs1) | false => false) = true := hi
  clear hi
  split at hi' <;> first | (exact Bool.noConfusion hi') | skip
  rename_i hv
  have hv := Ev.wU _ _ _ hv
  obtain ⟨hlen,hobj⟩ := Ev.yq hi'
  have hlen' : rn.length = objs0.length + objs1.length := by rw [hlen,List.length_append]
  have rnget : ∀ i,i < objs0.length + objs1.length → rn[i]? = some (Ev.rnF rn i) := fun i hi => by
   rw [Ev.JN]
   simp [List.getD,List.getElem?_eq_getElem (show i < rn.length by omega)]
  have rnold : ∀ i,i < objs0.length → Ev.rnF rn i = i := fun i hi => by
   have h1 := rnget i (by omega)
   have h2 : (rn.take objs0.length)[i]? = rn[i]? := List.getElem?_take_of_lt hi
   rw [hrn,h1,List.getElem?_range hi] at h2
   exact (Option.some.inj h2).symm
  have old1 : ∀ b q,b < objs0.length → σ1 b = some q → σ (φ b) = some q := fun b q hb e => by
   cases h0 : sg0 objs0.length φ σ b with
   | none =>
    have := (E1.pend b hb h0).1
    rw [e] at this; cases this
   | some q' =>
    have h2 := E1.sub b q' h0
    rw [e] at h2; cases h2
    exact (zi h0).2
  let σ2 : Vs.Sg := fun b => if b < nx then σ b else if b < nx + objs1.length then σ1 (Ev.rnF rn (objs0.length + (b - nx))) else none
  have s_lo : ∀ b,b < nx → σ2 b = σ b := fun b hb => by show (if _ then _ else _) = _; rw [if_pos hb]
  have s_hi : ∀ i,i < objs1.length → σ2 (nx + i) = σ1 (Ev.rnF rn (objs0.length + i)) := fun i hi => by
   show (if _ then _ else _) = _
   rw [if_neg (by omega),if_pos (by omega)]
   congr 3
   omega
  have σdom : ∀ b q,σ b = some q → b < nx := fun b q hp => by obtain ⟨cb,sz⟩ := q; exact (hr.dom b cb sz hp).1
  have sub : ∀ b q,σ b = some q → σ2 b = some q := fun b q hp => by rw [s_lo b (σdom b q hp)]; exact hp
  have inv : ∀ b q,σ2 b = some q → (b < nx ∧ σ b = some q) ∨ (∃ i,i < objs1.length ∧ b = nx + i ∧ σ1 (Ev.rnF rn (objs0.length + i)) = some q) := by
   intro b q hp
   by_cases h1 : b < nx
   ·rw [s_lo b h1] at hp; exact .inl ⟨h1,hp⟩
   ·have hp' : (if b < nx then σ b else if b < nx + objs1.length then σ1 (Ev.rnF rn (objs0.length + (b - nx))) else none) = some q := hp
    rw [if_neg h1] at hp'
    by_cases h2 : b < nx + objs1.length
    ·rw [if_pos h2] at hp'
     exact .inr ⟨b - nx,by omega,by omega,hp'⟩
    ·rw [if_neg h2] at hp'; cases hp'
  have trans : ∀ b q,σ1 (Ev.rnF rn b) = some q → σ2 (psi objs0.length nx φ b) = some q := by
   intro b q hp
   by_cases h0 : b < objs0.length
   ·rw [KN h0,s_lo _ (hlt b h0)]
    rw [rnold b h0] at hp
    exact old1 b q h0 hp
   ·have hb : b < objs0.length + objs1.length := by
     rcases Nat.lt_or_ge b (objs0.length + objs1.length) with hlt | hge
     ·exact hlt
     ·rw [Ev.JN] at hp
      have : rn.getD b 1048576 = 1048576 := by simp [List.getD,List.getElem?_eq_none (by omega : rn.length ≤ b)]
      rw [this] at hp
      obtain ⟨cb,sz⟩ := q
      have := (R1.dom _ cb sz hp).1
      have := R1.lim
      omega
    rw [QW (by omega),s_hi _ (by omega)]
    have : objs0.length + (b - objs0.length) = b := by omega
    rw [this]; exact hp
  have hcell : ∀ i (hi : i < objs0.length + objs1.length) c,(objs0 ++ objs1)[i]? = some c → ∃ ct olds s,Ev.get5 (Ev.rnF rn i) H1 = some (.cells c.length ct olds s) ∧ (∀ b,b ∈ olds → b ∉ rn) ∧ Ev.jw (Ev.rnF rn) c = Ev.CT.slab ct c.length 0 := by
   intro i hi c hc
   have hsc := hobj i _ _ (rnget i hi) hc
   unfold Ev.yK at hsc
   split at hsc <;> first | (exact Bool.noConfusion hsc) | skip
   rename_i n' ct olds s hg
   split at hsc <;> first | (exact Bool.noConfusion hsc) | skip
   rename_i hn' hol
   have hn2 := Nat.eq_of_beq_eq_true hn'
   subst hn2
   refine ⟨ct,olds,s,hg,?_,Ev.ZZ (Ev.wU 9) _ _ hsc⟩
   intro b hb hbr
   have := Ev.qH hol b hb
   rw [(Ev.ys b rn).2 hbr] at this
   cases this
  have orel : ∀ i (hi : i < objs0.length + objs1.length) c cb sz,(objs0 ++ objs1)[i]? = some c → σ1 (Ev.rnF rn i) = some (cb,sz) → Vs.ORel σ2 (.cells c.length (c.map (tr2 (psi objs0.length nx φ))) [] false) cb sz w1 := by
   intro i hi c cb sz hc hs
   obtain ⟨ct,olds,s,hg1,_,hsl⟩ := hcell i hi c hc
   obtain ⟨o1,o2,o3,o4⟩ := R1.obj _ _ cb sz hg1 hs
   refine ⟨o1,?_,o3,?_⟩
   ·simp [Vs.CT.cap]
   ·intro k hk2
    obtain ⟨v',hv',dv⟩ := o4 k hk2
    refine ⟨v',hv',?_⟩
    have e5 : Vs.CT.get k (c.map (tr2 (psi objs0.length nx φ))) = tr2 (psi objs0.length nx φ) c[k] := by simp [Vs.CT.get,List.getD,hk2]
    have e6 : Ev.CT.get k ct = Ev.mapB (Ev.rnF rn) c[k] := by
     have q1 := Ev.CT.slab_get ct c.length 0 k hk2
     rw [← hsl,Ev.ww,List.getElem?_eq_getElem hk2] at q1
     simp at q1
     exact q1.symm
    rw [e5]
    rw [e6] at dv
    exact ZX trans _ _ dv
  have objsOld : ∀ i c,objs0[i]? = some c → (objs0 ++ objs1)[i]? = some c := fun i c h => by
   have hi : i < objs0.length := by
    rcases Nat.lt_or_ge i objs0.length with h' | h'
    ·exact h'
    ·rw [List.getElem?_eq_none h'] at h; cases h
   rw [List.getElem?_append_left hi]; exact h
  have objsNew : ∀ i,(objs0 ++ objs1)[objs0.length + i]? = objs1[i]? := fun i => by
   rw [List.getElem?_append_right (by omega)]; congr 1; omega
  have R1dom : ∀ b cb sz,σ b = some (cb,sz) → cb < w.heap.size := fun b cb sz h => (hr.dom b cb sz h).2
  have freshG : ∀ i cb sz,σ1 (Ev.rnF rn (objs0.length + i)) = some (cb,sz) → i < objs1.length → cb < w.heap.size → False := by
   intro i cb sz hs hi hcb
   obtain ⟨b',sz',h'⟩ := E1.rng _ cb sz hs hcb
   obtain ⟨hb',hsb'⟩ := zi h'
   have h1' := E1.sub _ _ h'
   obtain ⟨ct,olds,s,hg1,hno,_⟩ := hcell (objs0.length + i) (by omega) _ (by rw [objsNew,List.getElem?_eq_getElem hi])
   obtain ⟨ct',olds',s',hg2,hno',_⟩ := hcell b' (by omega) _ (by rw [List.getElem?_append_left hb',List.getElem?_eq_getElem hb'])
   rw [rnold b' hb'] at hg2
   rcases R1.sep _ _ _ _ cb sz sz' hg1 hg2 hs h1' with q | q | q
   ·have := Ev.we hnd (objs0.length + i) b' b' (by rw [rnget _ (by omega),q]) (by rw [rnget _ (by omega),rnold b' hb'])
    omega
   ·exact (hno' _ q (List.mem_of_getElem? (rnget (objs0.length + i) (by omega)))).elim
   ·exact (hno _ q (by have := List.mem_of_getElem? (rnget b' (by omega)); rw [rnold b' hb'] at this; exact this)).elim
  have lowH : ∀ b,b < nx → layV (psi objs0.length nx φ) nx objs1 H b = H b := fun b hb => KH hb
  have hiH : ∀ i,layV (psi objs0.length nx φ) nx objs1 H (nx + i) = (objs1[i]?).map fun c => .cells c.length (c.map (tr2 (psi objs0.length nx φ))) [] false := fun i => ZR
  have frame : ∀ i,i < w.heap.size → (∀ b sz,σ b ≠ some (i,sz)) → w1.heap[i]? = w.heap[i]? := fun i hi hn => E1.frame i hi fun b sz e => hn _ sz (zi e).2
  have rng : ∀ b cb sz,σ2 b = some (cb,sz) → cb < w.heap.size → ∃ b' sz',σ b' = some (cb,sz') := by
   intro b cb sz hb hcb
   rcases inv b _ hb with ⟨_,h'⟩ | ⟨i,hi,_,h'⟩
   ·exact ⟨b,sz,h'⟩
   ·exact (freshG i cb sz h' hi hcb).elim
  have glob2 : Vs.Glob σ2 w1 := hr.glob.of E1.size frame rng
  have oldobj : ∀ b o cb sz,H b = some o → σ b = some (cb,sz) → Vs.ORel σ2 o cb sz w1 := by
   intro b o cb sz ho hb
   by_cases hex : ∃ i,i < objs0.length ∧ φ i = b
   ·obtain ⟨i,hi,rfl⟩ := hex
    rw [hH i _ (List.getElem?_eq_getElem hi)] at ho
    cases ho
    have hs1 : σ1 (Ev.rnF rn i) = some (cb,sz) := by rw [rnold i hi]; exact E1.sub _ _ (by rw [Jb hi]; exact hb)
    have := orel i (by omega) (objs0[i]) cb sz (objsOld i _ (List.getElem?_eq_getElem hi)) hs1
    have e : (objs0[i]).map (tr2 (psi objs0.length nx φ)) = (objs0[i]).map (tr2 φ) := by
     apply List.map_congr_left
     intro v hv
     unfold wR at hgr
     rw [List.all_eq_true] at hgr
     have hx := hgr _ (List.getElem_mem hi)
     rw [Bool.and_eq_true,List.all_eq_true] at hx
     exact JS (vA (hx.2 v hv))
    rw [e] at this; exact this
   ·have hne : ∀ b' sz',sg0 objs0.length φ σ b' ≠ some (cb,sz') := by
     intro b' sz' e
     obtain ⟨h1,h2⟩ := zi e
     rcases hr.sep _ _ _ _ cb sz sz' ho (hH b' _ (List.getElem?_eq_getElem h1)) hb h2 with q | q | q
     ·exact hex ⟨b',h1,q.symm⟩
     ·cases q
     ·have := hr.sup _ _ _ _ _ (hH b' _ (List.getElem?_eq_getElem h1)) ho hb q
      cases this
    exact ((hr.obj b o cb sz ho hb).of_block (E1.frame cb (R1dom _ _ _ hb) hne)).mono sub
  have rel2 : Vs.Rel σ2 (layV (psi objs0.length nx φ) nx objs1 H) (nx + objs1.length) w1 := by
   refine ⟨Nat.le_refl _,?_,?_,?_,?_,?_,glob2⟩
   ·intro b cb sz hb
    rcases inv b _ hb with ⟨h1,h'⟩ | ⟨i,h1,h2,h'⟩
    ·exact ⟨by omega,Nat.lt_of_lt_of_le (R1dom _ _ _ h') E1.size⟩
    ·exact ⟨by omega,(R1.dom _ cb sz h').2⟩
   ·intro b o cb sz e3 hb
    have e3' : layV (psi objs0.length nx φ) nx objs1 H b = some o := e3
    rcases inv b _ hb with ⟨h1,h'⟩ | ⟨i,h1,h2,h'⟩
    ·rw [lowH b h1] at e3'
     exact oldobj b o cb sz e3' h'
    ·subst h2
     rw [hiH,List.getElem?_eq_getElem h1] at e3'
     cases e3'
     exact orel (objs0.length + i) (by omega) _ cb sz (by rw [objsNew,List.getElem?_eq_getElem h1]) h'
   ·intro b b' o o' cb sz sz' e3 e4 hb hb'
    have e3' : layV (psi objs0.length nx φ) nx objs1 H b = some o := e3
    have e4' : layV (psi objs0.length nx φ) nx objs1 H b' = some o' := e4
    rcases inv b _ hb with ⟨h1,h'⟩ | ⟨i,h1,h2,h'⟩
    ·rcases inv b' _ hb' with ⟨h3,h''⟩ | ⟨j,h3,h4,h''⟩
     ·rw [lowH b h1] at e3'; rw [lowH b' h3] at e4'
      exact hr.sep b b' o o' cb sz sz' e3' e4' h' h''
     ·exact (freshG j cb sz' h'' h3 (R1dom _ _ _ h')).elim
    ·rcases inv b' _ hb' with ⟨h3,h''⟩ | ⟨j,h3,h4,h''⟩
     ·exact (freshG i cb sz h' h1 (R1dom _ _ _ h'')).elim
     ·subst h2; subst h4
      obtain ⟨ct,olds,s,hg1,hno,_⟩ := hcell (objs0.length + i) (by omega) _ (by rw [objsNew,List.getElem?_eq_getElem h1])
      obtain ⟨ct',olds',s',hg2,hno',_⟩ := hcell (objs0.length + j) (by omega) _ (by rw [objsNew,List.getElem?_eq_getElem h3])
      rcases R1.sep _ _ _ _ cb sz sz' hg1 hg2 h' h'' with q | q | q
      ·left
       have := Ev.we hnd (objs0.length + i) (objs0.length + j) (Ev.rnF rn (objs0.length + i)) (rnget _ (by omega)) (by rw [q]; exact rnget _ (by omega))
       omega
      ·exact (hno' _ q (List.mem_of_getElem? (rnget _ (by omega)))).elim
      ·exact (hno _ q (List.mem_of_getElem? (rnget _ (by omega)))).elim
   ·intro b b' o o' q e3 e4 hb' hm'
    have e3' : layV (psi objs0.length nx φ) nx objs1 H b = some o := e3
    have e4' : layV (psi objs0.length nx φ) nx objs1 H b' = some o' := e4
    rcases inv b' _ hb' with ⟨h3,h''⟩ | ⟨j,h3,h4,h''⟩
    ·rw [lowH b' h3] at e4'
     obtain ⟨q',hq'⟩ := hr.old b' o' q e4' h'' b hm'
     rw [lowH b (σdom b q' hq')] at e3'
     exact hr.sup b b' o o' q e3' e4' h'' hm'
    ·subst h4
     rw [hiH,List.getElem?_eq_getElem h3] at e4'
     cases e4'
     simp [Vs.AObj.olds] at hm'
   ·intro b o q e3 hb b' hm'
    have e3' : layV (psi objs0.length nx φ) nx objs1 H b = some o := e3
    rcases inv b _ hb with ⟨h1,h'⟩ | ⟨i,h1,h2,h'⟩
    ·rw [lowH b h1] at e3'
     obtain ⟨q',hq'⟩ := hr.old b o q e3' h' b' hm'
     exact ⟨q',sub _ _ hq'⟩
    ·subst h2
     rw [hiH,List.getElem?_eq_getElem h1] at e3'
     cases e3'
     simp [Vs.AObj.olds] at hm'
  have ext2 : Vs.Ext σ σ2 H (layV (psi objs0.length nx φ) nx objs1 H) nx (nx + objs1.length) w w1 :=
   ⟨sub,rng,fun b hb hn => ⟨by rw [s_lo b hb]; exact hn,lowH b hb⟩,by omega,E1.os,E1.tape,E1.output,E1.size,frame⟩
  cases en with
  | returned v' =>
   have X1' : Ev.Den σ1 v v' := X1
   rw [← hv] at X1'
   exact hR (.ret (trU (psi objs0.length nx φ) p)) _ _ σ2 w1 _ hK rel2 ext2 (VV trans _ _ X1')
  | panicked c => exact X1.elim
  | outgrown => exact X1.elim
def addG (Γ : Vs.GH) (ψ : Nat → Nat) (nx : Nat) (objs : List (List Ev.AVal)) : Vs.GH := fun b => if b < nx then Γ b else (objs[b - nx]?).map fun c => c.map (tr2 ψ)
theorem vg {Γ : Vs.GH} {ψ : Nat → Nat} {nx b : Nat} {objs : List (List Ev.AVal)} (h : b < nx) : addG Γ ψ nx objs b = Γ b := by simp [addG,h]
theorem QJ {Γ : Vs.GH} {ψ : Nat → Nat} {nx b : Nat} {objs : List (List Ev.AVal)} : addG Γ ψ nx objs (nx + b) = (objs[b]?).map fun c => c.map (tr2 ψ) := by simp [addG]; intro h; omega
theorem Xb {Γ : Vs.GH} {ψ : Nat → Nat} {nx : Nat} {objs : List (List Ev.AVal)} {H : Vs.Heap} (h : Vs.HOK Γ H nx) : Vs.HOK (addG Γ ψ nx objs) (layV ψ nx objs H) (nx + objs.length) := by
 intro b cs e
 by_cases hb : b < nx
 ·rw [vg hb] at e
  obtain ⟨h1,olds,⟨ct,h2,h2'⟩,h3⟩ := h b cs e
  exact ⟨by omega,olds,⟨ct,by rw [KH hb]; exact h2,h2'⟩,fun o ho => ⟨by have := (h3 o ho).1; omega,by rw [vg (h3 o ho).1]; exact (h3 o ho).2⟩⟩
 ·obtain ⟨i,rfl⟩ : ∃ i,b = nx + i := ⟨b - nx,by omega⟩
  rw [QJ] at e
  cases hc : objs[i]? with
  | none => rw [hc] at e; cases e
  | some c =>
   rw [hc] at e
   cases e
   have hi := (List.getElem?_eq_some_iff.1 hc).1
   refine ⟨by omega,[],⟨c.map (tr2 ψ),?_,List.take_length⟩,by simp⟩
   rw [ZR,hc]
   simp
theorem QE (h0 : ∀ q,Ev.GTab.tab q = none) (h1 : ∀ q o',Ev.GTab.blk q = some o' → Vs.GTab.blk q = some o') {n0 : Nat} {φ : Nat → Nat} {σ : Vs.Sg} {w : World} (h : Vs.Glob σ w) : Ev.Glob (sg0 n0 φ σ) w := by
 refine ⟨fun q l e => (by rw [h0 q] at e; cases e),fun q o' e => ?_⟩
 obtain ⟨a1,a2,a3⟩ := h.blk q o' (h1 q o' e)
 exact ⟨a1,fun b sz e2 => a2 _ sz (zi e2).2,a3⟩
end
end Go.Bridge
end
section
namespace Go.Bridge
open Go
variable [Ev.GTab] [Vs.GTab]
noncomputable section
structure LiesH (n0 nx : Nat) (φ : Nat → Nat) (H0 : Ev.Heap) (H : Vs.Heap) : Prop where
 lim : n0 ≤ 1048576
 lt : ∀ b,b < n0 → φ b < nx
 inj : ∀ b c,b < n0 → c < n0 → φ b = φ c → b = c
 obj : ∀ b,b < n0 → ∃ n ct ct' olds,Ev.get5 b H0 = some (.cells n ct [] false) ∧ n ≤ ct.cap ∧ (∀ i,i < n → Qe n0 (ct.get i)) ∧ H (φ b) = some (.cells n ct' olds false) ∧ (∀ i,i < n → Vs.CT.get i ct' = tr2 φ (ct.get i)) ∧ ∀ c,c < n0 → φ c ∉ olds
theorem LiesH.rel {n0 nx : Nat} {φ : Nat → Nat} {H0 : Ev.Heap} {H : Vs.Heap} (t : LiesH n0 nx φ H0 H) {σ : Vs.Sg} {w : World} (hr : Vs.Rel σ H nx w) (hg : Ev.Glob (sg0 n0 φ σ) w) : Ev.Rel (sg0 n0 φ σ) H0 n0 w := by
 refine ⟨t.lim,fun b cb sz e => ?_,fun b o cb sz ho e => ?_,fun b b' o o' cb sz sz' ho ho' e e' => ?_,fun b b' o o' p ho ho' e hm => ?_,fun b o p ho e b' hm => ?_,hg⟩
 ·obtain ⟨h1,h2⟩ := zi e
  exact ⟨h1,(hr.dom _ _ _ h2).2⟩
 ·obtain ⟨h1,h2⟩ := zi e
  obtain ⟨n,ct,ct',olds,a1,a2,a3,a4,a5,a6⟩ := t.obj b h1
  rw [a1] at ho; cases ho
  obtain ⟨b1,b2,b3,b4⟩ := hr.obj (φ b) _ cb sz a4 h2
  refine ⟨b1,a2,b3,fun i hi => ?_⟩
  obtain ⟨v',c1,c2⟩ := b4 i hi
  refine ⟨v',c1,Ju (fun b p hb hs => by rw [Jb hb]; exact hs) (a3 i hi) ?_⟩
  rw [a5 i hi] at c2; exact c2
 ·obtain ⟨h1,h2⟩ := zi e
  obtain ⟨h3,h4⟩ := zi e'
  obtain ⟨n,ct,ct1,olds1,_,_,_,a4,_,a6⟩ := t.obj b h1
  obtain ⟨n',ct',ct2,olds2,_,_,_,a5,_,a7⟩ := t.obj b' h3
  rcases hr.sep _ _ _ _ cb sz sz' a4 a5 h2 h4 with q | q | q
  ·exact .inl (t.inj b b' h1 h3 q)
  ·exact (a7 b h1 q).elim
  ·exact (a6 b' h3 q).elim
 ·have hb' := (zi e).1
  obtain ⟨n',ct',_,_,a1,_⟩ := t.obj b' hb'
  rw [a1] at ho'; cases ho'
  cases hm
 ·have hb' := (zi e).1
  obtain ⟨n',ct',_,_,a1,_⟩ := t.obj b hb'
  rw [a1] at ho; cases ho
  cases hm
theorem LiesH.of_graph {φ : Nat → Nat} {nx : Nat} {objs : List (List Ev.AVal)} {H : Vs.Heap} {Γ : Vs.GH} (hlim : objs.length ≤ 1048576) (hgr : wR objs = true) (hlt : ∀ b,b < objs.length → φ b < nx)
  (hinj : ∀ b c,b < objs.length → c < objs.length → φ b = φ c → b = c) (hH : ∀ i c,objs[i]? = some c → ∃ ct olds,H (φ i) = some (.cells c.length ct olds false) ∧ ct.take c.length = c.map (tr2 φ) ∧ ∀ o,o ∈ olds → Γ o = none)
  (hl : ∀ b,b < objs.length → ∃ cs,Γ (φ b) = some cs) : LiesH objs.length nx φ (evH objs) H := by
 unfold wR at hgr
 rw [List.all_eq_true] at hgr
 refine ⟨hlim,hlt,hinj,fun b hb => ?_⟩
 have hx := hgr _ (List.getElem_mem hb)
 rw [Bool.and_eq_true,List.all_eq_true] at hx
 have hle : (objs[b]).length ≤ 4096 := Nat.le_of_ble_eq_true hx.1
 have hg : Ev.get5 b (evH objs) = some (.cells (objs[b]).length (Ev.CT.ofL (objs[b]).length (Ev.jw (Nat.add 0) (objs[b]))) [] false) := by
  unfold evH
  rw [Ev.Jl 0 objs 0 _ b (by omega) (by omega),if_pos ⟨by omega,by omega⟩,Nat.sub_zero,List.getElem?_eq_getElem hb]
  rfl
 have hget : ∀ i (hi : i < (objs[b]).length),(Ev.CT.ofL (objs[b]).length (Ev.jw (Nat.add 0) (objs[b]))).get i = (objs[b])[i] := fun i hi => by
  rw [Ev.CT.get_ofL _ _ i hle hi]
  simp only [List.getD,Ev.ww,List.getElem?_eq_getElem hi,Option.map_some,Option.getD_some]
  exact JX (vA (hx.2 _ (List.getElem_mem hi)))
 obtain ⟨ct,olds,q1,q2,q3⟩ := hH b _ (List.getElem?_eq_getElem hb)
 refine ⟨_,_,ct,olds,hg,Ev.CT.ofL_cap _ _ hle,fun i hi => ?_,q1,fun i hi => ?_,fun c hc hm => ?_⟩
 ·rw [hget i hi]; exact vA (hx.2 _ (List.getElem_mem hi))
 ·rw [hget i hi]
  have : ct[i]? = (ct.take (objs[b]).length)[i]? := (List.getElem?_take_of_lt hi).symm
  simp only [Vs.CT.get,List.getD,this,q2,List.getElem?_map,List.getElem?_eq_getElem hi,Option.map_some,Option.getD_some]
 ·obtain ⟨cs,e⟩ := hl c hc
  rw [q3 _ hm] at e; cases e
theorem Vo {P : Program} {W : Ev.Wr} {g : FuncId} {n : Nat} {args0 : List Ev.AVal} {argsV : List Vs.AVal} {objs0 objs1 : List (List Ev.AVal)} {rn : List Nat} {p : Ev.AVal} {φ : Nat → Nat} {nx : Nat} {H : Vs.Heap} {Γ : Vs.GH} {K : Vs.EndP}
  (hm : P.follows .mixedOrders = true) (hW : Ev.WrOK P W) (hlim : objs0.length ≤ 1048576) (hgr : wR objs0 = true)
  (hinj : ∀ b c,b < objs0.length → c < objs0.length → φ b = φ c → b = c) (hk : Vs.HOK Γ H nx) (hΓ : ∀ i c,objs0[i]? = some c → Γ (φ i) = some (c.map (tr2 φ)))
  (hg : ∀ σ w,Vs.Glob σ w → Ev.Glob (sg0 objs0.length φ σ) w) (ha : ∀ (σ : Vs.Sg) args',Vs.DenL σ argsV args' → Ev.DenL (sg0 objs0.length φ σ) args0 args')
  (hrn : rn.take objs0.length = List.range objs0.length) (hnd : Ev.vz rn = true) (hrun : runJ P W g n args0 objs0 objs1 rn p = true)
  (hK : ∀ H',Vs.HOK (addG Γ (psi objs0.length nx φ) nx objs1) H' (nx + objs1.length) → K (.ret (trU (psi objs0.length nx φ) p)) H' (nx + objs1.length)) : Vs.TriP P g argsV H nx K := by
 have hH : ∀ i c,objs0[i]? = some c → ∃ ct olds,H (φ i) = some (.cells c.length ct olds false) ∧ ct.take c.length = c.map (tr2 φ) ∧ ∀ o,o ∈ olds → Γ o = none := fun i c hc => by
  obtain ⟨_,olds,⟨ct,h1,h2⟩,h3⟩ := hk _ _ (hΓ i c hc)
  rw [List.length_map] at h1 h2
  exact ⟨ct,olds,h1,h2,fun o ho => (h3 o ho).2⟩
 have hlt : ∀ b,b < objs0.length → φ b < nx := fun b hb => (hk _ _ (hΓ b _ (List.getElem?_eq_getElem hb))).1
 have t := LiesH.of_graph hlim hgr hlt hinj hH (fun b hb => ⟨_,hΓ b _ (List.getElem?_eq_getElem hb)⟩)
 intro σ w args' R hr hd hR
 refine (Ev.Qj hm hW n).1 g args0 (evH objs0) objs0.length _ hrun (sg0 objs0.length φ σ) w args' R (t.rel hr (hg σ w hr.glob)) (ha σ args' hd) fun e H1 nx1 σ1 w1 en hi R1 E1 X1 => ?_
 cases e with
 | pan l => exact Bool.noConfusion hi
 | ret v =>
  have hi' : (match Ev.beqA 9 (Ev.mapB (Ev.rnF rn) p) v with | true => Ev.wk rn H1 rn (objs0 ++ objs1) | false => false) = true := hi
  clear hi
  split at hi' <;> first | (exact Bool.noConfusion hi') | skip
  rename_i hv
  have hv := Ev.wU _ _ _ hv
  obtain ⟨hlen,hobj⟩ := Ev.yq hi'
  have hlen' : rn.length = objs0.length + objs1.length := by rw [hlen,List.length_append]
  have rnget : ∀ i,i < objs0.length + objs1.length → rn[i]? = some (Ev.rnF rn i) := fun i hi => by
   rw [Ev.JN]
   simp [List.getD,List.getElem?_eq_getElem (show i < rn.length by omega)]
  have rnold : ∀ i,i < objs0.length → Ev.rnF rn i = i := fun i hi => by
   have h1 := rnget i (by omega)
   have h2 : (rn.take objs0.length)[i]? = rn[i]? := List.getElem?_take_of_lt hi
   rw [hrn,h1,List.getElem?_range hi] at h2
   exact (Option.some.inj h2).symm
  have old1 : ∀ b q,b < objs0.length → σ1 b = some q → σ (φ b) = some q := fun b q hb e => by
   cases h0 : sg0 objs0.length φ σ b with
   | none =>
    have := (E1.pend b hb h0).1
    rw [e] at this; cases this
   | some q' =>
    have h2 := E1.sub b q' h0
    rw [e] at h2; cases h2
    exact (zi h0).2
  let σ2 : Vs.Sg := fun b => if b < nx then σ b else if b < nx + objs1.length then σ1 (Ev.rnF rn (objs0.length + (b - nx))) else none
  have s_lo : ∀ b,b < nx → σ2 b = σ b := fun b hb => by show (if _ then _ else _) = _; rw [if_pos hb]
  have s_hi : ∀ i,i < objs1.length → σ2 (nx + i) = σ1 (Ev.rnF rn (objs0.length + i)) := fun i hi => by
   show (if _ then _ else _) = _
   rw [if_neg (by omega),if_pos (by omega)]
   congr 3
   omega
  have σdom : ∀ b q,σ b = some q → b < nx := fun b q hp => by obtain ⟨cb,sz⟩ := q; exact (hr.dom b cb sz hp).1
  have sub : ∀ b q,σ b = some q → σ2 b = some q := fun b q hp => by rw [s_lo b (σdom b q hp)]; exact hp
  have inv : ∀ b q,σ2 b = some q → (b < nx ∧ σ b = some q) ∨ (∃ i,i < objs1.length ∧ b = nx + i ∧ σ1 (Ev.rnF rn (objs0.length + i)) = some q) := by
   intro b q hp
   by_cases h1 : b < nx
   ·rw [s_lo b h1] at hp; exact .inl ⟨h1,hp⟩
   ·have hp' : (if b < nx then σ b else if b < nx + objs1.length then σ1 (Ev.rnF rn (objs0.length + (b - nx))) else none) = some q := hp
    rw [if_neg h1] at hp'
    by_cases h2 : b < nx + objs1.length
    ·rw [if_pos h2] at hp'
     exact .inr ⟨b - nx,by omega,by omega,hp'⟩
    ·rw [if_neg h2] at hp'; cases hp'
  have trans : ∀ b q,σ1 (Ev.rnF rn b) = some q → σ2 (psi objs0.length nx φ b) = some q := by
   intro b q hp
   by_cases h0 : b < objs0.length
   ·rw [KN h0,s_lo _ (hlt b h0)]
    rw [rnold b h0] at hp
    exact old1 b q h0 hp
   ·have hb : b < objs0.length + objs1.length := by
     rcases Nat.lt_or_ge b (objs0.length + objs1.length) with hlt | hge
     ·exact hlt
     ·rw [Ev.JN] at hp
      have : rn.getD b 1048576 = 1048576 := by simp [List.getD,List.getElem?_eq_none (by omega : rn.length ≤ b)]
      rw [this] at hp
      obtain ⟨cb,sz⟩ := q
      have := (R1.dom _ cb sz hp).1
      have := R1.lim
      omega
    rw [QW (by omega),s_hi _ (by omega)]
    have : objs0.length + (b - objs0.length) = b := by omega
    rw [this]; exact hp
  have hcell : ∀ i (hi : i < objs0.length + objs1.length) c,(objs0 ++ objs1)[i]? = some c → ∃ ct olds s,Ev.get5 (Ev.rnF rn i) H1 = some (.cells c.length ct olds s) ∧ (∀ b,b ∈ olds → b ∉ rn) ∧ Ev.jw (Ev.rnF rn) c = Ev.CT.slab ct c.length 0 := by
   intro i hi c hc
   have hsc := hobj i _ _ (rnget i hi) hc
   unfold Ev.yK at hsc
   split at hsc <;> first | (exact Bool.noConfusion hsc) | skip
   rename_i n' ct olds s hg
   split at hsc <;> first | (exact Bool.noConfusion hsc) | skip
   rename_i hn' hol
   have hn2 := Nat.eq_of_beq_eq_true hn'
   subst hn2
   refine ⟨ct,olds,s,hg,?_,Ev.ZZ (Ev.wU 9) _ _ hsc⟩
   intro b hb hbr
   have := Ev.qH hol b hb
   rw [(Ev.ys b rn).2 hbr] at this
   cases this
  have orel : ∀ i (hi : i < objs0.length + objs1.length) c cb sz,(objs0 ++ objs1)[i]? = some c → σ1 (Ev.rnF rn i) = some (cb,sz) → Vs.ORel σ2 (.cells c.length (c.map (tr2 (psi objs0.length nx φ))) [] false) cb sz w1 := by
   intro i hi c cb sz hc hs
   obtain ⟨ct,olds,s,hg1,_,hsl⟩ := hcell i hi c hc
   obtain ⟨o1,o2,o3,o4⟩ := R1.obj _ _ cb sz hg1 hs
   refine ⟨o1,?_,o3,?_⟩
   ·simp [Vs.CT.cap]
   ·intro k hk2
    obtain ⟨v',hv',dv⟩ := o4 k hk2
    refine ⟨v',hv',?_⟩
    have e5 : Vs.CT.get k (c.map (tr2 (psi objs0.length nx φ))) = tr2 (psi objs0.length nx φ) c[k] := by simp [Vs.CT.get,List.getD,hk2]
    have e6 : Ev.CT.get k ct = Ev.mapB (Ev.rnF rn) c[k] := by
     have q1 := Ev.CT.slab_get ct c.length 0 k hk2
     rw [← hsl,Ev.ww,List.getElem?_eq_getElem hk2] at q1
     simp at q1
     exact q1.symm
    rw [e5]
    rw [e6] at dv
    exact ZX trans _ _ dv
  have objsOld : ∀ i c,objs0[i]? = some c → (objs0 ++ objs1)[i]? = some c := fun i c h => by
   have hi : i < objs0.length := by
    rcases Nat.lt_or_ge i objs0.length with h' | h'
    ·exact h'
    ·rw [List.getElem?_eq_none h'] at h; cases h
   rw [List.getElem?_append_left hi]; exact h
  have objsNew : ∀ i,(objs0 ++ objs1)[objs0.length + i]? = objs1[i]? := fun i => by
   rw [List.getElem?_append_right (by omega)]; congr 1; omega
  have R1dom : ∀ b cb sz,σ b = some (cb,sz) → cb < w.heap.size := fun b cb sz h => (hr.dom b cb sz h).2
  have freshG : ∀ i cb sz,σ1 (Ev.rnF rn (objs0.length + i)) = some (cb,sz) → i < objs1.length → cb < w.heap.size → False := by
   intro i cb sz hs hi hcb
   obtain ⟨b',sz',h'⟩ := E1.rng _ cb sz hs hcb
   obtain ⟨hb',hsb'⟩ := zi h'
   have h1' := E1.sub _ _ h'
   obtain ⟨ct,olds,s,hg1,hno,_⟩ := hcell (objs0.length + i) (by omega) _ (by rw [objsNew,List.getElem?_eq_getElem hi])
   obtain ⟨ct',olds',s',hg2,hno',_⟩ := hcell b' (by omega) _ (by rw [List.getElem?_append_left hb',List.getElem?_eq_getElem hb'])
   rw [rnold b' hb'] at hg2
   rcases R1.sep _ _ _ _ cb sz sz' hg1 hg2 hs h1' with q | q | q
   ·have := Ev.we hnd (objs0.length + i) b' b' (by rw [rnget _ (by omega),q]) (by rw [rnget _ (by omega),rnold b' hb'])
    omega
   ·exact (hno' _ q (List.mem_of_getElem? (rnget (objs0.length + i) (by omega)))).elim
   ·exact (hno _ q (by have := List.mem_of_getElem? (rnget b' (by omega)); rw [rnold b' hb'] at this; exact this)).elim
  let O : Nat → Prop := fun b => ∃ i n ct olds,i < objs0.length ∧ H (φ i) = some (.cells n ct olds false) ∧ b ∈ olds
  have gO : ∀ b cs,Γ b = some cs → ¬ O b := fun b cs e ho => by
   obtain ⟨i,n,ct,olds,hi,h1,h2⟩ := ho
   obtain ⟨ct',olds',q1,_,q3⟩ := hH i _ (List.getElem?_eq_getElem hi)
   rw [h1] at q1; cases q1
   rw [q3 b h2] at e; cases e
  obtain ⟨Hn,lowH,hHn,hiH⟩ : ∃ Hn : Vs.Heap,(∀ b o,b < nx → Hn b = some o → H b = some o ∧ (O b → σ b = none)) ∧ (∀ b,b < nx → ¬ (O b ∧ σ b ≠ none) → Hn b = H b) ∧
    ∀ i,Hn (nx + i) = (objs1[i]?).map fun c => .cells c.length (c.map (tr2 (psi objs0.length nx φ))) [] false := by
   classical
   refine ⟨fun b => if b < nx then (if O b ∧ σ b ≠ none then none else H b) else layV (psi objs0.length nx φ) nx objs1 H b,fun b o hb e => ?_,fun b hb hno => ?_,fun i => ?_⟩
   ·dsimp only at e
    rw [if_pos hb] at e
    by_cases hO : O b ∧ σ b ≠ none
    ·rw [if_pos hO] at e; cases e
    ·rw [if_neg hO] at e
     refine ⟨e,fun ho => ?_⟩
     cases hs : σ b with
     | none => rfl
     | some q => exact (hO ⟨ho,by rw [hs]; simp⟩).elim
   ·dsimp only
    rw [if_pos hb,if_neg hno]
   ·dsimp only
    rw [if_neg (by omega)]; exact ZR
  have frame : ∀ i,i < w.heap.size → (∀ b sz,σ b ≠ some (i,sz)) → w1.heap[i]? = w.heap[i]? := fun i hi hn => E1.frame i hi fun b sz e => hn _ sz (zi e).2
  have rng : ∀ b cb sz,σ2 b = some (cb,sz) → cb < w.heap.size → ∃ b' sz',σ b' = some (cb,sz') := by
   intro b cb sz hb hcb
   rcases inv b _ hb with ⟨_,h'⟩ | ⟨i,hi,_,h'⟩
   ·exact ⟨b,sz,h'⟩
   ·exact (freshG i cb sz h' hi hcb).elim
  have glob2 : Vs.Glob σ2 w1 := hr.glob.of E1.size frame rng
  have oldobj : ∀ b o cb sz,H b = some o → ¬ O b → σ b = some (cb,sz) → Vs.ORel σ2 o cb sz w1 := by
   intro b o cb sz ho hOb hb
   by_cases hex : ∃ i,i < objs0.length ∧ φ i = b
   ·obtain ⟨i,hi,rfl⟩ := hex
    obtain ⟨ct0,Zu,q1,q2,q3⟩ := hH i _ (List.getElem?_eq_getElem hi)
    rw [q1] at ho
    cases ho
    have hs1 : σ1 (Ev.rnF rn i) = some (cb,sz) := by rw [rnold i hi]; exact E1.sub _ _ (by rw [Jb hi]; exact hb)
    have := orel i (by omega) (objs0[i]) cb sz (objsOld i _ (List.getElem?_eq_getElem hi)) hs1
    have e : (objs0[i]).map (tr2 (psi objs0.length nx φ)) = (objs0[i]).map (tr2 φ) := by
     apply List.map_congr_left
     intro v hv
     unfold wR at hgr
     rw [List.all_eq_true] at hgr
     have hx := hgr _ (List.getElem_mem hi)
     rw [Bool.and_eq_true,List.all_eq_true] at hx
     exact JS (vA (hx.2 v hv))
    rw [e] at this
    obtain ⟨b1,b2,b3,b4⟩ := this
    have hl := congrArg List.length q2
    rw [List.length_take,List.length_map] at hl
    refine ⟨b1,by show _ ≤ ct0.length; omega,b3,fun k hk2 => ?_⟩
    obtain ⟨v',c1,c2⟩ := b4 k hk2
    refine ⟨v',c1,?_⟩
    have e7 : Vs.CT.get k ct0 = Vs.CT.get k ((objs0[i]).map (tr2 φ)) := by
     rw [← q2]
     simp only [Vs.CT.get,List.getD]
     rw [List.getElem?_take_of_lt hk2]
    rw [e7]; exact c2
   ·have hne : ∀ b' sz',sg0 objs0.length φ σ b' ≠ some (cb,sz') := by
     intro b' sz' e
     obtain ⟨h1,h2⟩ := zi e
     obtain ⟨ct0,Zu,q1,q2,q3⟩ := hH b' _ (List.getElem?_eq_getElem h1)
     rcases hr.sep _ _ _ _ cb sz sz' ho q1 hb h2 with q | q | q
     ·exact hex ⟨b',h1,q.symm⟩
     ·exact hOb ⟨b',_,ct0,Zu,h1,q1,q⟩
     ·have := hr.sup _ _ _ _ _ q1 ho hb q
      cases this
    exact ((hr.obj b o cb sz ho hb).of_block (E1.frame cb (R1dom _ _ _ hb) hne)).mono sub
  have rel2 : Vs.Rel σ2 Hn (nx + objs1.length) w1 := by
   refine ⟨Nat.le_refl _,?_,?_,?_,?_,?_,glob2⟩
   ·intro b cb sz hb
    rcases inv b _ hb with ⟨h1,h'⟩ | ⟨i,h1,h2,h'⟩
    ·exact ⟨by omega,Nat.lt_of_lt_of_le (R1dom _ _ _ h') E1.size⟩
    ·exact ⟨by omega,(R1.dom _ cb sz h').2⟩
   ·intro b o cb sz e3 hb
    have e3' : Hn b = some o := e3
    rcases inv b _ hb with ⟨h1,h'⟩ | ⟨i,h1,h2,h'⟩
    ·obtain ⟨e3',hno⟩ := lowH b o h1 e3'
     exact oldobj b o cb sz e3' (fun ho => by rw [hno ho] at h'; cases h') h'
    ·subst h2
     rw [hiH,List.getElem?_eq_getElem h1] at e3'
     cases e3'
     exact orel (objs0.length + i) (by omega) _ cb sz (by rw [objsNew,List.getElem?_eq_getElem h1]) h'
   ·intro b b' o o' cb sz sz' e3 e4 hb hb'
    have e3' : Hn b = some o := e3
    have e4' : Hn b' = some o' := e4
    rcases inv b _ hb with ⟨h1,h'⟩ | ⟨i,h1,h2,h'⟩
    ·rcases inv b' _ hb' with ⟨h3,h''⟩ | ⟨j,h3,h4,h''⟩
     ·have e3' := (lowH b o h1 e3').1; have e4' := (lowH b' o' h3 e4').1
      exact hr.sep b b' o o' cb sz sz' e3' e4' h' h''
     ·exact (freshG j cb sz' h'' h3 (R1dom _ _ _ h')).elim
    ·rcases inv b' _ hb' with ⟨h3,h''⟩ | ⟨j,h3,h4,h''⟩
     ·exact (freshG i cb sz h' h1 (R1dom _ _ _ h'')).elim
     ·subst h2; subst h4
      obtain ⟨ct,olds,s,hg1,hno,_⟩ := hcell (objs0.length + i) (by omega) _ (by rw [objsNew,List.getElem?_eq_getElem h1])
      obtain ⟨ct',olds',s',hg2,hno',_⟩ := hcell (objs0.length + j) (by omega) _ (by rw [objsNew,List.getElem?_eq_getElem h3])
      rcases R1.sep _ _ _ _ cb sz sz' hg1 hg2 h' h'' with q | q | q
      ·left
       have := Ev.we hnd (objs0.length + i) (objs0.length + j) (Ev.rnF rn (objs0.length + i)) (rnget _ (by omega)) (by rw [q]; exact rnget _ (by omega))
       omega
      ·exact (hno' _ q (List.mem_of_getElem? (rnget _ (by omega)))).elim
      ·exact (hno _ q (List.mem_of_getElem? (rnget _ (by omega)))).elim
   ·intro b b' o o' q e3 e4 hb' hm'
    have e3' : Hn b = some o := e3
    have e4' : Hn b' = some o' := e4
    rcases inv b' _ hb' with ⟨h3,h''⟩ | ⟨j,h3,h4,h''⟩
    ·have e4' := (lowH b' o' h3 e4').1
     obtain ⟨q',hq'⟩ := hr.old b' o' q e4' h'' b hm'
     have e3' := (lowH b o (σdom b q' hq') e3').1
     exact hr.sup b b' o o' q e3' e4' h'' hm'
    ·subst h4
     rw [hiH,List.getElem?_eq_getElem h3] at e4'
     cases e4'
     simp [Vs.AObj.olds] at hm'
   ·intro b o q e3 hb b' hm'
    have e3' : Hn b = some o := e3
    rcases inv b _ hb with ⟨h1,h'⟩ | ⟨i,h1,h2,h'⟩
    ·have e3' := (lowH b o h1 e3').1
     obtain ⟨q',hq'⟩ := hr.old b o q e3' h' b' hm'
     exact ⟨q',sub _ _ hq'⟩
    ·subst h2
     rw [hiH,List.getElem?_eq_getElem h1] at e3'
     cases e3'
     simp [Vs.AObj.olds] at hm'
  have ext2 : Vs.Ext σ σ2 H Hn nx (nx + objs1.length) w w1 :=
   ⟨sub,rng,fun b hb hn => ⟨by rw [s_lo b hb]; exact hn,hHn b hb (fun h => h.2 hn)⟩,by omega,E1.os,E1.tape,E1.output,E1.size,frame⟩
  have hkn : Vs.HOK (addG Γ (psi objs0.length nx φ) nx objs1) Hn (nx + objs1.length) := by
   intro b cs e
   rcases Nat.lt_or_ge b nx with hb | hb
   ·rw [vg hb] at e
    obtain ⟨h1,olds,⟨ct,h2,h2'⟩,h3⟩ := hk b cs e
    refine ⟨by omega,olds,⟨ct,?_,h2'⟩,fun o ho => ⟨by have := (h3 o ho).1; omega,by rw [vg (h3 o ho).1]; exact (h3 o ho).2⟩⟩
    rw [hHn b hb (fun h => gO b cs e h.1)]; exact h2
   ·obtain ⟨i,rfl⟩ : ∃ i,b = nx + i := ⟨b - nx,by omega⟩
    rw [QJ] at e
    cases hi : objs1[i]? with
    | none => rw [hi] at e; cases e
    | some c =>
     rw [hi] at e
     cases e
     refine ⟨by have := (List.getElem?_eq_some_iff.1 hi).1; omega,[],⟨c.map (tr2 (psi objs0.length nx φ)),?_,List.take_length⟩,fun o ho => by cases ho⟩
     rw [hiH,hi,List.length_map]; rfl
  cases en with
  | returned v' =>
   have X1' : Ev.Den σ1 v v' := X1
   rw [← hv] at X1'
   exact hR (.ret (trU (psi objs0.length nx φ) p)) _ _ σ2 w1 _ (hK Hn hkn) rel2 ext2 (VV trans _ _ X1')
  | panicked c => exact X1.elim
  | outgrown => exact X1.elim
end
end Go.Bridge
end
section
namespace Go.Vs
open Go
variable [GTab] {w : World}
theorem YX (hg : Glob (fun _ => none) w) : Rel (fun _ => none) (all5 none) 0 w := by
 refine ⟨Nat.le_refl _,?_,?_,?_,?_,?_,hg⟩
 ·intro b cb sz e; cases e
 ·intro b o cb sz _ e; cases e
 ·intro b b' o o' cb sz sz' _ _ e; cases e
 ·intro b b' o o' p _ _ e; cases e
 ·intro b o p _ e; cases e
theorem qhm {P : Program} {f : FuncId} {argsV : List AVal} {args' : List Value} (h : TriP P f argsV (all5 none) 0 (fun e _ _ => e = .ret (.bool true)))
  (hg : Glob (fun _ => none) w) (hd : DenL (fun _ => none) argsV args') : Calls P f ⟨args'⟩ w fun e w' => e = .returned (.bool true) ∧ Ev.Kept w w' := by
 refine h (fun _ => none) w args' _ (YX hg) hd ?_
 intro e H' nx' σ' w' en k R1 E1 X1
 subst k
 cases en <;> try exact X1.elim
 rename_i v
 have hv : Den σ' (.bool true) v := X1
 cases hv
 exact ⟨rfl,E1.os,E1.output,E1.size,fun i hi => E1.frame i hi fun _ _ e => by cases e⟩
end Go.Vs
end
