/-
  Own work. Operations on abstract values: what each does, and that it does what the model's does. Part 1: no new memory.
-/
import Derived.Test.YtdigeeejmgkcoaaGreatDoorEvRel
import GoSem.Dispatch
import Derived.Laws.Strings
import Derived.Laws.Concat
import Derived.Lib.Strings
import Derived.IntWalk
namespace Go.Ev
variable [GTab]
set_option linter.unusedSectionVars false
noncomputable section

inductive ARes where
  | val (v : AVal) (H : Heap) (nx : Nat)
  | call (f : FuncId) (args : List AVal)
  | dfr (f : FuncId) (args : List AVal)
  | pan (v : AVal)
  | rcv

/-- A deferred call. -/
def DDen (σ : Sg) (f : FuncId) (args : List AVal) (d : Deferred) : Prop :=
  ∃ cap, d.target = .fn (.func f) cap ∧ DenL σ args (d.args ++ cap).toList

def OpOK (P : Program) (o : Oper) (ρ : Operand → AVal) (H : Heap) (nx : Nat) (r : ARes) : Prop :=
  ∀ (σ : Sg) (w : World) (ρ' : Operand → Value), Rel σ H nx w → (∀ x, Den σ (ρ x) (ρ' x)) →
    match r with
    | .val v H' nx' => ∃ σ' w' v', Rel σ' H' nx' w' ∧ Ext σ σ' H H' nx nx' w w' ∧ Den σ' v v' ∧
        ((execOp ρ' o).run P w = .ok (.value v') w' ∨ ((execOp ρ' o).run P w = .ok .skip w' ∧ v' = undef))
    | .call f args => ∃ args', DenL σ args args' ∧ (execOp ρ' o).run P w = .ok (.enter f ⟨args'⟩) w
    | .dfr f args => ∃ d, DDen σ f args d ∧ (execOp ρ' o).run P w = .ok (.defer d) w
    | .pan v => ∃ v', Den σ v v' ∧ (execOp ρ' o).run P w = .halt (.panic v') w
    | .rcv => (execOp ρ' o).run P w = .ok .recover w

/-- Nothing of memory is touched. -/
theorem OpOK.pure {P : Program} {o : Oper} {ρ : Operand → AVal} {H : Heap} {nx : Nat} {v : AVal}
    (h : ∀ (σ : Sg) (w : World) (ρ' : Operand → Value), Rel σ H nx w → (∀ x, Den σ (ρ x) (ρ' x)) → ∃ v', Den σ v v' ∧ (execOp ρ' o).run P w = .ok (.value v') w) :
    OpOK P o ρ H nx (.val v H nx) := by
  intro σ w ρ' hr hd
  obtain ⟨v', h1, h2⟩ := h σ w ρ' hr hd
  exact ⟨σ, w, v', hr, Ext.refl _ _ _ _, h1, .inl h2⟩

/-! ### The types -/
theorem run_underlying' {P : Program} {w : World} {t : TypeId} {d : TypeDesc} (h : P.underlying t = some d) : (underlying t).run P w = .ok d w := by
  simp [underlying, h]
theorem run_typeInfo' {P : Program} {w : World} {t : TypeId} {i : TypeInfo} (h : P.info? t = some i) : (typeInfo t).run P w = .ok i w := by
  simp [typeInfo, h]
theorem run_sizeOf' {P : Program} {w : World} {t : TypeId} {i : TypeInfo} (h : P.info? t = some i) : (sizeOf t).run P w = .ok i.size w := by
  simp [sizeOf, run_typeInfo' h]
theorem run_zeroValue' {P : Program} {w : World} {t : TypeId} {i : TypeInfo} {v : Value} (h : P.info? t = some i) (hz : i.zero = some v) : (zeroValue t).run P w = .ok v w := by
  simp [zeroValue, run_typeInfo' h, hz]

def aggD : TypeDesc → Bool
  | .struct _ | .array _ _ => true
  | _ => false

theorem run_isAgg' {P : Program} {w : World} {t : TypeId} {d : TypeDesc} (h : P.underlying t = some d) : (isAgg t).run P w = .ok (aggD d) w := by
  simp only [isAgg, Sem.run_bind, run_underlying' h, Result.andThen_ok]
  cases d <;> rfl

/-! ### Constants -/
def ofCell : Value → AVal
  | .bool b => .bool b
  | .int k n => .int k n
  | .string s => .str s.data.toList.length (numL 0 s.data.toList)
  | .pointer none => .nilPtr
  | .slice none 0 0 => .nilSlice
  | .map none => .nilMap
  | .nilFunc => .nilFunc
  | .nilIface => .nilIface
  | _ => .und

def ofVal : Value → AVal
  | .agg cs => .agg (cs.toList.map ofCell)
  | v => ofCell v

theorem den_ofCell (σ : Sg) (v : Value) : Den σ (ofCell v) v := by
  unfold ofCell
  split <;> first | constructor | skip
  · rename_i s
    have := Den.str (σ := σ) s.data.toList.length (numL 0 s.data.toList) (numL_lt _)
    rwa [dec_numL] at this

theorem denL_ofCell (σ : Sg) : ∀ l : List Value, DenL σ (l.map ofCell) l
  | [] => .nil
  | v :: l => .cons (den_ofCell σ v) (denL_ofCell σ l)

theorem den_ofVal (σ : Sg) (v : Value) : Den σ (ofVal v) v := by
  unfold ofVal
  split
  · rename_i cs; exact Den.agg (denL_ofCell σ cs.toList)
  · exact den_ofCell σ v

/-! ### Simple operations -/
def opMove (x : Operand) (ρ : Operand → AVal) (H : Heap) (nx : Nat) : Option ARes := some (.val (ρ x) H nx)

theorem opMove_ok {P : Program} {o : Oper} {x : Operand} {ρ : Operand → AVal} {H : Heap} {nx : Nat} {r : ARes} (ho : o.op = .move x ∨ o.op = .assign x)
    (h : opMove x ρ H nx = some r) : OpOK P o ρ H nx r := by
  cases h
  refine OpOK.pure fun σ w ρ' _ hd => ⟨ρ' x, hd x, ?_⟩
  rcases ho with e | e <;> simp [execOp, e]

def opPick (c a b : Operand) (ρ : Operand → AVal) (H : Heap) (nx : Nat) : Option ARes :=
  match ρ c with
  | .bool true => some (.val (ρ a) H nx)
  | .bool false => some (.val (ρ b) H nx)
  | _ => none

theorem opPick_ok {P : Program} {o : Oper} {c a b : Operand} {ρ : Operand → AVal} {H : Heap} {nx : Nat} {r : ARes} (ho : o.op = .pick c a b)
    (h : opPick c a b ρ H nx = some r) : OpOK P o ρ H nx r := by
  unfold opPick at h
  split at h
  · rename_i hc
    cases h
    refine OpOK.pure fun σ w ρ' _ hd => ⟨ρ' a, hd a, ?_⟩
    have := hd c; rw [hc] at this
    cases hv : ρ' c <;> rw [hv] at this <;> cases this
    simp [execOp, ho, hv, asBool]
  · rename_i hc
    cases h
    refine OpOK.pure fun σ w ρ' _ hd => ⟨ρ' b, hd b, ?_⟩
    have := hd c; rw [hc] at this
    cases hv : ρ' c <;> rw [hv] at this <;> cases this
    simp [execOp, ho, hv, asBool]
  · cases h

/-! ### Loads -/
def aLoad (P : Program) (t : TypeId) (H : Heap) (v : AVal) : Option AVal :=
  match v with
  | .ptr b off =>
    match get5 b H with
    | some (.cells n ct _ _) =>
      match P.underlying t, P.info? t with
      | some d, some i =>
        match aggD d with
        | true => match Nat.ble (Nat.add off i.size) n with
          | true => some (.agg (CT.slab ct i.size off))
          | false => none
        | false => match Nat.ble (Nat.succ off) n with
          | true => some (CT.get off ct)
          | false => none
      | _, _ => none
    | _ => none
  | .gptr g off =>
    match GTab.tab g with
    | some l =>
      match P.underlying t, P.info? t with
      | some d, some i =>
        match aggD d with
        | true => match Nat.ble (Nat.add off i.size) l.length with
          | true => some (.agg ((l.drop off).take i.size))
          | false => none
        | false => l[off]?
      | _, _ => none
    | none => none
  | _ => none

/-- The values of some cells of a package-level variable, as the model reads them. -/
theorem load_glob {σ : Sg} {w : World} {g : Nat} {l : List AVal} (h : Glob σ w) (hl : GTab.tab g = some l) (P : Program) (off k : Nat) (hk : off + k ≤ l.length) :
    ∃ l' : List Value, (∀ τ : Sg, DenL τ ((l.drop off).take k) l') ∧ (loadCells (at' g off) k).run P w = .ok ⟨l'⟩ w := by
  obtain ⟨_, _, h3⟩ := h.var g l hl
  have hf : ∀ j, j < k → ∃ v', w.cell? (at' g (off + j)) = some v' ∧ ∀ τ : Sg, Den τ (l[off + j]?.getD .und) v' := by
    intro j hj
    have hlt : off + j < l.length := by omega
    obtain ⟨v', e, d⟩ := h3 (off + j) l[off + j] (by simp [List.getElem?_eq_getElem hlt])
    exact ⟨v', e, by simpa [List.getElem?_eq_getElem hlt] using d⟩
  refine ⟨(List.range k).map fun j => (w.cell? (at' g (off + j))).getD undef, fun τ => ?_, ?_⟩
  · refine DenL.of_get (by simp; omega) ?_
    intro i v v' e1 e2
    have hi : i < k := by
      rcases Nat.lt_or_ge i k with h | h
      · exact h
      · rw [List.getElem?_eq_none (by simp; omega)] at e2; cases e2
    obtain ⟨u, q1, q2⟩ := hf i hi
    simp [hi, q1] at e2
    subst e2
    have hlt : off + i < l.length := by omega
    have : v = l[off + i]?.getD .und := by
      simp [hi, List.getElem?_drop, List.getElem?_eq_getElem hlt] at e1
      simp [List.getElem?_eq_getElem hlt, e1]
    rw [this]
    exact q2 τ
  · refine run_loadCells (P := P) w (at' g off) k _ (fun j hj => ?_)
    obtain ⟨u, q1, _⟩ := hf j hj
    rw [addr_add, q1]
    simp

/-- The values of some cells of a block, as the model reads them. -/
theorem load_slab {σ : Sg} {H : Heap} {nx b n cb sz : Nat} {w : World} {ct : CT} {olds : List Nat} {s : Bool} (h : Rel σ H nx w) (ho : get5 b H = some (.cells n ct olds s)) (hb : σ b = some (cb, sz))
    (P : Program) (off k : Nat) (hk : off + k ≤ n) : ∃ l : List Value, l.length = k ∧ DenL σ (CT.slab ct k off) l ∧ (∀ j, j < k → w.cell? (at' cb (off + j)) = l[j]?) ∧ (loadCells (at' cb off) k).run P w = .ok ⟨l⟩ w := by
  obtain ⟨_, _, _, h4⟩ := h.obj b _ cb sz ho hb
  have f : ∃ f : Nat → Value, ∀ j, j < k → w.cell? (at' cb (off + j)) = some (f j) ∧ Den σ (ct.get (off + j)) (f j) := by
    refine ⟨fun j => (w.cell? (at' cb (off + j))).getD undef, fun j hj => ?_⟩
    obtain ⟨v', e, d⟩ := h4 (off + j) (by omega)
    simp only [e, Option.getD_some]
    exact ⟨trivial, d⟩
  obtain ⟨f, hf⟩ := f
  refine ⟨(List.range k).map f, by simp, ?_, ?_, ?_⟩
  · refine DenL.of_get (by simp [CT.slab_length]) ?_
    intro i v v' e1 e2
    have hi : i < k := by
      rcases Nat.lt_or_ge i k with h | h
      · exact h
      · rw [List.getElem?_eq_none (by simp [CT.slab_length]; exact h)] at e1; cases e1
    rw [CT.slab_get ct k off i hi] at e1
    cases e1
    simp [hi] at e2
    subst e2
    exact (hf i hi).2
  · intro j hj
    rw [(hf j hj).1]
    simp [hj]
  · exact run_loadCells (P := P) w (at' cb off) k f (fun j hj => by rw [addr_add]; exact (hf j hj).1)

theorem aLoad_ok {P : Program} {t : TypeId} {H : Heap} {v x : AVal} {σ : Sg} {nx : Nat} {w : World} {v' : Value} (hr : Rel σ H nx w) (hv : Den σ v v') (h : aLoad P t H v = some x) :
    ∃ x', Den σ x x' ∧ (Instr.loadAt t v').run P w = .ok x' w := by
  unfold aLoad at h
  split at h
  · rename_i b off
    split at h
    · rename_i n ct olds s ho
      split at h
      · rename_i d i hd hi
        cases hv with
        | @ptr _ _ cb sz hb =>
          split at h
          · rename_i hagg
            split at h
            · rename_i hle
              have hle' := Nat.le_of_ble_eq_true hle
              cases h
              obtain ⟨l, _, hl, _, hrun⟩ := load_slab hr ho hb P off i.size hle'
              exact ⟨_, .agg hl, by simp [Instr.loadAt, Instr.sureAddr, loadVar, run_isAgg' hd, hagg, run_sizeOf' hi, hrun]⟩
            · cases h
          · rename_i hagg
            split at h
            · rename_i hle
              have hle' := Nat.le_of_ble_eq_true hle
              cases h
              obtain ⟨_, _, _, h4⟩ := hr.obj b _ cb sz ho hb
              obtain ⟨u, e, du⟩ := h4 off (by omega)
              exact ⟨u, du, by simp [Instr.loadAt, Instr.sureAddr, loadVar, run_isAgg' hd, hagg, e]⟩
            · cases h
      · cases h
    · cases h
  · rename_i g off
    split at h <;> first | (cases h; done) | skip
    rename_i l hl
    split at h <;> first | (cases h; done) | skip
    rename_i d i hd hi
    cases hv
    split at h
    · rename_i hagg
      split at h <;> first | (cases h; done) | skip
      rename_i hle
      have hle' : off + i.size ≤ l.length := Nat.le_of_ble_eq_true hle
      cases h
      obtain ⟨l', hd', hrun⟩ := load_glob hr.glob hl P off i.size hle'
      exact ⟨_, .agg (hd' σ), by simp [Instr.loadAt, Instr.sureAddr, loadVar, run_isAgg' hd, hagg, run_sizeOf' hi, hrun]⟩
    · rename_i hagg
      obtain ⟨_, _, h3⟩ := hr.glob.var g l hl
      obtain ⟨v', e, du⟩ := h3 off x h
      exact ⟨v', du σ, by simp [Instr.loadAt, Instr.sureAddr, loadVar, run_isAgg' hd, hagg, e]⟩
  · cases h

def opLoad (P : Program) (t : TypeId) (a : Operand) (ρ : Operand → AVal) (H : Heap) (nx : Nat) : Option ARes :=
  match aLoad P t H (ρ a) with
  | some v => some (.val v H nx)
  | none => none

theorem opLoad_ok {P : Program} {o : Oper} {t : TypeId} {a : Operand} {ρ : Operand → AVal} {H : Heap} {nx : Nat} {r : ARes} (ho : o.op = .load t a)
    (h : opLoad P t a ρ H nx = some r) : OpOK P o ρ H nx r := by
  unfold opLoad at h
  split at h
  · rename_i v hv
    cases h
    refine OpOK.pure fun σ w ρ' hr hd => ?_
    obtain ⟨x', dx, hrun⟩ := aLoad_ok hr (hd a) hv
    exact ⟨x', dx, by simp [execOp, ho, hrun]⟩
  · cases h

/-! ### Stores -/
/-- The cells of a value. -/
def acells : AVal → Option (List AVal)
  | .und => none
  | .tuple _ => none
  | .agg cs => some cs
  | v => some [v]

theorem acells_ok {σ : Sg} {v : AVal} {v' : Value} {cs : List AVal} (h : acells v = some cs) (hd : Den σ v v') : DenL σ cs v'.cells.toList := by
  unfold acells at h
  split at h
  · cases h
  · cases h
  · cases h; cases hd with | agg hl => exact hl
  · rename_i h1 h2 h3
    cases h
    have e : v'.cells = #[v'] := by
      cases hd <;> first
        | rfl
        | exact (h1 rfl).elim
        | exact (h2 _ rfl).elim
        | exact (h3 _ rfl).elim
    rw [e]
    exact .cons hd .nil

/-- May it lie in one cell? -/
def cellv : AVal → Bool
  | .und | .agg _ | .tuple _ => false
  | _ => true

theorem cellv_ok {σ : Sg} {v : AVal} {v' : Value} (h : cellv v = true) (hd : Den σ v v') : v'.oneCell' = true := by
  cases hd <;> first | rfl | (simp [cellv] at h)

def allCell : List AVal → Bool
  | [] => true
  | v :: l => match cellv v with | true => allCell l | false => false

theorem allCell_ok {σ : Sg} : ∀ {l : List AVal} {l' : List Value}, allCell l = true → DenL σ l l' → ∀ v, v ∈ l' → v.oneCell' = true
  | _, _, _, .nil, v, h => by simp at h
  | a :: l, b :: l', ha, .cons hd t, v, h => by
    unfold allCell at ha
    split at ha
    · rename_i hc
      rcases List.mem_cons.1 h with rfl | h
      · exact cellv_ok hc hd
      · exact allCell_ok ha t v h
    · cases ha

/-- A whole block's cells are turned at once. -/
def relay (l : List AVal) (len off n : Nat) (ct : CT) : CT :=
  match Nat.beq off 0, Nat.beq len n, Nat.ble n 4096 with
  | true, true, true => CT.ofL n l
  | _, _, _ => CT.lay l off ct

theorem relay_cap {l : List AVal} {off n : Nat} {ct : CT} (h : n ≤ ct.cap) : n ≤ (relay l l.length off n ct).cap := by
  unfold relay
  split
  · rename_i h3; exact CT.ofL_cap n l (Nat.le_of_ble_eq_true h3)
  · rw [CT.lay_cap]; exact h

theorem relay_get {l : List AVal} {off n : Nat} {ct : CT} (h : n ≤ ct.cap) (_ho : off + l.length ≤ n) (i : Nat) (hi : i < n) : (relay l l.length off n ct).get i = (CT.lay l off ct).get i := by
  unfold relay
  split
  · rename_i h1 h2 h3
    have e1 := Nat.eq_of_beq_eq_true h1
    have e2 := Nat.eq_of_beq_eq_true h2
    rw [CT.get_ofL n l i (Nat.le_of_ble_eq_true h3) hi, CT.lay_get l off ct i (by omega) (by omega), if_pos (by omega)]
    congr 1
    omega
  · rfl

def aStore (P : Program) (t : TypeId) (H : Heap) (a x : AVal) : Option Heap :=
  match a, acells x, P.info? t with
  | .ptr b off, some cs, some i =>
    match get5 b H with
    | some (.cells n ct olds false) =>
      match Nat.beq cs.length i.size, Nat.ble (Nat.add off i.size) n, allCell cs with
      | true, true, true => some (set5 b (some (.cells n (relay cs i.size off n ct) [] false)) (dels olds H))
      | _, _, _ => none
    | _ => none
  | _, _, _ => none

/-- A heap whose objects say the same of the cells. -/
theorem Rel.relay {σ : Sg} {H : Heap} {nx b n : Nat} {w : World} {ct ct' : CT} {olds : List Nat} {s : Bool} (h : Rel σ (set5 b (some (.cells n ct olds s)) H) nx w) (hb : ∃ p, σ b = some p)
    (hcap : n ≤ ct'.cap) (hg : ∀ i, i < n → ct'.get i = ct.get i) : Rel σ (set5 b (some (.cells n ct' olds s)) H) nx w := by
  obtain ⟨⟨cb, sz⟩, hb⟩ := hb
  have hlim := h.lim
  have lt : ∀ {c p}, σ c = some p → c < 1048576 := fun {c p} hc => by obtain ⟨cb, sz⟩ := p; have := (h.dom c cb sz hc).1; omega
  have bn := lt hb
  have key : ∀ c o, c < 1048576 → get5 c (set5 b (some (.cells n ct' olds s)) H) = some o → ∃ o', get5 c (set5 b (some (.cells n ct olds s)) H) = some o' ∧ o'.olds = o.olds ∧ o'.sup = o.sup := by
    intro c o hc e
    by_cases hcb : b = c
    · subst hcb; rw [get5_set5_same] at e; cases e; exact ⟨_, get5_set5_same _ _ _, rfl, rfl⟩
    · rw [get5_ne hcb bn hc] at e; exact ⟨o, by rw [get5_ne hcb bn hc]; exact e, rfl, rfl⟩
  refine ⟨h.lim, h.dom, ?_, ?_, ?_, ?_, h.glob⟩
  · intro c o x z e1 e2
    by_cases hcb : b = c
    · subst hcb
      rw [get5_set5_same] at e1
      cases e1
      obtain ⟨a1, a2, a3, a4⟩ := h.obj b _ x z (get5_set5_same _ _ _) e2
      exact ⟨a1, hcap, a3, fun i hi => by rw [hg i hi]; exact a4 i hi⟩
    · rw [get5_ne hcb bn (lt e2)] at e1
      exact h.obj c o x z (by rw [get5_ne hcb bn (lt e2)]; exact e1) e2
  · intro c c' o o' x z z' e1 e2 e3 e4
    obtain ⟨p, f1, g1, _⟩ := key c o (lt e3) e1
    obtain ⟨q, f2, g2, _⟩ := key c' o' (lt e4) e2
    rw [← g1, ← g2]
    exact h.sep c c' p q x z z' f1 f2 e3 e4
  · intro c c' o o' p e1 e2 e3 e4
    obtain ⟨q, f2, g2, _⟩ := key c' o' (lt e3) e2
    rw [← g2] at e4
    obtain ⟨p', hp'⟩ := h.old c' q p f2 e3 c e4
    obtain ⟨r, f1, _, g1⟩ := key c o (lt hp') e1
    rw [← g1]
    exact h.sup c c' r q p f1 f2 e3 e4
  · intro c o p e1 e2 c' e3
    obtain ⟨q, f1, g1, _⟩ := key c o (lt e2) e1
    rw [← g1] at e3
    exact h.old c q p f1 e2 c' e3

theorem Ext.relay {σ σ' : Sg} {H H' : Heap} {nx nx' b : Nat} {w w' : World} {x y : Option AObj} (h : Ext σ σ' H (set5 b x H') nx nx' w w') (hb : ∃ p, σ b = some p) (bn : b < 1048576) (hl : nx ≤ 1048576) :
    Ext σ σ' H (set5 b y H') nx nx' w w' := by
  obtain ⟨p, hb⟩ := hb
  refine { h with pend := fun c hc hn => ?_ }
  obtain ⟨h1, h2⟩ := h.pend c hc hn
  refine ⟨h1, ?_⟩
  have hcb : b ≠ c := fun e => by subst e; rw [hb] at hn; cases hn
  rw [get5_ne hcb bn (by omega)] at h2 ⊢
  exact h2

theorem aStore_ok {P : Program} {t : TypeId} {H H' : Heap} {a x : AVal} {σ : Sg} {nx : Nat} {w : World} {a' x' : Value} (hr : Rel σ H nx w) (ha : Den σ a a') (hx : Den σ x x')
    (h : aStore P t H a x = some H') : ∃ w', Rel σ H' nx w' ∧ Ext σ σ H H' nx nx w w' ∧ (Instr.storeAt t a' x').run P w = .ok () w' := by
  unfold aStore at h
  split at h
  · rename_i b off cs i hcs hi
    split at h
    · rename_i n ct olds ho
      split at h
      · rename_i h1 h2 h3
        have e1 := Nat.eq_of_beq_eq_true h1
        have e2 := Nat.le_of_ble_eq_true h2
        cases h
        cases ha with
        | @ptr _ _ cb sz hb =>
          have hlim := hr.lim
          have bn : b < 1048576 := by have := (hr.dom b cb sz hb).1; omega
          have hl := acells_ok hcs hx
          obtain ⟨o1, o2, o3, o4⟩ := hr.obj b _ cb sz ho hb
          have hadd : off + cs.length ≤ n := by simp at e2; omega
          obtain ⟨r1, r2⟩ := hr.store hb ho hadd hl
          rw [← e1]
          refine ⟨setCells w cb off x'.cells.toList, r1.relay ⟨_, hb⟩ (relay_cap o2) (relay_get o2 hadd), r2.relay ⟨_, hb⟩ bn hlim, ?_⟩
          have hlen := hl.length
          have hrun := run_storeCells (P := P) x'.cells.toList w cb off 0 (allCell_ok h3 hl) (fun k hk1 hk2 => o3 k (by omega))
          have hsz : x'.cells.size = i.size := by rw [← e1, hlen]; simp
          simp only [Instr.storeAt, Instr.sureAddr, storeVar, Sem.run_bind, Sem.run_pure, Result.andThen_ok, run_sizeOf' hi, hsz, Sem.run_ite]
          simpa using hrun
      · cases h
    · cases h
  · cases h

def opStore (P : Program) (t : TypeId) (a x : Operand) (ρ : Operand → AVal) (H : Heap) (nx : Nat) : Option ARes :=
  match aStore P t H (ρ a) (ρ x) with
  | some H' => some (.val .und H' nx)
  | none => none

theorem opStore_ok {P : Program} {o : Oper} {t : TypeId} {a x : Operand} {ρ : Operand → AVal} {H : Heap} {nx : Nat} {r : ARes} (ho : o.op = .store t a x)
    (h : opStore P t a x ρ H nx = some r) : OpOK P o ρ H nx r := by
  unfold opStore at h
  split at h
  · rename_i H' hv
    cases h
    intro σ w ρ' hr hd
    obtain ⟨w', r1, r2, hrun⟩ := aStore_ok hr (hd a) (hd x) hv
    exact ⟨σ, w', undef, r1, r2, .und _, .inr ⟨by simp [execOp, ho, hrun], rfl⟩⟩
  · cases h

end
end Go.Ev

namespace Go.Ev
variable [GTab]
set_option linter.unusedSectionVars false
noncomputable section

/-! ### Numbers -/
/-- A number is brought to its last form ahead of what follows. -/
def forceI {β : Type} (n : Int) (k : Int → β) : β :=
  Int.rec (motive := fun _ => (Int → β) → β) (fun a k => Nat.rec (k (.ofNat 0)) (fun m _ => k (.ofNat (Nat.succ m))) a) (fun a k => Nat.rec (k (.negSucc 0)) (fun m _ => k (.negSucc (Nat.succ m))) a) n k

theorem forceI_eq {β : Type} (n : Int) (k : Int → β) : forceI n k = k n := by
  cases n with
  | ofNat a => cases a <;> rfl
  | negSucc a => cases a <;> rfl

def forceN {β : Type} (n : Nat) (k : Nat → β) : β := Nat.rec (motive := fun _ => β) (k 0) (fun m _ => k (Nat.succ m)) n

theorem forceN_eq {β : Type} (n : Nat) (k : Nat → β) : forceN n k = k n := by cases n <;> rfl

def fits (k : IntKind) (n : Int) : Bool :=
  Int.rec (motive := fun _ => IntKind → Bool)
    (fun a k => IntKind.rec (Nat.ble a 127) (Nat.ble a 32767) (Nat.ble a 2147483647) (Nat.ble a 9223372036854775807) (Nat.ble a 255) (Nat.ble a 65535) (Nat.ble a 4294967295) (Nat.ble a 18446744073709551615) k)
    (fun a k => IntKind.rec (Nat.ble a 127) (Nat.ble a 32767) (Nat.ble a 2147483647) (Nat.ble a 9223372036854775807) false false false false k) n k

theorem fits_ok {k : IntKind} {n : Int} (h : fits k n = true) : k.wrap n = n := by
  have le : ∀ {a b : Nat}, Nat.ble a b = true → a ≤ b := fun h => Nat.le_of_ble_eq_true h
  cases n with
  | ofNat a =>
    have e : Int.ofNat a = (a : Int) := rfl
    rw [e] at h ⊢
    cases k
    · have := le (b := 127) h; exact IntWalk.i8_in _ (by omega)
    · have := le (b := 32767) h; exact IntWalk.i16_in _ (by omega)
    · have := le (b := 2147483647) h; exact IntWalk.i32_in _ (by omega)
    · have := le (b := 9223372036854775807) h; exact IntWalk.i64_in _ (by omega)
    · have := le (b := 255) h; exact IntWalk.u8_in _ (by omega)
    · have := le (b := 65535) h; exact IntWalk.u16_in _ (by omega)
    · have := le (b := 4294967295) h; exact IntWalk.u32_in _ (by omega)
    · have := le (b := 18446744073709551615) h; exact IntWalk.u64_in _ (by omega)
  | negSucc a =>
    cases k
    · have := le (b := 127) h; exact IntWalk.i8_in _ (by omega)
    · have := le (b := 32767) h; exact IntWalk.i16_in _ (by omega)
    · have := le (b := 2147483647) h; exact IntWalk.i32_in _ (by omega)
    · have := le (b := 9223372036854775807) h; exact IntWalk.i64_in _ (by omega)
    all_goals (cases h)

def awrap (k : IntKind) (n : Int) : Int := Bool.rec (k.wrap n) n (fits k n)

theorem awrap_eq (k : IntKind) (n : Int) : awrap k n = k.wrap n := by
  unfold awrap
  cases h : fits k n with
  | true => exact (fits_ok h).symm
  | false => rfl

def ilt (a b : Int) : Bool := Int.rec (motive := fun _ => Int → Bool) (fun x b => Int.rec (motive := fun _ => Nat → Bool) (fun y x => Nat.ble (Nat.succ x) y) (fun _ _ => false) b x) (fun x b => Int.rec (motive := fun _ => Nat → Bool) (fun _ _ => true) (fun y x => Nat.ble (Nat.succ y) x) b x) a b
def ieq (a b : Int) : Bool := Int.rec (motive := fun _ => Int → Bool) (fun x b => Int.rec (motive := fun _ => Nat → Bool) (fun y x => Nat.beq x y) (fun _ _ => false) b x) (fun x b => Int.rec (motive := fun _ => Nat → Bool) (fun _ _ => false) (fun y x => Nat.beq x y) b x) a b

theorem ilt_eq (a b : Int) : ilt a b = decide (a < b) := by
  rw [Bool.eq_iff_iff, decide_eq_true_iff]
  cases a with
  | ofNat x => cases b with
    | ofNat y => show Nat.ble (x + 1) y = true ↔ _; rw [Nat.ble_eq]; simp; omega
    | negSucc y => show false = true ↔ _; simp; omega
  | negSucc x => cases b with
    | ofNat y => show true = true ↔ _; simp; omega
    | negSucc y => show Nat.ble (y + 1) x = true ↔ _; rw [Nat.ble_eq]; omega

theorem ieq_eq (a b : Int) : ieq a b = (a == b) := by
  rw [Bool.eq_iff_iff, beq_iff_eq]
  cases a with
  | ofNat x => cases b with
    | ofNat y => show Nat.beq x y = true ↔ _; rw [Nat.beq_eq]; simp; omega
    | negSucc y => show false = true ↔ _; simp
  | negSucc x => cases b with
    | ofNat y => show false = true ↔ _; simp
    | negSucc y => show Nat.beq x y = true ↔ _; rw [Nat.beq_eq]; simp

def bnot (b : Bool) : Bool := Bool.rec true false b
theorem bnot_eq (b : Bool) : bnot b = !b := by cases b <;> rfl

/-- Two numbers of one kind. -/
def aInt (op : BinOp) (k : IntKind) (a b : Int) : Option AVal :=
  match op with
  | .add => forceI (awrap k (Int.add a b)) fun r => some (.int k r)
  | .sub => forceI (awrap k (Int.sub a b)) fun r => some (.int k r)
  | .mul => forceI (awrap k (Int.mul a b)) fun r => some (.int k r)
  | .quo => match ieq b 0 with | true => none | false => forceI (awrap k (Int.tdiv a b)) fun r => some (.int k r)
  | .rem => match ieq b 0 with | true => none | false => forceI (Int.tmod a b) fun r => some (.int k r)
  | .and => forceI (k.wrap (BitVec.ofInt k.bits a &&& BitVec.ofInt k.bits b).toNat) fun r => some (.int k r)
  | .or => forceI (k.wrap (BitVec.ofInt k.bits a ||| BitVec.ofInt k.bits b).toNat) fun r => some (.int k r)
  | .xor => forceI (k.wrap (BitVec.ofInt k.bits a ^^^ BitVec.ofInt k.bits b).toNat) fun r => some (.int k r)
  | .andNot => forceI (k.wrap (BitVec.ofInt k.bits a &&& ~~~BitVec.ofInt k.bits b).toNat) fun r => some (.int k r)
  | .eql => some (.bool (ieq a b))
  | .neq => some (.bool (bnot (ieq a b)))
  | .lss => some (.bool (ilt a b))
  | .leq => some (.bool (bnot (ilt b a)))
  | .gtr => some (.bool (ilt b a))
  | .geq => some (.bool (bnot (ilt a b)))
  | _ => none

def aShift (op : BinOp) (k : IntKind) (a b : Int) : Option AVal :=
  match ilt b 0, op with
  | false, .shl => forceI (k.wrap (a * 2 ^ (min b.toNat k.bits))) fun r => some (.int k r)
  | false, .shr => forceI (a.fdiv (2 ^ (min b.toNat k.bits))) fun r => some (.int k r)
  | _, _ => none

theorem aInt_ok {P : Program} {w : World} {op : BinOp} {k : IntKind} {a b : Int} {t : TypeId} {v : AVal} (σ : Sg) (h : aInt op k a b = some v) :
    ∃ v', Den σ v v' ∧ (binOp op t (.int k a) (.int k b)).run P w = .ok v' w := by
  unfold aInt at h
  split at h
  all_goals (first | (cases h; done) | skip)
  all_goals (simp only [forceI_eq, awrap_eq, ieq_eq, ilt_eq, bnot_eq] at h)
  case h_4 => split at h <;> first | (cases h; done) | (rename_i hz; cases h; exact ⟨_, .int _ _, by have : ¬ b = 0 := (by simpa using hz); simp [binOp, Op.intDiv, this]⟩)
  case h_5 => split at h <;> first | (cases h; done) | (rename_i hz; cases h; exact ⟨_, .int _ _, by have : ¬ b = 0 := (by simpa using hz); simp [binOp, Op.intDiv, this]⟩)
  all_goals (cases h)
  all_goals first
    | (refine ⟨_, .int _ _, ?_⟩; simp only [binOp, ne_eq, not_true_eq_false, if_false, Op.intArith, Op.intBits]; rfl)
    | (refine ⟨_, .bool _, ?_⟩; simp only [binOp, ne_eq, not_true_eq_false, if_false, Op.intCmp, Sem.run_pure]; done)
    | (refine ⟨_, .bool _, ?_⟩; simp only [binOp, ne_eq, not_true_eq_false, if_false, Op.intCmp, Sem.run_pure]; rfl)
    | (refine ⟨_, .bool _, ?_⟩; simp only [binOp, ne_eq, not_true_eq_false, if_false, Op.intCmp, Sem.run_pure]; congr 2; rw [Bool.eq_iff_iff]; simp)

theorem aShift_ok {P : Program} {w : World} {op : BinOp} {k k' : IntKind} {a b : Int} {t : TypeId} {v : AVal} (σ : Sg) (h : aShift op k a b = some v) :
    ∃ v', Den σ v v' ∧ (binOp op t (.int k a) (.int k' b)).run P w = .ok v' w := by
  unfold aShift at h
  split at h
  · rename_i h1
    rw [ilt_eq] at h1
    have h2 : ¬ b < 0 := by simpa using h1
    rw [forceI_eq] at h
    cases h
    exact ⟨_, .int _ _, by simp [binOp, Op.shift, h2]⟩
  · rename_i h1
    rw [ilt_eq] at h1
    have h2 : ¬ b < 0 := by simpa using h1
    rw [forceI_eq] at h
    cases h
    exact ⟨_, .int _ _, by simp [binOp, Op.shift, h2]⟩
  · cases h

/-! ### Texts -/
theorem dec_toList (n x : Nat) : (dec n x).toList = digs n x := by rw [ByteArray.toList_eq]; rfl

theorem dec_append (n m x y : Nat) (h : y < 256 ^ m) : dec n x ++ dec m y = dec (n + m) (x * 256 ^ m + y) := by
  unfold dec
  rw [ByteArray.mk_append_mk, digs_append n m x y h]

theorem lt_append {n m x y : Nat} (hx : x < 256 ^ n) (hy : y < 256 ^ m) : x * 256 ^ m + y < 256 ^ (n + m) := by
  rw [Nat.pow_add]
  have : (x + 1) * 256 ^ m ≤ 256 ^ n * 256 ^ m := Nat.mul_le_mul_right _ hx
  rw [Nat.add_mul] at this
  omega

theorem dec_extract (n x a b : Nat) (hb : b ≤ n) (hab : a ≤ b) : (dec n x).extract a b = dec (b - a) (x / 256 ^ (n - b) % 256 ^ (b - a)) := by
  rw [Lib.extract_eq, dec_data, digs_piece n x a b hb hab]
  rfl

theorem pow256 (m : Nat) : (256 : Nat) ^ m = 2 ^ (8 * m) := by rw [Nat.pow_mul]

/-- Bytes a to b of a text. -/
def cutX (n x a b : Nat) : Nat := Nat.mod (Nat.shiftRight x (Nat.mul 8 (Nat.sub n b))) (Nat.pow 2 (Nat.mul 8 (Nat.sub b a)))

theorem cutX_eq (n x a b : Nat) : cutX n x a b = x / 256 ^ (n - b) % 256 ^ (b - a) := by
  rw [pow256, pow256, ← Nat.shiftRight_eq_div_pow]
  rfl

def aText (op : BinOp) (n x m y : Nat) : Option AVal :=
  match op with
  | .add => match Nat.ble (Nat.add n m) 9223372036854775807 with
    | true => forceN (Nat.add n m) fun l => forceN (Nat.add (Nat.shiftLeft x (Nat.mul 8 m)) y) fun z => some (.str l z)
    | false => none
  | .eql => some (.bool (Bool.rec false (Nat.beq x y) (Nat.beq n m)))
  | .neq => some (.bool (Bool.rec true (bnot (Nat.beq x y)) (Nat.beq n m)))
  | _ => none

theorem textEq {n x m y : Nat} (hx : x < 256 ^ n) (hy : y < 256 ^ m) : ((dec n x).toList == (dec m y).toList) = Bool.rec false (Nat.beq x y) (Nat.beq n m) := by
  rw [dec_toList, dec_toList, Bool.eq_iff_iff, beq_iff_eq, digs_eq hx hy]
  cases h : Nat.beq n m with
  | true => have := Nat.eq_of_beq_eq_true h; simp [this]
  | false => have : n ≠ m := fun e => by subst e; simp at h
             simp [this]

theorem aText_ok {P : Program} {w : World} {op : BinOp} {n x m y : Nat} {t : TypeId} {v : AVal} (σ : Sg) (hx : x < 256 ^ n) (hy : y < 256 ^ m) (h : aText op n x m y = some v) :
    ∃ v', Den σ v v' ∧ (binOp op t (.string (dec n x)) (.string (dec m y))).run P w = .ok v' w := by
  unfold aText at h
  split at h
  · split at h
    · rename_i hle
      have hle' := Nat.le_of_ble_eq_true hle
      rw [forceN_eq, forceN_eq] at h
      cases h
      have e : Nat.add (Nat.shiftLeft x (Nat.mul 8 m)) y = x * 256 ^ m + y := by
        show x <<< (8 * m) + y = _
        rw [Nat.shiftLeft_eq, pow256]
      rw [e]
      refine ⟨.string (dec (n + m) (x * 256 ^ m + y)), .str _ _ (lt_append hx hy), ?_⟩
      have hsz : ¬ (((dec n x).size + (dec m y).size : Nat) : Int) > IntKind.i64.max := by
        rw [dec_size, dec_size]
        have : (n + m : Nat) ≤ 9223372036854775807 := hle'
        simp [IntKind.max, IntKind.signed, IntKind.bits]
        omega
      simp only [binOp, Op.stringOp, if_neg hsz, Sem.run_pure]
      rw [dec_append _ _ _ _ hy]
    · cases h
  · cases h
    exact ⟨_, .bool _, by simp only [binOp, Op.stringOp, Sem.run_pure, textEq hx hy]⟩
  · cases h
    refine ⟨_, .bool _, ?_⟩
    simp only [binOp, Op.stringOp, Sem.run_pure, textEq hx hy]
    cases Nat.beq n m <;> simp [bnot_eq]
  · cases h

/-! ### Comparisons -/
/-- Is it nil? Of a value that may be. -/
def nilness : TypeDesc → AVal → Option Bool
  | .pointer _, .ptr _ _ => some false
  | .pointer _, .nilPtr => some true
  | .slice _, .slice .. => some false
  | .slice _, .nilSlice => some true
  | .map _ _, .map _ => some false
  | .map _ _, .nilMap => some true
  | .func _ _ _, .func _ _ _ => some false
  | .func _ _ _, .nilFunc => some true
  | .interface _, .iface _ _ => some false
  | .interface _, .nilIface => some true
  | _, _ => none

def isConstO : Operand → Bool
  | .const _ => true
  | _ => false

/-- '==' of values that are no numbers and no texts: bools; nil on one side, which is a constant. -/
def aEq (P : Program) (t : TypeId) (x y : Operand) (a b : AVal) : Option Bool :=
  match P.underlying t with
  | some .bool => match a, b with
    | .bool p, .bool q => some (Bool.rec (bnot q) q p)
    | _, _ => none
  | some d => match nilness d a, nilness d b with
    | some p, some q => match isConstO x, isConstO y with
      | true, _ => match p with | true => some q | false => none
      | false, true => match q with | true => some p | false => none
      | _, _ => none
    | _, _ => none
  | none => none

theorem eqGuard_run {P : Program} {w : World} {op : BinOp} {t : TypeId} {x y : Operand} {a b : Value} (h : (isConstO x = true ∨ isConstO y = true) ∨ ¬ (∃ cs ds, a = .agg cs ∧ b = .agg ds) ∧ ¬ (a = .nilIface ∧ b = .nilIface)) (hagg : ¬ (∃ cs ds, a = .agg cs ∧ b = .agg ds)) :
    (eqGuard op t x y a b).run P w = .ok () w := by
  have two : op = .eql ∨ op = .neq ∨ (eqGuard op t x y a b).run P w = .ok () w := by
    cases op <;> first | exact .inl rfl | exact .inr (.inl rfl) | exact .inr (.inr rfl)
  rcases two with rfl | rfl | h'
  case inr.inr => exact h'
  all_goals
    unfold eqGuard
    rw [if_neg (by simp)]
    cases a <;> cases b <;> first
      | rfl
      | exact (hagg ⟨_, _, rfl, rfl⟩).elim
      | skip
    rcases h with (h | h) | ⟨_, h⟩
    · cases x <;> first | (simp [isConstO] at h; done) | rfl
    · cases y <;> first | (simp [isConstO] at h; done) | (cases x <;> rfl)
    · exact (h ⟨rfl, rfl⟩).elim

theorem equal_of {P : Program} {w : World} {t : TypeId} {a b : Value} {r : Bool} (h : ∀ d, (Op.equalIn (d + 1) t a b).run P w = .ok r w) : (Op.equal t a b).run P w = .ok r w := h 9999

/-- Neither two numbers, nor two texts, nor two structs. -/
structure Other (a b : Value) : Prop where
  agg : ¬ (∃ cs ds, a = .agg cs ∧ b = .agg ds)
  int : ∀ k n k' n', ¬ (a = .int k n ∧ b = .int k' n')
  str : ∀ s s', ¬ (a = .string s ∧ b = .string s')
  flt : ∀ k n k' n', ¬ (a = .float k n ∧ b = .float k' n')
  cpl : ∀ k n m k' n' m', ¬ (a = .complex k n m ∧ b = .complex k' n' m')

theorem run_nil {P : Program} {w : World} {t : TypeId} {d : TypeDesc} {a b : AVal} {a' b' : Value} {p q : Bool} {σ : Sg} (hu : P.underlying t = some d) (hp : nilness d a = some p) (hq : nilness d b = some q)
    (hpq : p = true ∨ q = true) (ha : Den σ a a') (hb : Den σ b b') : (Op.equal t a' b').run P w = .ok (Bool.rec p q p) w ∧ Other a' b' := by
  unfold nilness at hp
  split at hp <;> first | (cases hp; done) | skip
  all_goals (cases hp; unfold nilness at hq; split at hq <;> first | (cases hq; done) | skip)
  all_goals (first | contradiction | skip)
  all_goals (cases hq)
  all_goals (first | (rcases hpq with e | e <;> cases e <;> done) | skip)
  all_goals (cases ha <;> cases hb)
  all_goals (refine ⟨equal_of fun d => ?_, ⟨?_, ?_, ?_, ?_, ?_⟩⟩)
  all_goals (first | (simp; done) | skip)
  all_goals (unfold Op.equalIn; simp only [Sem.run_bind, run_underlying' hu, Result.andThen_ok]; rfl)

theorem run_equal {P : Program} {w : World} {t : TypeId} {x y : Operand} {a b : AVal} {a' b' : Value} {r : Bool} {σ : Sg} (h : aEq P t x y a b = some r) (ha : Den σ a a') (hb : Den σ b b') :
    (Op.equal t a' b').run P w = .ok r w ∧ Other a' b' ∧ ((isConstO x = true ∨ isConstO y = true) ∨ ¬ (a' = .nilIface ∧ b' = .nilIface)) := by
  unfold aEq at h
  split at h
  · rename_i hu
    split at h
    · cases h
      cases ha
      cases hb
      rename_i p q
      refine ⟨equal_of fun d => ?_, ⟨by simp, by simp, by simp, by simp, by simp⟩, .inr (by simp)⟩
      unfold Op.equalIn
      simp only [Sem.run_bind, run_underlying' hu, Result.andThen_ok, Sem.run_pure]
      cases p <;> cases q <;> rfl
    · cases h
  · rename_i d hnb hu
    split at h
    · rename_i p q hp hq
      split at h
      · rename_i hc
        split at h
        · cases h
          obtain ⟨h1, h2⟩ := run_nil (P := P) (w := w) hu hp hq (.inl rfl) ha hb
          exact ⟨h1, h2, .inl (.inl hc)⟩
        · cases h
      · rename_i hc
        split at h
        · cases h
          obtain ⟨h1, h2⟩ := run_nil (P := P) (w := w) hu hp hq (.inr rfl) ha hb
          refine ⟨?_, h2, .inl (.inr hc)⟩
          cases r <;> exact h1
        · cases h
      · cases h
    · cases h
  · cases h

/-! ### Symbols -/
def w64 : IntKind → Bool
  | .i64 | .u64 => true
  | _ => false

theorem Same64.refl (a : Int) : Same64 a a := ⟨0, by omega⟩
theorem Same64.symm {a b : Int} (h : Same64 a b) : Same64 b a := by obtain ⟨q, h⟩ := h; exact ⟨-q, by omega⟩
theorem Same64.trans {a b c : Int} (h : Same64 a b) (g : Same64 b c) : Same64 a c := by obtain ⟨q, h⟩ := h; obtain ⟨r, g⟩ := g; exact ⟨q + r, by omega⟩
theorem Same64.add {a b c d : Int} (h : Same64 a b) (g : Same64 c d) : Same64 (a + c) (b + d) := by obtain ⟨q, h⟩ := h; obtain ⟨r, g⟩ := g; exact ⟨q + r, by omega⟩
theorem Same64.sub {a b c d : Int} (h : Same64 a b) (g : Same64 c d) : Same64 (a - c) (b - d) := by obtain ⟨q, h⟩ := h; obtain ⟨r, g⟩ := g; exact ⟨q - r, by omega⟩
theorem Same64.mul {a b c d : Int} (h : Same64 a b) (g : Same64 c d) : Same64 (a * c) (b * d) := by
  obtain ⟨q, rfl⟩ := h; obtain ⟨r, rfl⟩ := g
  refine ⟨b * r + q * d + q * r * 18446744073709551616, ?_⟩
  simp only [Int.add_mul, Int.mul_add]
  have e1 : b * (r * 18446744073709551616) = b * r * 18446744073709551616 := by rw [Int.mul_assoc]
  have e2 : q * 18446744073709551616 * d = q * d * 18446744073709551616 := by rw [Int.mul_assoc, Int.mul_comm 18446744073709551616 d, ← Int.mul_assoc]
  have e3 : q * 18446744073709551616 * (r * 18446744073709551616) = q * r * 18446744073709551616 * 18446744073709551616 := by
    rw [Int.mul_assoc q, ← Int.mul_assoc 18446744073709551616 r, Int.mul_comm 18446744073709551616 r, Int.mul_assoc r, ← Int.mul_assoc q r, Int.mul_assoc (q * r)]
  rw [e1, e2, e3]
  omega

theorem wrap_i64 (n : Int) : IntKind.i64.wrap n = if n % 18446744073709551616 ≥ 9223372036854775808 then n % 18446744073709551616 - 18446744073709551616 else n % 18446744073709551616 := by
  simp [IntKind.wrap, IntKind.bits, IntKind.signed]
theorem wrap_u64 (n : Int) : IntKind.u64.wrap n = n % 18446744073709551616 := by
  simp [IntKind.wrap, IntKind.bits, IntKind.signed]

theorem Same64.mod {a b : Int} (h : Same64 a b) : a % 18446744073709551616 = b % 18446744073709551616 := by obtain ⟨q, h⟩ := h; omega

theorem Same64.wrap {k : IntKind} (hk : w64 k = true) {a b : Int} (h : Same64 a b) : k.wrap a = k.wrap b := by
  cases k <;> first | cases hk | skip
  · rw [wrap_i64, wrap_i64, h.mod]
  · rw [wrap_u64, wrap_u64, h.mod]

theorem same_wrap {k : IntKind} (hk : w64 k = true) (a : Int) : Same64 (k.wrap a) a := by
  cases k <;> first | cases hk | skip
  · rw [wrap_i64]
    split
    · exact ⟨-(a / 18446744073709551616) - 1, by omega⟩
    · exact ⟨-(a / 18446744073709551616), by omega⟩
  · rw [wrap_u64]; exact ⟨-(a / 18446744073709551616), by omega⟩

def symIx : AVal → Option (IntKind × Nat)
  | .anyInt k m i => match Nat.beq m 65536 with
    | true => some (k, i)
    | false => none
  | .int k n => match fits k n, GTab.con n with
    | true, some i => some (k, i)
    | _, _ => none
  | _ => none

theorem symIx_ok {σ : Sg} {a : AVal} {v : Value} {k : IntKind} {i : Nat} (hk : w64 k = true) (h : symIx a = some (k, i)) (hd : Den σ a v) : ∃ n, v = .int k n ∧ Same64 n (GTab.val i) ∧ k.wrap n = n := by
  unfold symIx at h
  split at h <;> first | (cases h; done) | skip
  · rename_i k' m i'
    split at h <;> first | (cases h; done) | skip
    rename_i hm
    cases h
    have hm' := Nat.eq_of_beq_eq_true hm
    subst hm'
    cases hd with
    | anyInt _ _ _ n hn =>
      have hn' : n = k.wrap (GTab.val i) := by unfold AnyOK at hn; rwa [if_pos rfl] at hn
      subst hn'
      exact ⟨_, rfl, same_wrap hk _, (same_wrap hk _).wrap hk⟩
  · rename_i k' n
    split at h <;> first | (cases h; done) | skip
    rename_i i' hf hc
    cases h
    cases hd
    exact ⟨n, rfl, GTab.conOK _ _ hc, fits_ok hf⟩

def symR (k : IntKind) : Option Nat → Option AVal
  | some r => match GTab.lit r with
    | some n => forceI (awrap k n) fun n => some (.int k n)
    | none => some (.anyInt k 65536 r)
  | none => none
def symB (neg : Bool) : Option Bool → Option AVal
  | some b => some (.bool (Bool.rec b (bnot b) neg))
  | none => none
def isI64 : IntKind → Bool
  | .i64 => true
  | _ => false

def symBin (op : BinOp) (a b : AVal) : Option AVal :=
  match symIx a, symIx b with
  | some (k, i), some (k', j) => match decide (k = k'), w64 k with
    | true, true => match op with
      | .add => symR k (GTab.add i j)
      | .sub => symR k (GTab.sub i j)
      | .mul => symR k (GTab.mul i j)
      | .quo => match isI64 k with | true => symR k (GTab.quo i j) | false => none
      | .rem => match isI64 k with | true => symR k (GTab.rem i j) | false => none
      | .eql => symB false (GTab.eq i j)
      | .neq => symB true (GTab.eq i j)
      | .lss => match isI64 k with | true => symB false (GTab.lt i j) | false => none
      | .gtr => match isI64 k with | true => symB false (GTab.lt j i) | false => none
      | .leq => match isI64 k with | true => symB true (GTab.lt j i) | false => none
      | .geq => match isI64 k with | true => symB true (GTab.lt i j) | false => none
      | _ => none
    | _, _ => none
  | _, _ => none

theorem symR_ok {σ : Sg} {k : IntKind} {o : Option Nat} {v : AVal} {n : Int} (hk : w64 k = true) (h : symR k o = some v) (hs : ∀ r, o = some r → Same64 n (GTab.val r)) : Den σ v (.int k (k.wrap n)) := by
  cases o with
  | none => cases h
  | some r =>
    have h' : (match GTab.lit r with | some n => forceI (awrap k n) fun n => some (AVal.int k n) | none => some (.anyInt k 65536 r)) = some v := h
    split at h'
    · rename_i m hm
      rw [forceI_eq, awrap_eq] at h'
      cases h'
      have e : k.wrap n = k.wrap m := ((hs r rfl).trans (GTab.litOK _ _ hm).symm).wrap hk
      rw [e]
      exact .int _ _
    · cases h'
      exact .anyInt _ _ _ _ (by unfold AnyOK; rw [if_pos rfl]; exact (hs r rfl).wrap hk)

theorem symB_ok {σ : Sg} {neg : Bool} {o : Option Bool} {v : AVal} {c : Bool} (h : symB neg o = some v) (hs : ∀ b, o = some b → c = (if neg then !b else b)) : Den σ v (.bool c) := by
  cases o with
  | none => cases h
  | some b =>
    cases h
    rw [hs b rfl]
    cases neg <;> cases b <;> exact .bool _

theorem symBin_ok {P : Program} {w : World} {σ : Sg} {op : BinOp} {t : TypeId} {a b v : AVal} {a' b' : Value} (h : symBin op a b = some v) (ha : Den σ a a') (hb : Den σ b b') :
    ∃ k x y v', a' = .int k x ∧ b' = .int k y ∧ Den σ v v' ∧ (binOp op t (.int k x) (.int k y)).run P w = .ok v' w := by
  unfold symBin at h
  split at h <;> first | (cases h; done) | skip
  rename_i k i k' j h1 h2
  split at h <;> first | (cases h; done) | skip
  rename_i hkk hk
  have hkk' : k = k' := by simpa using hkk
  subst hkk'
  obtain ⟨x, rfl, sx, wx⟩ := symIx_ok hk h1 ha
  obtain ⟨y, rfl, sy, wy⟩ := symIx_ok hk h2 hb
  have arith : ∀ {u : AVal}, aInt op k x y = some u → ∃ v', Den σ u v' ∧ (binOp op t (.int k x) (.int k y)).run P w = .ok v' w := fun hu => aInt_ok σ hu
  have val : ∀ {n : Int}, aInt op k x y = some (.int k n) → Den σ v (.int k n) → ∃ v', Den σ v v' ∧ (binOp op t (.int k x) (.int k y)).run P w = .ok v' w := by
    intro n hu hd
    obtain ⟨v', d, hr⟩ := arith hu
    cases d
    exact ⟨_, hd, hr⟩
  have valB : ∀ {n : Bool}, aInt op k x y = some (.bool n) → Den σ v (.bool n) → ∃ v', Den σ v v' ∧ (binOp op t (.int k x) (.int k y)).run P w = .ok v' w := by
    intro n hu hd
    obtain ⟨v', d, hr⟩ := arith hu
    cases d
    exact ⟨_, hd, hr⟩
  have eqv : Same64 (GTab.val i) (GTab.val j) ↔ x = y := by
    constructor
    · intro hs
      rw [← wx, ← wy]
      exact ((sx.trans hs).trans sy.symm).wrap hk
    · intro e; subst e; exact sx.symm.trans sy
  have i64v : isI64 k = true → IntKind.i64.wrap (GTab.val i) = x ∧ IntKind.i64.wrap (GTab.val j) = y := by
    intro hi
    have : k = .i64 := by cases k <;> first | rfl | cases hi
    subst this
    exact ⟨by rw [← sx.wrap hk, wx], by rw [← sy.wrap hk, wy]⟩
  suffices ∃ v', Den σ v v' ∧ (binOp op t (.int k x) (.int k y)).run P w = .ok v' w by
    obtain ⟨v', d, hr⟩ := this
    exact ⟨k, x, y, v', rfl, rfl, d, hr⟩
  split at h <;> first | (cases h; done) | skip
  · exact val (n := k.wrap (Int.add x y)) (by simp only [aInt, forceI_eq, awrap_eq]) (symR_ok hk h fun r hr => (sx.add sy).trans (GTab.addOK _ _ _ hr))
  · exact val (n := k.wrap (Int.sub x y)) (by simp only [aInt, forceI_eq, awrap_eq]) (symR_ok hk h fun r hr => (sx.sub sy).trans (GTab.subOK _ _ _ hr))
  · exact val (n := k.wrap (Int.mul x y)) (by simp only [aInt, forceI_eq, awrap_eq]) (symR_ok hk h fun r hr => (sx.mul sy).trans (GTab.mulOK _ _ _ hr))
  · split at h <;> first | (cases h; done) | skip
    rename_i hi
    obtain ⟨e1, e2⟩ := i64v hi
    cases ho : GTab.quo i j with
    | none => rw [ho] at h; cases h
    | some r =>
      obtain ⟨hne, hs⟩ := GTab.quoOK _ _ _ ho
      rw [e1, e2] at hs
      rw [e2] at hne
      have hz : ieq y 0 = false := by rw [ieq_eq]; simpa using hne
      refine val (n := k.wrap (Int.tdiv x y)) (by simp only [aInt, hz, forceI_eq, awrap_eq]) (symR_ok hk h fun r' hr => ?_)
      rw [ho] at hr; cases hr; exact hs
  · split at h <;> first | (cases h; done) | skip
    rename_i hi
    obtain ⟨e1, e2⟩ := i64v hi
    cases ho : GTab.rem i j with
    | none => rw [ho] at h; cases h
    | some r =>
      obtain ⟨hne, hs⟩ := GTab.remOK _ _ _ ho
      rw [e1, e2] at hs
      rw [e2] at hne
      have hz : ieq y 0 = false := by rw [ieq_eq]; simpa using hne
      have hk64 : k = .i64 := by cases k <;> first | rfl | cases hi
      subst hk64
      have hw : IntKind.i64.wrap (Int.tmod x y) = Int.tmod x y := by
        have hx := wx
        rw [wrap_i64] at hx
        have b1 : x.tmod y < 9223372036854775808 ∧ -9223372036854775808 ≤ x.tmod y := by
          have hxr : x < 9223372036854775808 ∧ -9223372036854775808 ≤ x := by split at hx <;> omega
          have h1 : (x.tmod y).natAbs ≤ x.natAbs := by rw [Int.natAbs_tmod]; exact Nat.mod_le _ _
          have h2 : 0 ≤ x → 0 ≤ x.tmod y := fun h => Int.tmod_nonneg y h
          have h3 : x ≤ 0 → x.tmod y ≤ 0 := fun h => by have h4 := Int.tmod_nonneg y (show 0 ≤ -x by omega); rw [Int.neg_tmod] at h4; omega
          omega
        rw [wrap_i64]
        split <;> omega
      refine val (n := Int.tmod x y) (by simp only [aInt, hz, forceI_eq]) ?_
      have := symR_ok (σ := σ) (n := Int.tmod x y) hk h fun r' hr => by rw [ho] at hr; cases hr; exact hs
      rwa [hw] at this
  · refine valB (n := ieq x y) rfl (symB_ok h fun b hb => ?_)
    have := GTab.eqOK _ _ _ hb
    rw [eqv] at this
    rw [ieq_eq]
    show (x == y) = b
    rw [Bool.eq_iff_iff, beq_iff_eq]; exact this.symm
  · refine valB (n := bnot (ieq x y)) rfl (symB_ok h fun b hb => ?_)
    have := GTab.eqOK _ _ _ hb
    rw [eqv] at this
    rw [ieq_eq, bnot_eq]
    show (!(x == y)) = !b
    congr 1
    rw [Bool.eq_iff_iff, beq_iff_eq]; exact this.symm
  all_goals
    split at h <;> first | (cases h; done) | skip
    rename_i hi
    obtain ⟨e1, e2⟩ := i64v hi
    refine valB rfl (symB_ok h fun b hb => ?_)
    have := GTab.ltOK _ _ _ hb
    rw [e1, e2] at this
    subst this
    simp only [ilt_eq, bnot_eq]
    rfl

/-- Texts that are not known: the same symbol is the same text. -/
def symT (op : BinOp) (a b : AVal) : Option AVal :=
  match op, a, b with
  | .eql, .anyStr i, .anyStr j => match Nat.beq i j with | true => some (.bool true) | false => none
  | .neq, .anyStr i, .anyStr j => match Nat.beq i j with | true => some (.bool false) | false => none
  | .add, .anyStr i, .str n x => match GTab.cat i n x with | some r => some (.anyStr r) | none => none
  | .add, .str n x, .anyStr i => match GTab.catL n x i with | some r => some (.anyStr r) | none => none
  | _, _, _ => none

theorem symT_ok {P : Program} {w : World} {σ : Sg} {op : BinOp} {t : TypeId} {a b v : AVal} {a' b' : Value} (h : symT op a b = some v) (ha : Den σ a a') (hb : Den σ b b') :
    ∃ s s' v', a' = .string s ∧ b' = .string s' ∧ Den σ v v' ∧ (binOp op t (.string s) (.string s')).run P w = .ok v' w := by
  unfold symT at h
  have big : ∀ {n m : Nat}, n + m ≤ 9223372036854775807 → ¬ ((n + m : Nat) : Int) > IntKind.i64.max := by
    intro n m h
    simp [IntKind.max, IntKind.signed, IntKind.bits]
    omega
  split at h <;> first | (cases h; done) | skip
  case h_3 =>
    split at h <;> first | (cases h; done) | skip
    rename_i r hr
    cases h
    cases ha
    cases hb
    obtain ⟨c1, c2⟩ := GTab.catOK _ _ _ _ hr
    refine ⟨_, _, _, rfl, rfl, .anyStr r, ?_⟩
    rw [c1]
    simp only [binOp, Op.stringOp]
    rw [dec_size, if_neg (big c2)]
    rfl
  case h_4 =>
    split at h <;> first | (cases h; done) | skip
    rename_i r hr
    cases h
    cases ha
    cases hb
    obtain ⟨c1, c2⟩ := GTab.catLOK _ _ _ _ hr
    refine ⟨_, _, _, rfl, rfl, .anyStr r, ?_⟩
    rw [c1]
    simp only [binOp, Op.stringOp]
    rw [dec_size, if_neg (big c2)]
    rfl
  all_goals
    split at h <;> first | (cases h; done) | skip
    rename_i hij
    have hij' := Nat.eq_of_beq_eq_true hij
    subst hij'
    cases h
    cases ha
    cases hb
    exact ⟨_, _, _, rfl, rfl, .bool _, by simp [binOp, Op.stringOp]⟩

def opBin (P : Program) (op : BinOp) (t : TypeId) (x y : Operand) (ρ : Operand → AVal) (H : Heap) (nx : Nat) : Option ARes :=
  match ρ x, ρ y with
  | .int k a, .int k' b =>
    match op with
    | .shl | .shr => match aShift op k a b with
      | some v => some (.val v H nx)
      | none => none
    | op => match decide (k = k') with
      | true => match aInt op k a b with
        | some v => some (.val v H nx)
        | none => none
      | false => none
  | .str n a, .str m b => match aText op n a m b with
    | some v => some (.val v H nx)
    | none => none
  | a, b => match symBin op a b, symT op a b with
   | some v, _ => some (.val v H nx)
   | none, some v => some (.val v H nx)
   | none, none => match op with
    | .eql => match aEq P t x y a b with
      | some r => some (.val (.bool r) H nx)
      | none => none
    | .neq => match aEq P t x y a b with
      | some r => some (.val (.bool (bnot r)) H nx)
      | none => none
    | _ => none

theorem guard_int {P : Program} {w : World} {op : BinOp} {t : TypeId} {x y : Operand} {k k' : IntKind} {a b : Int} : (eqGuard op t x y (.int k a) (.int k' b)).run P w = .ok () w := by
  unfold eqGuard; split <;> rfl
theorem guard_str {P : Program} {w : World} {op : BinOp} {t : TypeId} {x y : Operand} {a b : ByteArray} : (eqGuard op t x y (.string a) (.string b)).run P w = .ok () w := by
  unfold eqGuard; split <;> rfl

theorem binOp_eql {t : TypeId} {a b : Value} (h : Other a b) :
    binOp .eql t a b = (do pure (.bool (← Op.equal t a b))) ∧ binOp .neq t a b = (do pure (.bool (!(← Op.equal t a b)))) := by
  cases a <;> cases b <;> first | exact ⟨rfl, rfl⟩ | skip
  all_goals first
    | exact (h.int _ _ _ _ ⟨rfl, rfl⟩).elim
    | exact (h.str _ _ ⟨rfl, rfl⟩).elim
    | exact (h.flt _ _ _ _ ⟨rfl, rfl⟩).elim
    | exact (h.cpl _ _ _ _ _ _ ⟨rfl, rfl⟩).elim

theorem opBin_ok {P : Program} {o : Oper} {op : BinOp} {t u : TypeId} {x y : Operand} {ρ : Operand → AVal} {H : Heap} {nx : Nat} {r : ARes} (ho : o.op = .binOp op t x y u)
    (h : opBin P op t x y ρ H nx = some r) : OpOK P o ρ H nx r := by
  unfold opBin at h
  split at h
  · rename_i k a k' b hx hy
    split at h
    · split at h
      · rename_i v hv
        cases h
        refine OpOK.pure fun σ w ρ' _ hd => ?_
        have d1 := hd x; have d2 := hd y; rw [hx] at d1; rw [hy] at d2
        obtain ⟨v', dv, hrun⟩ := aShift_ok (P := P) (w := w) (t := t) (k' := k') σ hv
        refine ⟨v', dv, ?_⟩
        cases e1 : ρ' x <;> rw [e1] at d1 <;> cases d1
        cases e2 : ρ' y <;> rw [e2] at d2 <;> cases d2
        simp [execOp, ho, e1, e2, guard_int, hrun]
      · cases h
    · split at h
      · rename_i v hv
        cases h
        refine OpOK.pure fun σ w ρ' _ hd => ?_
        have d1 := hd x; have d2 := hd y; rw [hx] at d1; rw [hy] at d2
        obtain ⟨v', dv, hrun⟩ := aShift_ok (P := P) (w := w) (t := t) (k' := k') σ hv
        refine ⟨v', dv, ?_⟩
        cases e1 : ρ' x <;> rw [e1] at d1 <;> cases d1
        cases e2 : ρ' y <;> rw [e2] at d2 <;> cases d2
        simp [execOp, ho, e1, e2, guard_int, hrun]
      · cases h
    · split at h
      · rename_i hk
        have hk' : k = k' := by simpa using hk
        subst hk'
        split at h
        · rename_i v hv
          cases h
          refine OpOK.pure fun σ w ρ' _ hd => ?_
          have d1 := hd x; have d2 := hd y; rw [hx] at d1; rw [hy] at d2
          obtain ⟨v', dv, hrun⟩ := aInt_ok (P := P) (w := w) (t := t) σ hv
          refine ⟨v', dv, ?_⟩
          cases e1 : ρ' x <;> rw [e1] at d1 <;> cases d1
          cases e2 : ρ' y <;> rw [e2] at d2 <;> cases d2
          simp [execOp, ho, e1, e2, guard_int, hrun]
        · cases h
      · cases h
  · rename_i n a m b hx hy
    split at h
    · rename_i v hv
      cases h
      refine OpOK.pure fun σ w ρ' _ hd => ?_
      have d1 := hd x; have d2 := hd y; rw [hx] at d1; rw [hy] at d2
      cases e1 : ρ' x <;> rw [e1] at d1 <;> cases d1
      cases e2 : ρ' y <;> rw [e2] at d2 <;> cases d2
      rename_i q1 q2
      obtain ⟨v', dv, hrun⟩ := aText_ok (P := P) (w := w) (t := t) σ q1 q2 hv
      refine ⟨v', dv, ?_⟩
      simp [execOp, ho, e1, e2, guard_str, hrun]
    · cases h
  · split at h
    · rename_i v hv
      cases h
      refine OpOK.pure fun σ w ρ' _ hd => ?_
      obtain ⟨k, p, q, v', e1, e2, dv, hrun⟩ := symBin_ok (P := P) (w := w) (t := t) hv (hd x) (hd y)
      refine ⟨v', dv, ?_⟩
      simp [execOp, ho, e1, e2, guard_int, hrun]
    · rename_i v _ hv
      cases h
      refine OpOK.pure fun σ w ρ' _ hd => ?_
      obtain ⟨s, s', v', e1, e2, dv, hrun⟩ := symT_ok (P := P) (w := w) (t := t) hv (hd x) (hd y)
      refine ⟨v', dv, ?_⟩
      simp [execOp, ho, e1, e2, guard_str, hrun]
    split at h
    · split at h
      · rename_i r' hr'
        cases h
        refine OpOK.pure fun σ w ρ' _ hd => ?_
        obtain ⟨hrun, hoth, hg⟩ := run_equal (P := P) (w := w) hr' (hd x) (hd y)
        refine ⟨.bool r', .bool _, ?_⟩
        have hguard := eqGuard_run (P := P) (w := w) (op := .eql) (t := t) (x := x) (y := y) (a := ρ' x) (b := ρ' y) (hg.imp id fun h => ⟨hoth.agg, h⟩) hoth.agg
        simp [execOp, ho, hguard, (binOp_eql (t := t) hoth).1, hrun]
      · cases h
    · split at h
      · rename_i r' hr'
        cases h
        refine OpOK.pure fun σ w ρ' _ hd => ?_
        obtain ⟨hrun, hoth, hg⟩ := run_equal (P := P) (w := w) hr' (hd x) (hd y)
        refine ⟨.bool (bnot r'), .bool _, ?_⟩
        have hguard := eqGuard_run (P := P) (w := w) (op := .neq) (t := t) (x := x) (y := y) (a := ρ' x) (b := ρ' y) (hg.imp id fun h => ⟨hoth.agg, h⟩) hoth.agg
        simp [execOp, ho, hguard, (binOp_eql (t := t) hoth).2, hrun, bnot_eq]
      · cases h
    · cases h

end
end Go.Ev
