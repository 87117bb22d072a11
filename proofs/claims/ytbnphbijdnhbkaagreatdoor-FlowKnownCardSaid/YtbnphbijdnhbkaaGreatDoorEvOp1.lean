/-
  Own work. Operations on abstract values: what each does, and that it does what the model's does. Part 1: no new memory.
-/
import Derived.Test.YtbnphbijdnhbkaaGreatDoorEvRel
import GoSem.Dispatch
namespace Go.Ev
variable [GTab]
set_option linter.unusedSectionVars false
noncomputable section

inductive ARes where
  | val (v : AVal) (H : Heap) (nx : Nat)
  | call (f : FuncId) (args : List AVal)
  | dfr (f : FuncId) (args : List AVal)
  | pan (v : AVal)
  | rcv

/-- A deferred call. -/
def DDen (σ : Sg) (f : FuncId) (args : List AVal) (d : Deferred) : Prop :=
  ∃ cap, d.target = .fn (.func f) cap ∧ DenL σ args (d.args ++ cap).toList

def OpOK (P : Program) (o : Oper) (ρ : Operand → AVal) (H : Heap) (nx : Nat) (r : ARes) : Prop :=
  ∀ (σ : Sg) (w : World) (ρ' : Operand → Value), Rel σ H nx w → (∀ x, Den σ (ρ x) (ρ' x)) →
    match r with
    | .val v H' nx' => ∃ σ' w' v', Rel σ' H' nx' w' ∧ Ext σ σ' H H' nx nx' w w' ∧ Den σ' v v' ∧
        ((execOp ρ' o).run P w = .ok (.value v') w' ∨ ((execOp ρ' o).run P w = .ok .skip w' ∧ v' = undef))
    | .call f args => ∃ args', DenL σ args args' ∧ (execOp ρ' o).run P w = .ok (.enter f ⟨args'⟩) w
    | .dfr f args => ∃ d, DDen σ f args d ∧ (execOp ρ' o).run P w = .ok (.defer d) w
    | .pan v => ∃ v', Den σ v v' ∧ (execOp ρ' o).run P w = .halt (.panic v') w
    | .rcv => (execOp ρ' o).run P w = .ok .recover w

/-- Nothing of memory is touched. -/
theorem OpOK.pure {P : Program} {o : Oper} {ρ : Operand → AVal} {H : Heap} {nx : Nat} {v : AVal}
    (h : ∀ (σ : Sg) (w : World) (ρ' : Operand → Value), Rel σ H nx w → (∀ x, Den σ (ρ x) (ρ' x)) → ∃ v', Den σ v v' ∧ (execOp ρ' o).run P w = .ok (.value v') w) :
    OpOK P o ρ H nx (.val v H nx) := by
  intro σ w ρ' hr hd
  obtain ⟨v', h1, h2⟩ := h σ w ρ' hr hd
  exact ⟨σ, w, v', hr, Ext.refl _ _ _ _, h1, .inl h2⟩

/-! ### The types -/
theorem run_underlying' {P : Program} {w : World} {t : TypeId} {d : TypeDesc} (h : P.underlying t = some d) : (underlying t).run P w = .ok d w := by
  simp [underlying, h]
theorem run_typeInfo' {P : Program} {w : World} {t : TypeId} {i : TypeInfo} (h : P.info? t = some i) : (typeInfo t).run P w = .ok i w := by
  simp [typeInfo, h]
theorem run_sizeOf' {P : Program} {w : World} {t : TypeId} {i : TypeInfo} (h : P.info? t = some i) : (sizeOf t).run P w = .ok i.size w := by
  simp [sizeOf, run_typeInfo' h]
theorem run_zeroValue' {P : Program} {w : World} {t : TypeId} {i : TypeInfo} {v : Value} (h : P.info? t = some i) (hz : i.zero = some v) : (zeroValue t).run P w = .ok v w := by
  simp [zeroValue, run_typeInfo' h, hz]

def aggD : TypeDesc → Bool
  | .struct _ | .array _ _ => true
  | _ => false

theorem run_isAgg' {P : Program} {w : World} {t : TypeId} {d : TypeDesc} (h : P.underlying t = some d) : (isAgg t).run P w = .ok (aggD d) w := by
  simp only [isAgg, Sem.run_bind, run_underlying' h, Result.andThen_ok]
  cases d <;> rfl

/-! ### Constants -/
def ofCell : Value → AVal
  | .bool b => .bool b
  | .int k n => .int k n
  | .string s => .str s.data.toList.length (numL 0 s.data.toList)
  | .pointer none => .nilPtr
  | .slice none 0 0 => .nilSlice
  | .map none => .nilMap
  | .nilFunc => .nilFunc
  | .nilIface => .nilIface
  | _ => .und

def ofVal : Value → AVal
  | .agg cs => .agg (cs.toList.map ofCell)
  | v => ofCell v

theorem den_ofCell (σ : Sg) (v : Value) : Den σ (ofCell v) v := by
  unfold ofCell
  split <;> first | constructor | skip
  · rename_i s
    have := Den.str (σ := σ) s.data.toList.length (numL 0 s.data.toList) (numL_lt _)
    rwa [dec_numL] at this

theorem denL_ofCell (σ : Sg) : ∀ l : List Value, DenL σ (l.map ofCell) l
  | [] => .nil
  | v :: l => .cons (den_ofCell σ v) (denL_ofCell σ l)

theorem den_ofVal (σ : Sg) (v : Value) : Den σ (ofVal v) v := by
  unfold ofVal
  split
  · rename_i cs; exact Den.agg (denL_ofCell σ cs.toList)
  · exact den_ofCell σ v

/-! ### Simple operations -/
def opMove (x : Operand) (ρ : Operand → AVal) (H : Heap) (nx : Nat) : Option ARes := some (.val (ρ x) H nx)

theorem opMove_ok {P : Program} {o : Oper} {x : Operand} {ρ : Operand → AVal} {H : Heap} {nx : Nat} {r : ARes} (ho : o.op = .move x ∨ o.op = .assign x)
    (h : opMove x ρ H nx = some r) : OpOK P o ρ H nx r := by
  cases h
  refine OpOK.pure fun σ w ρ' _ hd => ⟨ρ' x, hd x, ?_⟩
  rcases ho with e | e <;> simp [execOp, e]

def opPick (c a b : Operand) (ρ : Operand → AVal) (H : Heap) (nx : Nat) : Option ARes :=
  match ρ c with
  | .bool true => some (.val (ρ a) H nx)
  | .bool false => some (.val (ρ b) H nx)
  | _ => none

theorem opPick_ok {P : Program} {o : Oper} {c a b : Operand} {ρ : Operand → AVal} {H : Heap} {nx : Nat} {r : ARes} (ho : o.op = .pick c a b)
    (h : opPick c a b ρ H nx = some r) : OpOK P o ρ H nx r := by
  unfold opPick at h
  split at h
  · rename_i hc
    cases h
    refine OpOK.pure fun σ w ρ' _ hd => ⟨ρ' a, hd a, ?_⟩
    have := hd c; rw [hc] at this
    cases hv : ρ' c <;> rw [hv] at this <;> cases this
    simp [execOp, ho, hv, asBool]
  · rename_i hc
    cases h
    refine OpOK.pure fun σ w ρ' _ hd => ⟨ρ' b, hd b, ?_⟩
    have := hd c; rw [hc] at this
    cases hv : ρ' c <;> rw [hv] at this <;> cases this
    simp [execOp, ho, hv, asBool]
  · cases h

/-! ### Loads -/
def aLoad (P : Program) (t : TypeId) (H : Heap) (v : AVal) : Option AVal :=
  match v with
  | .ptr b off =>
    match get5 b H with
    | some (.cells n ct _ _) =>
      match P.underlying t, P.info? t with
      | some d, some i =>
        match aggD d with
        | true => match Nat.ble (Nat.add off i.size) n with
          | true => some (.agg (CT.slab ct i.size off))
          | false => none
        | false => match Nat.ble (Nat.succ off) n with
          | true => some (CT.get off ct)
          | false => none
      | _, _ => none
    | _ => none
  | .gptr g off =>
    match GTab.tab g with
    | some l =>
      match P.underlying t, P.info? t with
      | some d, some i =>
        match aggD d with
        | true => match Nat.ble (Nat.add off i.size) l.length with
          | true => some (.agg ((l.drop off).take i.size))
          | false => none
        | false => l[off]?
      | _, _ => none
    | none => none
  | _ => none

/-- The values of some cells of a package-level variable, as the model reads them. -/
theorem load_glob {σ : Sg} {w : World} {g : Nat} {l : List AVal} (h : Glob σ w) (hl : GTab.tab g = some l) (P : Program) (off k : Nat) (hk : off + k ≤ l.length) :
    ∃ l' : List Value, (∀ τ : Sg, DenL τ ((l.drop off).take k) l') ∧ (loadCells (at' g off) k).run P w = .ok ⟨l'⟩ w := by
  obtain ⟨_, _, h3⟩ := h g l hl
  have hf : ∀ j, j < k → ∃ v', w.cell? (at' g (off + j)) = some v' ∧ ∀ τ : Sg, Den τ (l[off + j]?.getD .und) v' := by
    intro j hj
    have hlt : off + j < l.length := by omega
    obtain ⟨v', e, d⟩ := h3 (off + j) l[off + j] (by simp [List.getElem?_eq_getElem hlt])
    exact ⟨v', e, by simpa [List.getElem?_eq_getElem hlt] using d⟩
  refine ⟨(List.range k).map fun j => (w.cell? (at' g (off + j))).getD undef, fun τ => ?_, ?_⟩
  · refine DenL.of_get (by simp; omega) ?_
    intro i v v' e1 e2
    have hi : i < k := by
      rcases Nat.lt_or_ge i k with h | h
      · exact h
      · rw [List.getElem?_eq_none (by simp; omega)] at e2; cases e2
    obtain ⟨u, q1, q2⟩ := hf i hi
    simp [hi, q1] at e2
    subst e2
    have hlt : off + i < l.length := by omega
    have : v = l[off + i]?.getD .und := by
      simp [hi, List.getElem?_drop, List.getElem?_eq_getElem hlt] at e1
      simp [List.getElem?_eq_getElem hlt, e1]
    rw [this]
    exact q2 τ
  · refine run_loadCells (P := P) w (at' g off) k _ (fun j hj => ?_)
    obtain ⟨u, q1, _⟩ := hf j hj
    rw [addr_add, q1]
    simp

/-- The values of some cells of a block, as the model reads them. -/
theorem load_slab {σ : Sg} {H : Heap} {nx b n cb sz : Nat} {w : World} {ct : CT} {olds : List Nat} {s : Bool} (h : Rel σ H nx w) (ho : get5 b H = some (.cells n ct olds s)) (hb : σ b = some (cb, sz))
    (P : Program) (off k : Nat) (hk : off + k ≤ n) : ∃ l : List Value, l.length = k ∧ DenL σ (CT.slab ct k off) l ∧ (∀ j, j < k → w.cell? (at' cb (off + j)) = l[j]?) ∧ (loadCells (at' cb off) k).run P w = .ok ⟨l⟩ w := by
  obtain ⟨_, _, _, h4⟩ := h.obj b _ cb sz ho hb
  have f : ∃ f : Nat → Value, ∀ j, j < k → w.cell? (at' cb (off + j)) = some (f j) ∧ Den σ (ct.get (off + j)) (f j) := by
    refine ⟨fun j => (w.cell? (at' cb (off + j))).getD undef, fun j hj => ?_⟩
    obtain ⟨v', e, d⟩ := h4 (off + j) (by omega)
    simp only [e, Option.getD_some]
    exact ⟨trivial, d⟩
  obtain ⟨f, hf⟩ := f
  refine ⟨(List.range k).map f, by simp, ?_, ?_, ?_⟩
  · refine DenL.of_get (by simp [CT.slab_length]) ?_
    intro i v v' e1 e2
    have hi : i < k := by
      rcases Nat.lt_or_ge i k with h | h
      · exact h
      · rw [List.getElem?_eq_none (by simp [CT.slab_length]; exact h)] at e1; cases e1
    rw [CT.slab_get ct k off i hi] at e1
    cases e1
    simp [hi] at e2
    subst e2
    exact (hf i hi).2
  · intro j hj
    rw [(hf j hj).1]
    simp [hj]
  · exact run_loadCells (P := P) w (at' cb off) k f (fun j hj => by rw [addr_add]; exact (hf j hj).1)

theorem aLoad_ok {P : Program} {t : TypeId} {H : Heap} {v x : AVal} {σ : Sg} {nx : Nat} {w : World} {v' : Value} (hr : Rel σ H nx w) (hv : Den σ v v') (h : aLoad P t H v = some x) :
    ∃ x', Den σ x x' ∧ (Instr.loadAt t v').run P w = .ok x' w := by
  unfold aLoad at h
  split at h
  · rename_i b off
    split at h
    · rename_i n ct olds s ho
      split at h
      · rename_i d i hd hi
        cases hv with
        | @ptr _ _ cb sz hb =>
          split at h
          · rename_i hagg
            split at h
            · rename_i hle
              have hle' := Nat.le_of_ble_eq_true hle
              cases h
              obtain ⟨l, _, hl, _, hrun⟩ := load_slab hr ho hb P off i.size hle'
              exact ⟨_, .agg hl, by simp [Instr.loadAt, Instr.sureAddr, loadVar, run_isAgg' hd, hagg, run_sizeOf' hi, hrun]⟩
            · cases h
          · rename_i hagg
            split at h
            · rename_i hle
              have hle' := Nat.le_of_ble_eq_true hle
              cases h
              obtain ⟨_, _, _, h4⟩ := hr.obj b _ cb sz ho hb
              obtain ⟨u, e, du⟩ := h4 off (by omega)
              exact ⟨u, du, by simp [Instr.loadAt, Instr.sureAddr, loadVar, run_isAgg' hd, hagg, e]⟩
            · cases h
      · cases h
    · cases h
  · rename_i g off
    split at h <;> first | (cases h; done) | skip
    rename_i l hl
    split at h <;> first | (cases h; done) | skip
    rename_i d i hd hi
    cases hv
    split at h
    · rename_i hagg
      split at h <;> first | (cases h; done) | skip
      rename_i hle
      have hle' : off + i.size ≤ l.length := Nat.le_of_ble_eq_true hle
      cases h
      obtain ⟨l', hd', hrun⟩ := load_glob hr.glob hl P off i.size hle'
      exact ⟨_, .agg (hd' σ), by simp [Instr.loadAt, Instr.sureAddr, loadVar, run_isAgg' hd, hagg, run_sizeOf' hi, hrun]⟩
    · rename_i hagg
      obtain ⟨_, _, h3⟩ := hr.glob g l hl
      obtain ⟨v', e, du⟩ := h3 off x h
      exact ⟨v', du σ, by simp [Instr.loadAt, Instr.sureAddr, loadVar, run_isAgg' hd, hagg, e]⟩
  · cases h

def opLoad (P : Program) (t : TypeId) (a : Operand) (ρ : Operand → AVal) (H : Heap) (nx : Nat) : Option ARes :=
  match aLoad P t H (ρ a) with
  | some v => some (.val v H nx)
  | none => none

theorem opLoad_ok {P : Program} {o : Oper} {t : TypeId} {a : Operand} {ρ : Operand → AVal} {H : Heap} {nx : Nat} {r : ARes} (ho : o.op = .load t a)
    (h : opLoad P t a ρ H nx = some r) : OpOK P o ρ H nx r := by
  unfold opLoad at h
  split at h
  · rename_i v hv
    cases h
    refine OpOK.pure fun σ w ρ' hr hd => ?_
    obtain ⟨x', dx, hrun⟩ := aLoad_ok hr (hd a) hv
    exact ⟨x', dx, by simp [execOp, ho, hrun]⟩
  · cases h

/-! ### Stores -/
/-- The cells of a value. -/
def acells : AVal → Option (List AVal)
  | .und => none
  | .tuple _ => none
  | .agg cs => some cs
  | v => some [v]

theorem acells_ok {σ : Sg} {v : AVal} {v' : Value} {cs : List AVal} (h : acells v = some cs) (hd : Den σ v v') : DenL σ cs v'.cells.toList := by
  unfold acells at h
  split at h
  · cases h
  · cases h
  · cases h; cases hd with | agg hl => exact hl
  · rename_i h1 h2 h3
    cases h
    have e : v'.cells = #[v'] := by
      cases hd <;> first
        | rfl
        | exact (h1 rfl).elim
        | exact (h2 _ rfl).elim
        | exact (h3 _ rfl).elim
    rw [e]
    exact .cons hd .nil

/-- May it lie in one cell? -/
def cellv : AVal → Bool
  | .und | .agg _ | .tuple _ => false
  | _ => true

theorem cellv_ok {σ : Sg} {v : AVal} {v' : Value} (h : cellv v = true) (hd : Den σ v v') : v'.oneCell' = true := by
  cases hd <;> first | rfl | (simp [cellv] at h)

def allCell : List AVal → Bool
  | [] => true
  | v :: l => match cellv v with | true => allCell l | false => false

theorem allCell_ok {σ : Sg} : ∀ {l : List AVal} {l' : List Value}, allCell l = true → DenL σ l l' → ∀ v, v ∈ l' → v.oneCell' = true
  | _, _, _, .nil, v, h => by simp at h
  | a :: l, b :: l', ha, .cons hd t, v, h => by
    unfold allCell at ha
    split at ha
    · rename_i hc
      rcases List.mem_cons.1 h with rfl | h
      · exact cellv_ok hc hd
      · exact allCell_ok ha t v h
    · cases ha

/-- A whole block's cells are turned at once. -/
def relay (l : List AVal) (len off n : Nat) (ct : CT) : CT :=
  match Nat.beq off 0, Nat.beq len n, Nat.ble n 4096 with
  | true, true, true => CT.ofL n l
  | _, _, _ => CT.lay l off ct

theorem relay_cap {l : List AVal} {off n : Nat} {ct : CT} (h : n ≤ ct.cap) : n ≤ (relay l l.length off n ct).cap := by
  unfold relay
  split
  · rename_i h3; exact CT.ofL_cap n l (Nat.le_of_ble_eq_true h3)
  · rw [CT.lay_cap]; exact h

theorem relay_get {l : List AVal} {off n : Nat} {ct : CT} (h : n ≤ ct.cap) (_ho : off + l.length ≤ n) (i : Nat) (hi : i < n) : (relay l l.length off n ct).get i = (CT.lay l off ct).get i := by
  unfold relay
  split
  · rename_i h1 h2 h3
    have e1 := Nat.eq_of_beq_eq_true h1
    have e2 := Nat.eq_of_beq_eq_true h2
    rw [CT.get_ofL n l i (Nat.le_of_ble_eq_true h3) hi, CT.lay_get l off ct i (by omega) (by omega), if_pos (by omega)]
    congr 1
    omega
  · rfl

def aStore (P : Program) (t : TypeId) (H : Heap) (a x : AVal) : Option Heap :=
  match a, acells x, P.info? t with
  | .ptr b off, some cs, some i =>
    match get5 b H with
    | some (.cells n ct olds false) =>
      match Nat.beq cs.length i.size, Nat.ble (Nat.add off i.size) n, allCell cs with
      | true, true, true => some (set5 b (some (.cells n (relay cs i.size off n ct) [] false)) (dels olds H))
      | _, _, _ => none
    | _ => none
  | _, _, _ => none

/-- A heap whose objects say the same of the cells. -/
theorem Rel.relay {σ : Sg} {H : Heap} {nx b n : Nat} {w : World} {ct ct' : CT} {olds : List Nat} {s : Bool} (h : Rel σ (set5 b (some (.cells n ct olds s)) H) nx w) (hb : ∃ p, σ b = some p)
    (hcap : n ≤ ct'.cap) (hg : ∀ i, i < n → ct'.get i = ct.get i) : Rel σ (set5 b (some (.cells n ct' olds s)) H) nx w := by
  obtain ⟨⟨cb, sz⟩, hb⟩ := hb
  have hlim := h.lim
  have lt : ∀ {c p}, σ c = some p → c < 1048576 := fun {c p} hc => by obtain ⟨cb, sz⟩ := p; have := (h.dom c cb sz hc).1; omega
  have bn := lt hb
  have key : ∀ c o, c < 1048576 → get5 c (set5 b (some (.cells n ct' olds s)) H) = some o → ∃ o', get5 c (set5 b (some (.cells n ct olds s)) H) = some o' ∧ o'.olds = o.olds ∧ o'.sup = o.sup := by
    intro c o hc e
    by_cases hcb : b = c
    · subst hcb; rw [get5_set5_same] at e; cases e; exact ⟨_, get5_set5_same _ _ _, rfl, rfl⟩
    · rw [get5_ne hcb bn hc] at e; exact ⟨o, by rw [get5_ne hcb bn hc]; exact e, rfl, rfl⟩
  refine ⟨h.lim, h.dom, ?_, ?_, ?_, ?_, h.glob⟩
  · intro c o x z e1 e2
    by_cases hcb : b = c
    · subst hcb
      rw [get5_set5_same] at e1
      cases e1
      obtain ⟨a1, a2, a3, a4⟩ := h.obj b _ x z (get5_set5_same _ _ _) e2
      exact ⟨a1, hcap, a3, fun i hi => by rw [hg i hi]; exact a4 i hi⟩
    · rw [get5_ne hcb bn (lt e2)] at e1
      exact h.obj c o x z (by rw [get5_ne hcb bn (lt e2)]; exact e1) e2
  · intro c c' o o' x z z' e1 e2 e3 e4
    obtain ⟨p, f1, g1, _⟩ := key c o (lt e3) e1
    obtain ⟨q, f2, g2, _⟩ := key c' o' (lt e4) e2
    rw [← g1, ← g2]
    exact h.sep c c' p q x z z' f1 f2 e3 e4
  · intro c c' o o' p e1 e2 e3 e4
    obtain ⟨q, f2, g2, _⟩ := key c' o' (lt e3) e2
    rw [← g2] at e4
    obtain ⟨p', hp'⟩ := h.old c' q p f2 e3 c e4
    obtain ⟨r, f1, _, g1⟩ := key c o (lt hp') e1
    rw [← g1]
    exact h.sup c c' r q p f1 f2 e3 e4
  · intro c o p e1 e2 c' e3
    obtain ⟨q, f1, g1, _⟩ := key c o (lt e2) e1
    rw [← g1] at e3
    exact h.old c q p f1 e2 c' e3

theorem Ext.relay {σ σ' : Sg} {H H' : Heap} {nx nx' b : Nat} {w w' : World} {x y : Option AObj} (h : Ext σ σ' H (set5 b x H') nx nx' w w') (hb : ∃ p, σ b = some p) (bn : b < 1048576) (hl : nx ≤ 1048576) :
    Ext σ σ' H (set5 b y H') nx nx' w w' := by
  obtain ⟨p, hb⟩ := hb
  refine { h with pend := fun c hc hn => ?_ }
  obtain ⟨h1, h2⟩ := h.pend c hc hn
  refine ⟨h1, ?_⟩
  have hcb : b ≠ c := fun e => by subst e; rw [hb] at hn; cases hn
  rw [get5_ne hcb bn (by omega)] at h2 ⊢
  exact h2

theorem aStore_ok {P : Program} {t : TypeId} {H H' : Heap} {a x : AVal} {σ : Sg} {nx : Nat} {w : World} {a' x' : Value} (hr : Rel σ H nx w) (ha : Den σ a a') (hx : Den σ x x')
    (h : aStore P t H a x = some H') : ∃ w', Rel σ H' nx w' ∧ Ext σ σ H H' nx nx w w' ∧ (Instr.storeAt t a' x').run P w = .ok () w' := by
  unfold aStore at h
  split at h
  · rename_i b off cs i hcs hi
    split at h
    · rename_i n ct olds ho
      split at h
      · rename_i h1 h2 h3
        have e1 := Nat.eq_of_beq_eq_true h1
        have e2 := Nat.le_of_ble_eq_true h2
        cases h
        cases ha with
        | @ptr _ _ cb sz hb =>
          have hlim := hr.lim
          have bn : b < 1048576 := by have := (hr.dom b cb sz hb).1; omega
          have hl := acells_ok hcs hx
          obtain ⟨o1, o2, o3, o4⟩ := hr.obj b _ cb sz ho hb
          have hadd : off + cs.length ≤ n := by simp at e2; omega
          obtain ⟨r1, r2⟩ := hr.store hb ho hadd hl
          rw [← e1]
          refine ⟨setCells w cb off x'.cells.toList, r1.relay ⟨_, hb⟩ (relay_cap o2) (relay_get o2 hadd), r2.relay ⟨_, hb⟩ bn hlim, ?_⟩
          have hlen := hl.length
          have hrun := run_storeCells (P := P) x'.cells.toList w cb off 0 (allCell_ok h3 hl) (fun k hk1 hk2 => o3 k (by omega))
          have hsz : x'.cells.size = i.size := by rw [← e1, hlen]; simp
          simp only [Instr.storeAt, Instr.sureAddr, storeVar, Sem.run_bind, Sem.run_pure, Result.andThen_ok, run_sizeOf' hi, hsz, Sem.run_ite]
          simpa using hrun
      · cases h
    · cases h
  · cases h

def opStore (P : Program) (t : TypeId) (a x : Operand) (ρ : Operand → AVal) (H : Heap) (nx : Nat) : Option ARes :=
  match aStore P t H (ρ a) (ρ x) with
  | some H' => some (.val .und H' nx)
  | none => none

theorem opStore_ok {P : Program} {o : Oper} {t : TypeId} {a x : Operand} {ρ : Operand → AVal} {H : Heap} {nx : Nat} {r : ARes} (ho : o.op = .store t a x)
    (h : opStore P t a x ρ H nx = some r) : OpOK P o ρ H nx r := by
  unfold opStore at h
  split at h
  · rename_i H' hv
    cases h
    intro σ w ρ' hr hd
    obtain ⟨w', r1, r2, hrun⟩ := aStore_ok hr (hd a) (hd x) hv
    exact ⟨σ, w', undef, r1, r2, .und _, .inr ⟨by simp [execOp, ho, hrun], rfl⟩⟩
  · cases h

end
end Go.Ev
