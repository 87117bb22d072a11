/-
  Own work. Operations on abstract values, part 7: maps whose keys are numbers.
-/
import Derived.Test.YtdigeeejmgkcoaaGreatDoorEvOp5
import Derived.MapKept
namespace Go.Ev
variable [GTab]
set_option linter.unusedSectionVars false
noncomputable section

/-! ### Objects that are maps -/
theorem Rel.allocMap {σ : Sg} {H : Heap} {nx : Nat} {w : World} (h : Rel σ H nx w) (hx : nx < 1048576) :
    Rel (upd σ nx (w.heap.size, 0)) (set5 nx (some (.map [] 0)) H) (nx + 1) (w.alloc (.map #[] 0)) ∧
    Ext σ (upd σ nx (w.heap.size, 0)) H (set5 nx (some (.map [] 0)) H) nx (nx + 1) w (w.alloc (.map #[] 0)) := by
  have hb : σ nx = none := by
    cases e : σ nx with
    | none => rfl
    | some p => obtain ⟨cb, s⟩ := p; have := (h.dom nx cb s e).1; omega
  have h1 : Rel σ (set5 nx (some (.map [] 0)) H) (nx + 1) w := h.pend hb (by omega) (by omega) hx
  obtain ⟨e1, e2, e3, e4⟩ := Ext.alloc_at (sz := 0) (.map #[] 0) h hb
  have ho : get5 nx (set5 nx (some (.map [] 0)) H) = some (.map [] 0) := get5_set5_same _ _ _
  have newb : (w.alloc (.map #[] 0)).heap[w.heap.size]? = some (.map #[] 0) := by
    show (w.heap.push _)[w.heap.size]? = _
    simp
  have hglob : Glob (upd σ nx (w.heap.size, 0)) (w.alloc (.map #[] 0)) := h.glob.of (by simp) (fun i hi _ => e4 i hi) e3
  refine ⟨⟨h1.lim, ?_, ?_, ?_, ?_, ?_, hglob⟩, ⟨e2, e3, ?_, by omega, rfl, rfl, rfl, by simp, fun i hi _ => e4 i hi⟩⟩
  · intro x cb s e
    rcases upd_inv e with ⟨rfl, q⟩ | ⟨_, q⟩
    · cases q; exact ⟨by omega, by simp⟩
    · have := h1.dom x cb s q
      exact ⟨this.1, by simp; omega⟩
  · intro x o cb s q1 q2
    rcases upd_inv q2 with ⟨rfl, e⟩ | ⟨_, e⟩
    · cases e
      rw [ho] at q1
      cases q1
      exact ⟨#[], newb, .nil⟩
    · have hlt' := (h1.dom x cb s e).2
      exact (ORel.mono e2 (h1.obj x o cb s q1 e)).of_block (e4 cb hlt')
  · intro x x' o o' cb s s' q1 q2 q3 q4
    rcases upd_inv q3 with ⟨rfl, e⟩ | ⟨_, e⟩
    · cases e
      rcases upd_inv q4 with ⟨rfl, _⟩ | ⟨_, e'⟩
      · exact .inl rfl
      · have := (h1.dom x' _ s' e').2; omega
    · rcases upd_inv q4 with ⟨rfl, e'⟩ | ⟨_, e'⟩
      · cases e'; have := (h1.dom x _ s e).2; omega
      · exact h1.sep x x' o o' cb s s' q1 q2 e e'
  · intro x x' o o' p q1 q2 q3 q4
    rcases upd_inv q3 with ⟨rfl, e⟩ | ⟨_, e⟩
    · rw [ho] at q2; cases q2; simp [AObj.olds] at q4
    · exact h1.sup x x' o o' p q1 q2 e q4
  · intro x o p q1 q2 x' q3
    rcases upd_inv q2 with ⟨rfl, e⟩ | ⟨_, e⟩
    · rw [ho] at q1; cases q1; simp [AObj.olds] at q3
    · obtain ⟨p', hp'⟩ := h1.old x o p q1 e x' q3
      exact ⟨p', e2 _ _ hp'⟩
  · intro c hc hn
    exact ⟨e1 c (by omega) hc hn, get5_ne (by omega) hx (by omega)⟩

/-- A map is turned. -/
theorem Rel.storeMap {σ : Sg} {H : Heap} {nx b cb sz : Nat} {w w' : World} {es es2 : List AEnt} {clock clock2 : Nat} {es2' : Array MapEntry} (h : Rel σ H nx w) (hb : σ b = some (cb, sz)) (ho : get5 b H = some (.map es clock))
    (hw : w'.heap[cb]? = some (.map es2' clock2)) (hd : DenE σ es2 es2'.toList) (hrest : ∀ k, k ≠ cb → w'.heap[k]? = w.heap[k]?) (hos : w'.os = w.os) (ht : w'.tape = w.tape) (hout : w'.output = w.output) (hsz : w'.heap.size = w.heap.size) :
    Rel σ (set5 b (some (.map es2 clock2)) H) nx w' ∧ Ext σ σ H (set5 b (some (.map es2 clock2)) H) nx nx w w' := by
  have hlim := h.lim
  have lt : ∀ {c p}, σ c = some p → c < 1048576 := fun {c p} hc => by obtain ⟨x, z⟩ := p; have := (h.dom c x z hc).1; omega
  have bn := lt hb
  have key : ∀ c o, c ≠ b → c < 1048576 → get5 c (set5 b (some (.map es2 clock2)) H) = some o → get5 c H = some o := by
    intro c o hcb hc e
    rwa [get5_ne (fun e => hcb e.symm) bn hc] at e
  have keyb : get5 b (set5 b (some (.map es2 clock2)) H) = some (.map es2 clock2) := get5_set5_same _ _ _
  have alone : ∀ c o s, c ≠ b → get5 c H = some o → σ c = some (cb, s) → False := by
    intro c o s hcb hc hs
    rcases h.sep c b o _ cb s sz hc ho hs hb with e | e | e
    · exact hcb e
    · simp [AObj.olds] at e
    · have := h.sup b c _ o _ ho hc hs e
      simp [AObj.sup] at this
  have hglob : Glob σ w' := h.glob.of (Nat.le_of_eq hsz.symm) (fun i hi hno => hrest i (fun e => by subst e; exact hno b sz hb)) fun x cb s e _ => ⟨x, s, e⟩
  refine ⟨⟨hlim, ?_, ?_, ?_, ?_, ?_, hglob⟩, ⟨fun _ _ e => e, fun c _ s e _ => ⟨c, s, e⟩, ?_, Nat.le_refl _, hos, ht, hout, Nat.le_of_eq hsz.symm, ?_⟩⟩
  · intro c x s e; have := h.dom c x s e; rw [hsz]; exact this
  · intro c o x s e1 e2
    by_cases hcb : c = b
    · subst hcb
      rw [hb] at e2
      cases e2
      rw [keyb] at e1
      cases e1
      exact ⟨es2', hw, hd⟩
    · have e1' := key c o hcb (lt e2) e1
      refine (h.obj c o x s e1' e2).of_block (hrest x ?_)
      intro e
      subst e
      exact alone c o s hcb e1' e2
  · intro c c' o o' x s s' e1 e2 e3 e4
    by_cases h1 : c = b
    · subst h1
      by_cases h2 : c' = c
      · exact .inl h2.symm
      · have e2' := key c' o' h2 (lt e4) e2
        rw [hb] at e3
        cases e3
        exact (alone c' o' s' h2 e2' e4).elim
    · have e1' := key c o h1 (lt e3) e1
      by_cases h2 : c' = b
      · subst h2
        rw [hb] at e4
        cases e4
        exact (alone c o s h1 e1' e3).elim
      · exact h.sep c c' o o' x s s' e1' (key c' o' h2 (lt e4) e2) e3 e4
  · intro c c' o o' p e1 e2 e3 e4
    by_cases h2 : c' = b
    · subst h2
      rw [keyb] at e2; cases e2; simp [AObj.olds] at e4
    · have e2' := key c' o' h2 (lt e3) e2
      obtain ⟨p', hp'⟩ := h.old c' o' p e2' e3 c e4
      by_cases h1 : c = b
      · subst h1
        have := h.sup c c' _ o' p ho e2' e3 e4
        simp [AObj.sup] at this
      · exact h.sup c c' o o' p (key c o h1 (lt hp') e1) e2' e3 e4
  · intro c o p e1 e2 c' e3
    by_cases h1 : c = b
    · subst h1
      rw [keyb] at e1; cases e1; simp [AObj.olds] at e3
    · exact h.old c o p (key c o h1 (lt e2) e1) e2 c' e3
  · intro c hc hn
    refine ⟨hn, ?_⟩
    have hcb : b ≠ c := fun e => by subst e; rw [hb] at hn; cases hn
    exact get5_ne hcb bn (by omega)
  · intro i hi hno
    exact hrest i (fun e => by subst e; exact hno b sz hb)

/-! ### Look-ups -/
def ikC (k : IntKind) : Nat := IntKind.rec 0 1 2 3 4 5 6 7 k
theorem ikC_inj {k j : IntKind} (h : Nat.beq (ikC k) (ikC j) = true) : k = j := by
  cases k <;> cases j <;> first | rfl | exact Bool.noConfusion h

def findA (k : IntKind) (n : Int) : List AEnt → Nat → Option (Option (Nat × AVal))
  | [], _ => some none
  | e :: es, i => match e.key with
    | .int j m => match Nat.beq (ikC k) (ikC j), ieq n m with
      | true, true => some (some (i, e.val))
      | true, false => findA k n es (Nat.succ i)
      | _, _ => none
    | _ => none

/-- What was found. -/
def FoundRel (σ : Sg) : Option (Nat × AVal) → Option (Nat × Value) → Prop
  | none, none => True
  | some (i, v), some (j, v') => i = j ∧ Den σ v v'
  | _, _ => False

theorem findA_ok {σ : Sg} {k kk : IntKind} {n : Int} : ∀ {es : List AEnt} {es' : List MapEntry} {i : Nat} {r : Option (Nat × AVal)}, findA k n es i = some r → DenE σ es es' →
    ∃ r', Instr.findNow (.int kk) (.int k n) es' i = some r' ∧ FoundRel σ r r' ∧ (∀ j v, r' = some (j, v) → i ≤ j ∧ ((es'[j - i]?).map (·.key)) = some (.int k n))
  | [], _, i, r, h, .nil => by cases h; exact ⟨none, rfl, trivial, fun _ _ e => by cases e⟩
  | e :: es, e' :: es', i, r, h, .cons hk hv hb t => by
    unfold findA at h
    split at h <;> first | (cases h; done) | skip
    rename_i j m hj
    rw [hj] at hk
    have hk' : e'.key = .int j m := by cases hq : e'.key <;> rw [hq] at hk <;> cases hk <;> rfl
    split at h <;> first | (cases h; done) | skip
    · rename_i h1 h2
      have e1 := ikC_inj h1
      subst e1
      rw [ieq_eq] at h2
      cases h
      refine ⟨some (i, e'.val), ?_, ⟨rfl, hv⟩, fun q v eq => ?_⟩
      · simp only [Instr.findNow, Instr.sameNow, hk', if_true, h2]
      · cases eq
        refine ⟨Nat.le_refl _, ?_⟩
        have : n = m := by simpa using h2
        simp [hk', this]
    · rename_i h1 h2
      have e1 := ikC_inj h1
      subst e1
      rw [ieq_eq] at h2
      obtain ⟨r', f1, f2, f3⟩ := findA_ok (kk := kk) h t
      refine ⟨r', ?_, f2, fun q v eq => ?_⟩
      · simp only [Instr.findNow, Instr.sameNow, hk', if_true, h2]
        exact f1
      · obtain ⟨g1, g2⟩ := f3 q v eq
        refine ⟨by omega, ?_⟩
        have : q - i = (q - (i + 1)) + 1 := by omega
        rw [this, List.getElem?_cons_succ]
        exact g2

def entsOf (H : Heap) (m : AVal) : Option (List AEnt) := match m with
  | .nilMap => some []
  | .map b => match get5 b H with
    | some (.map es _) => some es
    | _ => none
  | _ => none

def opLookup (P : Program) (t : TypeId) (x ix : Operand) (ok : Bool) (ρ : Operand → AVal) (H : Heap) (nx : Nat) : Option ARes :=
  match P.underlying t, ρ ix with
  | some (.map kt et), .int k n => match P.underlying kt, entsOf H (ρ x) with
    | some (.int kk), some es => match Nat.beq (ikC k) (ikC kk), findA k n es 0 with
      | true, some (some (_, v)) => match ok with
        | true => some (.val (.tuple [v, .bool true]) H nx)
        | false => some (.val v H nx)
      | true, some none => match P.info? et with
        | some i => match i.zero with
          | some z => match ok with
            | true => some (.val (.tuple [ofVal z, .bool false]) H nx)
            | false => some (.val (ofVal z) H nx)
          | none => none
        | none => none
      | _, _ => none
    | _, _ => none
  | _, _ => none

theorem opLookup_ok {P : Program} {o : Oper} {t : TypeId} {x ix : Operand} {ok : Bool} {ρ : Operand → AVal} {H : Heap} {nx : Nat} {r : ARes} (ho : o.op = .lookup t x ix ok)
    (h : opLookup P t x ix ok ρ H nx = some r) : OpOK P o ρ H nx r := by
  unfold opLookup at h
  split at h <;> first | (cases h; done) | skip
  rename_i kt et k n hu hix
  split at h <;> first | (cases h; done) | skip
  rename_i kk es hkt hes
  have main : ∀ (σ : Sg) (w : World) (ρ' : Operand → Value), Rel σ H nx w → (∀ x, Den σ (ρ x) (ρ' x)) → k = kk → ∀ {r0}, findA k n es 0 = some r0 →
      ∃ r', FoundRel σ r0 r' ∧ ∀ {v' : Value} {b : Bool}, (match r' with | some (_, v) => v' = v ∧ b = true | none => (zeroValue et).run P w = .ok v' w ∧ b = false) → (execOp ρ' o).run P w = .ok (.value (if ok then .tuple #[v', .bool b] else v')) w := by
    intro σ w ρ' hr hd hkk r0 hf
    subst hkk
    have dix := hd ix; rw [hix] at dix
    have eix : ρ' ix = .int k n := by cases hq : ρ' ix <;> rw [hq] at dix <;> cases dix <;> rfl
    have dx := hd x
    have ents : ∃ es' : Array MapEntry, DenE σ es es'.toList ∧ ((ρ' x = .map none ∧ es' = #[]) ∨ ∃ rb clock, ρ' x = .map (some rb) ∧ w.heap[rb]? = some (.map es' clock)) := by
      unfold entsOf at hes
      split at hes <;> first | (cases hes; done) | skip
      · rename_i hxn
        cases hes
        rw [hxn] at dx
        refine ⟨#[], .nil, .inl ⟨?_, rfl⟩⟩
        cases hq : ρ' x <;> rw [hq] at dx <;> cases dx <;> rfl
      · rename_i b hxb
        split at hes <;> first | (cases hes; done) | skip
        rename_i clock hob
        cases hes
        rw [hxb] at dx
        cases hq : ρ' x <;> rw [hq] at dx <;> cases dx
        rename_i cb sz hb
        obtain ⟨es', h1, h2⟩ := hr.obj b _ cb sz hob hb
        exact ⟨es', h2, .inr ⟨cb, clock, rfl, h1⟩⟩
    obtain ⟨es', hden, hcase⟩ := ents
    obtain ⟨r', f1, f2, _⟩ := findA_ok (kk := k) hf hden
    refine ⟨r', f2, fun {v' b} hv => ?_⟩
    have hck : (Instr.checkKey es'.isEmpty 10000 kt (.int k n)).run P w = .ok () w := MapKept.run_checkKey hkt (by simp [MapKept.IsKey]) _ 9999
    have hfk : (Instr.findKey kt (.int k n) es'.toList).run P w = .ok r' w := MapKept.run_findKey hkt f1
    rcases hcase with ⟨hx0, he0⟩ | ⟨rb, clock, hx0, hb0⟩
    · subst he0
      cases r' with
      | none =>
        obtain ⟨hz, rfl⟩ := hv
        simp only [execOp, ho, hx0, eix, Instr.lookup, Sem.run_bind, run_underlying' hu, Result.andThen_ok, Sem.run_pure, hck, hfk, hz]
      | some p =>
        obtain ⟨j, v⟩ := p
        obtain ⟨rfl, rfl⟩ := hv
        simp only [execOp, ho, hx0, eix, Instr.lookup, Sem.run_bind, run_underlying' hu, Result.andThen_ok, Sem.run_pure, hck, hfk]
    · cases r' with
      | none =>
        obtain ⟨hz, rfl⟩ := hv
        simp only [execOp, ho, hx0, eix, Instr.lookup, Sem.run_bind, run_underlying' hu, Result.andThen_ok, Sem.run_pure, MapKept.run_getObj_map hb0, hck, hfk, hz]
      | some p =>
        obtain ⟨j, v⟩ := p
        obtain ⟨rfl, rfl⟩ := hv
        simp only [execOp, ho, hx0, eix, Instr.lookup, Sem.run_bind, run_underlying' hu, Result.andThen_ok, Sem.run_pure, MapKept.run_getObj_map hb0, hck, hfk]
  split at h <;> first | (cases h; done) | skip
  · rename_i j v hk hf
    have hkk := ikC_inj hk
    split at h
    · cases h
      refine OpOK.pure fun σ w ρ' hr hd => ?_
      obtain ⟨r', f2, run⟩ := main σ w ρ' hr hd hkk hf
      cases r' with
      | none => exact f2.elim
      | some p =>
        obtain ⟨j', v'⟩ := p
        exact ⟨_, .tuple (.cons f2.2 (.cons (.bool true) .nil)), run (v' := v') (b := true) ⟨rfl, rfl⟩⟩
    · cases h
      refine OpOK.pure fun σ w ρ' hr hd => ?_
      obtain ⟨r', f2, run⟩ := main σ w ρ' hr hd hkk hf
      cases r' with
      | none => exact f2.elim
      | some p =>
        obtain ⟨j', v'⟩ := p
        exact ⟨_, f2.2, run (v' := v') (b := true) ⟨rfl, rfl⟩⟩
  · rename_i hk hf
    have hkk := ikC_inj hk
    split at h <;> first | (cases h; done) | skip
    rename_i i hi
    split at h <;> first | (cases h; done) | skip
    rename_i z hz
    split at h
    · cases h
      refine OpOK.pure fun σ w ρ' hr hd => ?_
      obtain ⟨r', f2, run⟩ := main σ w ρ' hr hd hkk hf
      cases r' with
      | some p => exact f2.elim
      | none => exact ⟨_, .tuple (.cons (den_ofVal σ z) (.cons (.bool false) .nil)), run (v' := z) (b := false) ⟨run_zeroValue' hi hz, rfl⟩⟩
    · cases h
      refine OpOK.pure fun σ w ρ' hr hd => ?_
      obtain ⟨r', f2, run⟩ := main σ w ρ' hr hd hkk hf
      cases r' with
      | some p => exact f2.elim
      | none => exact ⟨_, den_ofVal σ z, run (v' := z) (b := false) ⟨run_zeroValue' hi hz, rfl⟩⟩

/-! ### New maps -/
def opMakeMap (r : Option Operand) (_ρ : Operand → AVal) (H : Heap) (nx : Nat) : Option ARes :=
  match r, Nat.ble (Nat.succ nx) 1048576 with
  | none, true => forceN nx fun b => some (.val (.map b) (set5 b (some (.map [] 0)) H) (Nat.succ b))
  | _, _ => none

theorem opMakeMap_ok {P : Program} {o : Oper} {t : TypeId} {q : Option Operand} {ρ : Operand → AVal} {H : Heap} {nx : Nat} {r : ARes} (ho : o.op = .makeMap t q)
    (h : opMakeMap q ρ H nx = some r) : OpOK P o ρ H nx r := by
  unfold opMakeMap at h
  split at h <;> first | (cases h; done) | skip
  rename_i hle
  rw [forceN_eq] at h
  cases h
  intro σ w ρ' hr hd
  have hx : nx < 1048576 := Nat.le_of_ble_eq_true hle
  obtain ⟨R, E⟩ := hr.allocMap hx
  refine ⟨_, _, .map (some w.heap.size), R, E, .map (sz := 0) (by simp [upd]), .inl ?_⟩
  simp [execOp, ho, Instr.makeMap, newObj, Sem.run]

/-! ### Entries -/
def setEnt (key val : AVal) : List AEnt → Nat → List AEnt
  | [], _ => []
  | e :: es, 0 => ⟨key, val, e.born⟩ :: es
  | e :: es, i + 1 => e :: setEnt key val es i

def opMapUpdate (P : Program) (t : TypeId) (m ky x : Operand) (ρ : Operand → AVal) (H : Heap) (nx : Nat) : Option ARes :=
  match P.underlying t, ρ m, ρ ky with
  | some (.map kt _), .map b, .int k n => match P.underlying kt, get5 b H with
    | some (.int kk), some (.map es clock) => match Nat.beq (ikC k) (ikC kk), findA k n es 0 with
      | true, some (some (i, _)) => some (.val .und (set5 b (some (.map (setEnt (.int k n) (ρ x) es i) clock)) H) nx)
      | true, some none => some (.val .und (set5 b (some (.map (es ++ [⟨.int k n, ρ x, clock⟩]) (Nat.succ clock))) H) nx)
      | _, _ => none
    | _, _ => none
  | _, _, _ => none

theorem DenE.append {σ : Sg} : ∀ {l : List AEnt} {l' : List MapEntry} {m : List AEnt} {m' : List MapEntry}, DenE σ l l' → DenE σ m m' → DenE σ (l ++ m) (l' ++ m')
  | _, _, _, _, .nil, h => h
  | _, _, _, _, .cons hk hv hb t, h => .cons hk hv hb (DenE.append t h)

theorem DenE.setEnt {σ : Sg} {key val : AVal} {key' val' : Value} (hk : Den σ key key') (hv : Den σ val val') : ∀ {l : List AEnt} {l' : List MapEntry} (i : Nat), DenE σ l l' → DenE σ (Ev.setEnt key val l i) (l'.modify i fun e => { e with key := key', val := val' })
  | _, _, i, .nil => by cases i <;> exact .nil
  | _, _, 0, .cons _ _ hb t => .cons hk hv hb t
  | _, _, i + 1, .cons h1 h2 h3 t => .cons h1 h2 h3 (DenE.setEnt hk hv i t)

theorem opMapUpdate_ok {P : Program} {o : Oper} {t : TypeId} {m ky x : Operand} {ρ : Operand → AVal} {H : Heap} {nx : Nat} {r : ARes} (ho : o.op = .mapUpdate t m ky x ∨ o.op = .insert t m ky x)
    (h : opMapUpdate P t m ky x ρ H nx = some r) : OpOK P o ρ H nx r := by
  unfold opMapUpdate at h
  split at h <;> first | (cases h; done) | skip
  rename_i kt et b k n hu hm hky
  split at h <;> first | (cases h; done) | skip
  rename_i kk es clock hkt hob
  have ex : ∀ (ρ' : Operand → Value) (w w' : World), (Instr.mapUpdate t (ρ' m) (ρ' ky) (ρ' x)).run P w = .ok () w' → (execOp ρ' o).run P w = .ok .skip w' := by
    intro ρ' w w' hrun
    rcases ho with ho | ho <;> simp [execOp, ho, hrun]
  have prep : ∀ (σ : Sg) (w : World) (ρ' : Operand → Value), Rel σ H nx w → (∀ x, Den σ (ρ x) (ρ' x)) → ∃ cb sz, ∃ es' : Array MapEntry, σ b = some (cb, sz) ∧ ρ' m = .map (some cb) ∧ ρ' ky = .int k n ∧ w.heap[cb]? = some (.map es' clock) ∧ DenE σ es es'.toList := by
    intro σ w ρ' hr hd
    have dm := hd m; rw [hm] at dm
    have dk := hd ky; rw [hky] at dk
    have ek : ρ' ky = .int k n := by cases hq : ρ' ky <;> rw [hq] at dk <;> cases dk <;> rfl
    cases hq : ρ' m <;> rw [hq] at dm <;> cases dm
    rename_i cb sz hb
    obtain ⟨es', h1, h2⟩ := hr.obj b _ cb sz hob hb
    exact ⟨cb, sz, es', hb, rfl, ek, h1, h2⟩
  split at h <;> first | (cases h; done) | skip
  · rename_i i v hk hf
    have hkk := ikC_inj hk
    subst hkk
    cases h
    intro σ w ρ' hr hd
    obtain ⟨cb, sz, es', hb, em, ek, hw, hden⟩ := prep σ w ρ' hr hd
    obtain ⟨r', f1, f2, f3⟩ := findA_ok (kk := k) hf hden
    cases r' with
    | none => exact f2.elim
    | some p =>
      obtain ⟨j, v'⟩ := p
      obtain ⟨rfl, _⟩ := f2
      obtain ⟨_, g2⟩ := f3 i v' rfl
      have hold : ((es'[i]?).map (·.key)).getD (.int k n) = .int k n := by
        have : (es'[i]?).map (·.key) = some (.int k n) := by simpa using g2
        rw [this]; rfl
      have hlt : cb < w.heap.size := (hr.dom b cb sz hb).2
      obtain ⟨s1, s2⟩ := MapKept.heap_set (o' := .map (es'.modify i fun e => { e with key := .int k n, val := ρ' x }) clock) hw
      obtain ⟨R, E⟩ := hr.storeMap (w' := { w with heap := w.heap.setIfInBounds cb (.map (es'.modify i fun e => { e with key := .int k n, val := ρ' x }) clock) }) (es2 := setEnt (.int k n) (ρ x) es i) (clock2 := clock) hb hob s1
        (by rw [Array.toList_modify]; exact DenE.setEnt (.int k n) (hd x) i hden) s2 rfl rfl rfl (by simp)
      refine ⟨σ, _, undef, R, E, .und _, .inr ⟨ex ρ' w _ ?_, rfl⟩⟩
      have hck : (Instr.checkKey false 10000 kt (.int k n)).run P w = .ok () w := MapKept.run_checkKey hkt (by simp [MapKept.IsKey]) _ 9999
      have hfk : (Instr.findKey kt (.int k n) es'.toList).run P w = .ok (some (i, v')) w := MapKept.run_findKey hkt f1
      have hks : (Instr.keyThatStays (.int k n) (.int k n)).run P w = .ok (.int k n) w := MapKept.run_keyThatStays (d := .int k) (by simp [MapKept.IsKey])
      simp only [em, ek, Instr.mapUpdate, Sem.run_bind, run_underlying' hu, Result.andThen_ok, MapKept.run_getObj_map hw, hck, hfk, hold, hks, MapKept.run_setObj_map _ hw]
  · rename_i hk hf
    have hkk := ikC_inj hk
    subst hkk
    cases h
    intro σ w ρ' hr hd
    obtain ⟨cb, sz, es', hb, em, ek, hw, hden⟩ := prep σ w ρ' hr hd
    obtain ⟨r', f1, f2, f3⟩ := findA_ok (kk := k) hf hden
    cases r' with
    | some p => exact f2.elim
    | none =>
      obtain ⟨s1, s2⟩ := MapKept.heap_set (o' := .map (es'.push { key := .int k n, val := ρ' x, born := clock }) (clock + 1)) hw
      obtain ⟨R, E⟩ := hr.storeMap (w' := { w with heap := w.heap.setIfInBounds cb (.map (es'.push { key := .int k n, val := ρ' x, born := clock }) (clock + 1)) }) (es2 := es ++ [⟨.int k n, ρ x, clock⟩]) (clock2 := clock + 1) hb hob s1
        (by rw [Array.toList_push]; exact hden.append (.cons (.int k n) (hd x) rfl .nil)) s2 rfl rfl rfl (by simp)
      refine ⟨σ, _, undef, R, E, .und _, .inr ⟨ex ρ' w _ ?_, rfl⟩⟩
      have hck : (Instr.checkKey false 10000 kt (.int k n)).run P w = .ok () w := MapKept.run_checkKey hkt (by simp [MapKept.IsKey]) _ 9999
      have hfk : (Instr.findKey kt (.int k n) es'.toList).run P w = .ok none w := MapKept.run_findKey hkt f1
      simp only [em, ek, Instr.mapUpdate, Sem.run_bind, run_underlying' hu, Result.andThen_ok, MapKept.run_getObj_map hw, hck, hfk, MapKept.run_setObj_map _ hw]

/-! ### copy -/
def minN (a b : Nat) : Nat := Bool.rec b a (Nat.ble a b)
theorem minN_eq (a b : Nat) : minN a b = Nat.min b a ∧ minN a b ≤ a ∧ minN a b ≤ b ∧ minN a b = Nat.min a b := by
  unfold minN
  cases h : Nat.ble a b with
  | true => have := Nat.le_of_ble_eq_true h; show a = Nat.min b a ∧ a ≤ a ∧ a ≤ b ∧ a = Nat.min a b; simp only [Nat.min_def]; refine ⟨?_, Nat.le_refl _, this, ?_⟩ <;> split <;> omega
  | false =>
    have : ¬ a ≤ b := fun hle => by rw [Nat.ble_eq_true_of_le hle] at h; cases h
    show b = Nat.min b a ∧ b ≤ a ∧ b ≤ b ∧ b = Nat.min a b
    simp only [Nat.min_def]
    refine ⟨?_, by omega, Nat.le_refl _, ?_⟩ <;> split <;> omega

def opCopy (P : Program) (types : Array TypeId) (args : Array Operand) (ρ : Operand → AVal) (H : Heap) (nx : Nat) : Option ARes :=
  match types.toList, args.toList with
  | dT :: _, [d, s] => match P.underlying dT with
    | some (.slice elem) => match P.info? elem, ρ d, ρ s with
      | some e, .slice b off len _ _, .slice b2 off2 len2 _ _ => match get5 b H, get5 b2 H with
        | some (.cells cnt ct olds false), some (.cells cnt2 ct2 _ _) => forceN (minN len2 len) fun n => match Nat.ble (Nat.add off (Nat.mul n e.size)) cnt, Nat.ble (Nat.add off2 (Nat.mul n e.size)) cnt2, allCell (CT.slab ct2 (Nat.mul n e.size) off2) with
          | true, true, true => some (.val (.int .i64 (.ofNat n)) (set5 b (some (.cells cnt (CT.lay (CT.slab ct2 (Nat.mul n e.size) off2) off ct) [] false)) (dels olds H)) nx)
          | _, _, _ => none
        | _, _ => none
      | some _, .slice _ _ _ _ _, .nilSlice => some (.val (.int .i64 0) H nx)
      | some _, .nilSlice, .nilSlice => some (.val (.int .i64 0) H nx)
      | some _, .nilSlice, .slice _ _ _ _ _ => some (.val (.int .i64 0) H nx)
      | _, _, _ => none
    | _ => none
  | _, _ => none

theorem opCopy_ok {P : Program} {o : Oper} {c : Call} {ρ : Operand → AVal} {H : Heap} {nx : Nat} {r : ARes} (ho : o.op = .call c) (hc : c.callee = .builtin .copy) (h : opCopy P c.argTypes c.args ρ H nx = some r) : OpOK P o ρ H nx r := by
  unfold opCopy at h
  split at h <;> first | (cases h; done) | skip
  rename_i dT rT d s hT hA
  split at h <;> first | (cases h; done) | skip
  rename_i elem hu
  have eT : c.argTypes[0]? = some dT := by rw [← Array.getElem?_toList, hT]; rfl
  have eA : c.args = #[d, s] := by apply Array.ext'; rw [hA]
  have ex : ∀ (ρ' : Operand → Value) (w : World) (v : Value) (w' : World), (Builtin.copy_ c.argTypes o.type #[ρ' d, ρ' s]).run P w = .ok v w' → (execOp ρ' o).run P w = .ok (.value v) w' := by
    intro ρ' w v w' hrun
    simp [execOp, ho, resolve, hc, invoke, builtin, eA, hrun]
  split at h <;> first | (cases h; done) | skip
  · rename_i e b off len esz full b2 off2 len2 esz2 full2 he hdv hsv
    split at h <;> first | (cases h; done) | skip
    rename_i cnt ct olds cnt2 ct2 olds2 s2 ho1 ho2
    rw [forceN_eq] at h
    split at h <;> first | (cases h; done) | skip
    rename_i h1 h2 h3
    cases h
    have h1' : off + minN len2 len * e.size ≤ cnt := Nat.le_of_ble_eq_true h1
    have h2' : off2 + minN len2 len * e.size ≤ cnt2 := Nat.le_of_ble_eq_true h2
    obtain ⟨m1, m2, m3, m4⟩ := minN_eq len2 len
    intro σ w ρ' hr hd
    have dd := hd d; rw [hdv] at dd
    have ds := hd s; rw [hsv] at ds
    -- the source
    have src : ∃ l', DenL σ (CT.slab ct2 (minN len2 len * e.size) off2) l' ∧ (Builtin.lenOf (ρ' s)).run P w = .ok len2 w ∧ (Builtin.firstCells e.size (minN len2 len) (ρ' s)).run P w = .ok ⟨l'⟩ w := by
      cases hq : ρ' s <;> rw [hq] at ds <;> cases ds
      · rename_i cb sz cap hb q1 q2 q3
        obtain ⟨l', _, hl, _, hrun⟩ := load_slab hr ho2 hb P off2 (minN len2 len * e.size) h2'
        exact ⟨l', hl, rfl, hrun⟩
      · rename_i off' cb sz hb
        have z : minN 0 len = 0 := by omega
        rw [z, Nat.zero_mul]
        exact ⟨[], .nil, rfl, by simp [Builtin.firstCells, loadCells, loadCellsFrom]⟩
    obtain ⟨l', hl, hlen, hfirst⟩ := src
    have hll : (CT.slab ct2 (minN len2 len * e.size) off2).length = minN len2 len * e.size := CT.slab_length _ _ _
    have hll' := hl.length
    have dst : ∃ base cap cb sz, σ b = some (cb, sz) ∧ ρ' d = .slice (some base) len cap ∧ (storeCells base l').run P w = .ok () (setCells w cb off l') := by
      cases hq : ρ' d <;> rw [hq] at dd <;> cases dd
      · rename_i cap cb sz hb q1 q2 q3
        obtain ⟨o1, o2, o3, o4⟩ := hr.obj b _ cb sz ho1 hb
        refine ⟨at' cb off, cap, cb, sz, hb, rfl, ?_⟩
        exact run_storeCells (P := P) l' w cb off 0 (allCell_ok h3 hl) (fun k hk1 hk2 => o3 k (by omega))
      · rename_i off' cb sz hb
        have z : minN len2 0 = 0 := by omega
        have hz : minN len2 0 * e.size = 0 := by rw [z, Nat.zero_mul]
        have hn : l' = [] := List.length_eq_zero_iff.1 (by omega)
        subst hn
        exact ⟨at' cb off', 0, cb, sz, hb, rfl, rfl⟩
    obtain ⟨base, cap, cb, sz, hb, hv, hst⟩ := dst
    obtain ⟨R, E⟩ := hr.store hb ho1 (by rw [hll]; omega) hl
    refine ⟨σ, _, _, R, E, .int .i64 (.ofNat (minN len2 len)), .inl (ex ρ' w _ _ ?_)⟩
    rw [m4] at hfirst
    simp only [Builtin.copy_, eT, hv, List.getElem?_toArray, List.getElem?_cons_zero, List.getElem?_cons_succ, Sem.run_bind, run_underlying' hu, Result.andThen_ok, hlen, run_sizeOf' he, hfirst, hst, Sem.run_pure, goInt, m4]
    rfl
  all_goals (
    cases h
    refine OpOK.pure fun σ w ρ' hr hd => ?_
    have dd := hd d
    have ds := hd s
    rename_i hdv hsv
    rw [hdv] at dd
    rw [hsv] at ds
    refine ⟨_, .int .i64 0, ex ρ' w _ _ ?_⟩
    cases hq : ρ' d <;> rw [hq] at dd <;> cases dd <;> cases hq2 : ρ' s <;> rw [hq2] at ds <;> cases ds <;>
    simp [Builtin.copy_, eT, run_underlying' hu, Builtin.lenOf, run_sizeOf' ‹_›, Builtin.firstCells, loadCells, loadCellsFrom, storeCells, goInt])

end
end Go.Ev

namespace Go.Ev
variable [GTab]
set_option linter.unusedSectionVars false
noncomputable section

/-- The receiver of a method that stands in the type's own row, without a path. -/
def recvA (P : Program) (H : Heap) (t : TypeId) (v : AVal) (byPtr : Bool) : Option AVal :=
  match P.underlying t, byPtr with
  | some (.pointer _), true => some v
  | some (.pointer elem), false => aLoad P elem H v
  | some d, false => match d with
    | .pointer _ => none
    | _ => some v
  | _, _ => none

def methodA (P : Program) (t : TypeId) (name : String) : Option (FuncId × Bool) :=
  match P.info? t with
  | some i => match i.methods.find? (·.name == name) with
    | some m => match m.path.isEmpty, m.func with
      | true, some p => some p
      | _, _ => none
    | none => none
  | none => none

def opInvoke (P : Program) (r : Operand) (name : String) (args : Array Operand) (ρ : Operand → AVal) (H : Heap) (_nx : Nat) : Option ARes :=
  match ρ r with
  | .iface t v => match methodA P t name with
    | some (f, byPtr) => match hasBody P f, recvA P H t v byPtr with
      | true, some u => some (.call f (u :: args.toList.map ρ))
      | _, _ => none
    | none => none
  | _ => none

theorem recvA_ok {P : Program} {σ : Sg} {H : Heap} {nx : Nat} {w : World} {t : TypeId} {v u : AVal} {v' : Value} {byPtr : Bool} {name : String} (hr : Rel σ H nx w) (hv : Den σ v v') (h : recvA P H t v byPtr = some u) :
    ∃ u', Den σ u u' ∧ (receiverAt t (.val v') byPtr (some name)).run P w = .ok u' w := by
  unfold recvA at h
  split at h
  · rename_i hu
    cases h
    exact ⟨v', hv, by simp [receiverAt, run_underlying' hu, Place.get]⟩
  · rename_i elem hu
    obtain ⟨x', dx, hx⟩ := aLoad_ok (P := P) hr hv h
    refine ⟨x', dx, ?_⟩
    have isptr : ∃ ad, v' = .pointer (some ad) := by
      unfold aLoad at h
      split at h <;> first | (cases h; done) | skip
      all_goals
        cases hv
        exact ⟨_, rfl⟩
    obtain ⟨ad, rfl⟩ := isptr
    have hx' : (loadVar elem ad).run P w = .ok x' w := by simpa [Instr.loadAt, Instr.sureAddr] using hx
    have hck : (Builtin.ssaWrapNilChk_ #[t] t #[.pointer (some ad), strVal "", strVal name]).run P w = .ok (.pointer (some ad)) w := rfl
    have hgt : (Place.get t (.val (.pointer (some ad)))).run P w = .ok (.pointer (some ad)) w := rfl
    have had : (asAddr (.pointer (some ad))).run P w = .ok ad w := rfl
    simp only [receiverAt, Sem.run_bind, run_underlying' hu, Result.andThen_ok, hgt, hck, had, hx']
  · rename_i d hne hu
    split at h <;> first | (cases h; done) | skip
    rename_i hd
    cases h
    refine ⟨v', hv, ?_⟩
    simp only [receiverAt, Sem.run_bind, run_underlying' hu, Result.andThen_ok]
    cases d <;> first | exact absurd rfl (hd _) | rfl
  · cases h

theorem opInvoke_ok {P : Program} {o : Oper} {c : Call} {rcv : Operand} {name : String} {ρ : Operand → AVal} {H : Heap} {nx : Nat} {r : ARes} (ho : o.op = .call c) (hc : c.callee = .invoke rcv name)
    (h : opInvoke P rcv name c.args ρ H nx = some r) : OpOK P o ρ H nx r := by
  unfold opInvoke at h
  split at h <;> first | (cases h; done) | skip
  rename_i t v hx
  split at h <;> first | (cases h; done) | skip
  rename_i f byPtr hm
  split at h <;> first | (cases h; done) | skip
  rename_i u hb hu
  cases h
  unfold methodA at hm
  split at hm <;> first | (cases hm; done) | skip
  rename_i i hi
  split at hm <;> first | (cases hm; done) | skip
  rename_i m hf
  split at hm <;> first | (cases hm; done) | skip
  rename_i p hp hfun
  cases hm
  intro σ w ρ' hr hd
  have dx := hd rcv
  rw [hx] at dx
  cases e : ρ' rcv <;> rw [e] at dx <;> cases dx
  rename_i v' dv
  obtain ⟨u', du, hrun⟩ := recvA_ok (P := P) (name := (name.splitOn ".").getLastD name) hr dv hu
  refine ⟨u' :: c.args.toList.map ρ', .cons du (denL_map hd _), ?_⟩
  have hpath : m.path.toList = [] := by
    have : m.path = #[] := by simpa using hp
    rw [this]
  have hmeth : ∀ n, (method (n + 1) t v' name).run P w = .ok (f, u') w := by
    intro n
    unfold method
    simp only [Sem.run_bind, run_typeInfo' hi, Result.andThen_ok, hf, hpath, follow, Sem.run_pure, hfun, hp, if_true, hrun]
  have hfuel : ∃ n, P.types.size + Made.depth = n + 1 := ⟨P.types.size + Made.depth - 1, by
    have : 0 < Made.depth := by decide
    omega⟩
  obtain ⟨n, hn⟩ := hfuel
  have hcm : (callMethod (.iface t v') name (c.args.map ρ')).run P w = .ok (.enter f (#[u'] ++ c.args.map ρ')) w := by
    simp only [callMethod, Sem.run_bind, program, Sem.run, Result.andThen_ok, hn, hmeth, run_callFunc hb]
  have hex : ((#[Value.iface t v'] ++ c.args.map ρ').extract 1 (#[Value.iface t v'] ++ c.args.map ρ').size) = c.args.map ρ' := by
    apply Array.ext'
    simp
    rw [List.take_of_length_le (by simp)]
  simp only [execOp, ho, resolve, hc, e, Sem.run_bind, Sem.run_pure, Result.andThen_ok, invoke]
  have hg : (#[Value.iface t v'] ++ c.args.map ρ')[0]? = some (.iface t v') := by rw [Array.getElem?_append_left (by simp)]; rfl
  simp only [hg, hex, hcm]
  congr 2
  simp

end
end Go.Ev
