/-
  Own work. Abstract heaps and worlds: the relation, and what a new block, a store, a block that is forgotten make of it.
-/
import Derived.Test.YtdigeeejmgkcoaaGreatDoorEvCore
namespace Go.Ev
variable [GTab]
set_option linter.unusedSectionVars false

structure AEnt where
  key : AVal
  val : AVal
  born : Nat

inductive AObj where
  | cells (n : Nat) (ct : CT) (olds : List Nat) (sup : Bool)
  | map (es : List AEnt) (clock : Nat)

def AObj.olds : AObj → List Nat
  | .cells _ _ o _ => o
  | .map _ _ => []

def AObj.sup : AObj → Bool
  | .cells _ _ _ s => s
  | .map _ _ => false

abbrev Heap := T5 (Option AObj)

inductive DenE (σ : Sg) : List AEnt → List MapEntry → Prop
  | nil : DenE σ [] []
  | cons {e : AEnt} {e' : MapEntry} {l : List AEnt} {l' : List MapEntry} (hk : Den σ e.key e'.key) (hv : Den σ e.val e'.val) (hb : e'.born = e.born) (t : DenE σ l l') : DenE σ (e :: l) (e' :: l')

theorem DenE.mono {σ σ' : Sg} (hs : ∀ b p, σ b = some p → σ' b = some p) : ∀ {l : List AEnt} {l' : List MapEntry}, DenE σ l l' → DenE σ' l l'
  | _, _, .nil => .nil
  | _, _, .cons hk hv hb t => .cons (hk.mono hs) (hv.mono hs) hb (DenE.mono hs t)

abbrev at' (cb i : Nat) : Addr := ⟨cb, i, none⟩

def ORel (σ : Sg) (o : AObj) (cb sz : Nat) (w : World) : Prop :=
  match o with
  | .cells n ct _ _ => n ≤ sz ∧ n ≤ ct.cap ∧ (∀ i, i < sz → w.frozen? (at' cb i) = false ∧ ∃ v, w.cell? (at' cb i) = some v) ∧
      (∀ i, i < n → ∃ v', w.cell? (at' cb i) = some v' ∧ Den σ (ct.get i) v')
  | .map es clock => ∃ es' : Array MapEntry, w.heap[cb]? = some (.map es' clock) ∧ DenE σ es es'.toList

structure Glob (σ : Sg) (w : World) : Prop where
  var : ∀ g l, GTab.tab g = some l → g < w.heap.size ∧ (∀ b sz, σ b ≠ some (g, sz)) ∧ ∀ (i : Nat) (v : AVal), l[i]? = some v → ∃ v', w.cell? (at' g i) = some v' ∧ ∀ τ : Sg, Den τ v v'
  blk : ∀ g o, GTab.blk g = some o → g < w.heap.size ∧ (∀ b sz, σ b ≠ some (g, sz)) ∧ w.heap[g]? = some o

theorem Glob.of {σ σ' : Sg} {w w' : World} (h : Glob σ w) (hs : w.heap.size ≤ w'.heap.size) (hb : ∀ i, i < w.heap.size → (∀ b sz, σ b ≠ some (i, sz)) → w'.heap[i]? = w.heap[i]?)
    (hr : ∀ b cb sz, σ' b = some (cb, sz) → cb < w.heap.size → ∃ b' sz', σ b' = some (cb, sz')) : Glob σ' w' := by
  refine ⟨fun g l hg => ?_, fun g o hg => ?_⟩
  · obtain ⟨h1, h2, h3⟩ := h.var g l hg
    refine ⟨Nat.lt_of_lt_of_le h1 hs, ?_, ?_⟩
    · intro b sz e
      obtain ⟨b', sz', e'⟩ := hr b g sz e h1
      exact h2 b' sz' e'
    · intro i v hv
      obtain ⟨v', e, d⟩ := h3 i v hv
      exact ⟨v', by simpa [World.cell?, hb g h1 h2] using e, d⟩
  · obtain ⟨h1, h2, h3⟩ := h.blk g o hg
    refine ⟨Nat.lt_of_lt_of_le h1 hs, ?_, ?_⟩
    · intro b sz e
      obtain ⟨b', sz', e'⟩ := hr b g sz e h1
      exact h2 b' sz' e'
    · rw [hb g h1 h2, h3]

structure Rel (σ : Sg) (H : Heap) (nx : Nat) (w : World) : Prop where
  lim : nx ≤ 1048576
  dom : ∀ b cb sz, σ b = some (cb, sz) → b < nx ∧ cb < w.heap.size
  obj : ∀ b o cb sz, get5 b H = some o → σ b = some (cb, sz) → ORel σ o cb sz w
  sep : ∀ b b' o o' cb sz sz', get5 b H = some o → get5 b' H = some o' → σ b = some (cb, sz) → σ b' = some (cb, sz') → b = b' ∨ b ∈ o'.olds ∨ b' ∈ o.olds
  sup : ∀ b b' o o' p, get5 b H = some o → get5 b' H = some o' → σ b' = some p → b ∈ o'.olds → o.sup = true
  old : ∀ b o p, get5 b H = some o → σ b = some p → ∀ b', b' ∈ o.olds → ∃ p', σ b' = some p'
  glob : Glob σ w

structure Ext (σ σ' : Sg) (H H' : Heap) (nx nx' : Nat) (w w' : World) : Prop where
  sub : ∀ b p, σ b = some p → σ' b = some p
  rng : ∀ b cb sz, σ' b = some (cb, sz) → cb < w.heap.size → ∃ b' sz', σ b' = some (cb, sz')
  pend : ∀ b, b < nx → σ b = none → σ' b = none ∧ get5 b H' = get5 b H
  le : nx ≤ nx'
  os : w'.os = w.os
  tape : w'.tape = w.tape
  output : w'.output = w.output
  size : w.heap.size ≤ w'.heap.size
  frame : ∀ i, i < w.heap.size → (∀ b sz, σ b ≠ some (i, sz)) → w'.heap[i]? = w.heap[i]?

theorem Ext.refl (σ : Sg) (H : Heap) (nx : Nat) (w : World) : Ext σ σ H H nx nx w w :=
  ⟨fun _ _ h => h, fun b _ sz h _ => ⟨b, sz, h⟩, fun _ _ h => ⟨h, rfl⟩, Nat.le_refl _, rfl, rfl, rfl, Nat.le_refl _, fun _ _ _ => rfl⟩

theorem Ext.trans {σ₁ σ₂ σ₃ : Sg} {H₁ H₂ H₃ : Heap} {n₁ n₂ n₃ : Nat} {w₁ w₂ w₃ : World} (a : Ext σ₁ σ₂ H₁ H₂ n₁ n₂ w₁ w₂) (b : Ext σ₂ σ₃ H₂ H₃ n₂ n₃ w₂ w₃) :
    Ext σ₁ σ₃ H₁ H₃ n₁ n₃ w₁ w₃ where
  sub := fun x p h => b.sub x p (a.sub x p h)
  rng := fun x cb sz h hlt => by
    obtain ⟨b', sz', h'⟩ := b.rng x cb sz h (Nat.lt_of_lt_of_le hlt a.size)
    exact a.rng b' cb sz' h' hlt
  pend := fun x hx h => by
    obtain ⟨h1, h2⟩ := a.pend x hx h
    obtain ⟨h3, h4⟩ := b.pend x (Nat.lt_of_lt_of_le hx a.le) h1
    exact ⟨h3, h4.trans h2⟩
  le := Nat.le_trans a.le b.le
  os := b.os.trans a.os
  tape := b.tape.trans a.tape
  output := b.output.trans a.output
  size := Nat.le_trans a.size b.size
  frame := fun i hi h => by
    rw [b.frame i (Nat.lt_of_lt_of_le hi a.size), a.frame i hi h]
    intro x sz e
    obtain ⟨b', sz', h'⟩ := a.rng x i sz e hi
    exact h b' sz' h'

theorem ORel.mono {σ σ' : Sg} {o : AObj} {cb sz : Nat} {w : World} (hs : ∀ b p, σ b = some p → σ' b = some p) (h : ORel σ o cb sz w) : ORel σ' o cb sz w := by
  cases o with
  | cells n ct olds sup =>
    obtain ⟨h1, h2, h3, h4⟩ := h
    exact ⟨h1, h2, h3, fun i hi => let ⟨v', e, d⟩ := h4 i hi; ⟨v', e, d.mono hs⟩⟩
  | map es clock =>
    obtain ⟨es', h1, h2⟩ := h
    exact ⟨es', h1, h2.mono hs⟩

/-- What an object of a world says depends on its block alone. -/
theorem ORel.of_block {σ : Sg} {o : AObj} {cb sz : Nat} {w w' : World} (e : w'.heap[cb]? = w.heap[cb]?) (h : ORel σ o cb sz w) : ORel σ o cb sz w' := by
  have e1 : ∀ i, w'.cell? (at' cb i) = w.cell? (at' cb i) := fun i => by simp [World.cell?, e]
  have e2 : ∀ i, w'.frozen? (at' cb i) = w.frozen? (at' cb i) := fun i => by simp [World.frozen?, e]
  cases o with
  | cells n ct olds sup =>
    obtain ⟨h1, h2, h3, h4⟩ := h
    exact ⟨h1, h2, fun i hi => by rw [e1, e2]; exact h3 i hi, fun i hi => by rw [e1]; exact h4 i hi⟩
  | map es clock =>
    obtain ⟨es', h1, h2⟩ := h
    exact ⟨es', e.trans h1, h2⟩

/-- A draw turns nothing. -/
theorem Rel.drew {σ : Sg} {H : Heap} {nx : Nat} {w : World} (h : Rel σ H nx w) : Rel σ H nx { w with drawn := w.drawn + 1 } :=
  ⟨h.lim, h.dom, fun b o cb sz e1 e2 => (h.obj b o cb sz e1 e2).of_block rfl, h.sep, h.sup, h.old, h.glob.of (Nat.le_refl _) (fun _ _ _ => rfl) fun b _ sz e _ => ⟨b, sz, e⟩⟩

theorem Ext.drew (σ : Sg) (H : Heap) (nx : Nat) (w : World) : Ext σ σ H H nx nx w { w with drawn := w.drawn + 1 } :=
  ⟨fun _ _ h => h, fun b _ sz h _ => ⟨b, sz, h⟩, fun _ _ h => ⟨h, rfl⟩, Nat.le_refl _, rfl, rfl, rfl, Nat.le_refl _, fun _ _ _ => rfl⟩

theorem get5_ne {H : Heap} {b b' : Nat} {x : Option AObj} (h : b ≠ b') (hb : b < 1048576) (hb' : b' < 1048576) : get5 b' (set5 b x H) = get5 b' H :=
  get5_set5_ne b b' x H (by rw [Nat.mod_eq_of_lt hb, Nat.mod_eq_of_lt hb']; exact h)

/-- An object at a number that is nowhere yet; or one that is forgotten there. -/
theorem Rel.pend {σ : Sg} {H : Heap} {nx nx' b : Nat} {w : World} {x : Option AObj} (h : Rel σ H nx w) (hb : σ b = none) (hn : nx ≤ nx') (hl : nx' ≤ 1048576) (hb2 : b < 1048576) :
    Rel σ (set5 b x H) nx' w := by
  have ne : ∀ {c p}, σ c = some p → get5 c (set5 b x H) = get5 c H := by
    intro c p hc
    obtain ⟨cb, sz⟩ := p
    have := (h.dom c cb sz hc).1
    have := h.lim
    exact get5_ne (fun e => by subst e; rw [hb] at hc; cases hc) hb2 (by omega)
  refine ⟨hl, fun c cb sz hc => ⟨Nat.lt_of_lt_of_le (h.dom c cb sz hc).1 hn, (h.dom c cb sz hc).2⟩, ?_, ?_, ?_, ?_, h.glob⟩
  · intro c o cb sz e1 e2; rw [ne e2] at e1; exact h.obj c o cb sz e1 e2
  · intro c c' o o' cb sz sz' e1 e2 e3 e4; rw [ne e3] at e1; rw [ne e4] at e2; exact h.sep c c' o o' cb sz sz' e1 e2 e3 e4
  · intro c c' o o' p e1 e2 e3 e4
    rw [ne e3] at e2
    obtain ⟨p', hp'⟩ := h.old c' o' p e2 e3 c e4
    rw [ne hp'] at e1
    exact h.sup c c' o o' p e1 e2 e3 e4
  · intro c o p e1 e2 c' e3; rw [ne e2] at e1; exact h.old c o p e1 e2 c' e3

/-- A block is forgotten. -/
theorem Rel.forget {σ : Sg} {H : Heap} {nx b : Nat} {w : World} (h : Rel σ H nx w) (hb2 : b < 1048576) : Rel σ (set5 b none H) nx w := by
  have key : ∀ c o, c < 1048576 → get5 c (set5 b none H) = some o → get5 c H = some o := by
    intro c o hc e
    by_cases hcb : b = c
    · subst hcb; rw [get5_set5_same] at e; cases e
    · rwa [get5_ne hcb hb2 hc] at e
  have lt : ∀ {c p}, σ c = some p → c < 1048576 := fun {c p} hc => by obtain ⟨cb, sz⟩ := p; have := (h.dom c cb sz hc).1; have := h.lim; omega
  refine ⟨h.lim, h.dom, ?_, ?_, ?_, ?_, h.glob⟩
  · intro c o cb sz e1 e2; exact h.obj c o cb sz (key c o (lt e2) e1) e2
  · intro c c' o o' cb sz sz' e1 e2 e3 e4; exact h.sep c c' o o' cb sz sz' (key _ _ (lt e3) e1) (key _ _ (lt e4) e2) e3 e4
  · intro c c' o o' p e1 e2 e3 e4
    have e2' := key _ _ (lt e3) e2
    obtain ⟨p', hp'⟩ := h.old c' o' p e2' e3 c e4
    exact h.sup c c' o o' p (key _ _ (lt hp') e1) e2' e3 e4
  · intro c o p e1 e2 c' e3; exact h.old c o p (key _ _ (lt e2) e1) e2 c' e3

noncomputable def dels (l : List Nat) : Heap → Heap := List.rec (fun H => H) (fun b _ ih H => ih (set5 b none H)) l

theorem dels_cons (b : Nat) (l : List Nat) (H : Heap) : dels (b :: l) H = dels l (set5 b none H) := rfl

theorem Rel.forgets {σ : Sg} {nx : Nat} {w : World} : ∀ (l : List Nat) (H : Heap), (∀ b, b ∈ l → b < 1048576) → Rel σ H nx w → Rel σ (Ev.dels l H) nx w
  | [], _, _, h => h
  | b :: l, H, hl, h => by
    rw [dels_cons]
    exact Rel.forgets l _ (fun c hc => hl c (List.mem_cons_of_mem _ hc)) (h.forget (hl b (List.mem_cons_self ..)))

theorem get5_dels : ∀ (l : List Nat) (H : Heap) (c : Nat), (∀ b, b ∈ l → b < 1048576) → c < 1048576 → get5 c (dels l H) = if c ∈ l then none else get5 c H
  | [], H, c, _, _ => by rw [if_neg (by simp)]; rfl
  | b :: l, H, c, hl, hc => by
    rw [dels_cons, get5_dels l _ c (fun x hx => hl x (List.mem_cons_of_mem _ hx)) hc]
    by_cases h1 : c ∈ l
    · rw [if_pos h1, if_pos (List.mem_cons_of_mem _ h1)]
    · rw [if_neg h1]
      by_cases h2 : b = c
      · subst h2; rw [get5_set5_same, if_pos (List.mem_cons_self ..)]
      · rw [get5_ne h2 (hl b (List.mem_cons_self ..)) hc, if_neg (by simp [h1]; exact fun e => h2 e.symm)]

def upd (σ : Sg) (b : Nat) (p : Nat × Nat) : Sg := fun c => if c = b then some p else σ c

theorem upd_sub {σ : Sg} {b : Nat} {p : Nat × Nat} (hb : σ b = none) : ∀ c q, σ c = some q → upd σ b p c = some q := by
  intro c q hc
  unfold upd
  rw [if_neg (fun e => by subst e; rw [hb] at hc; cases hc)]
  exact hc

theorem upd_inv {σ : Sg} {b c : Nat} {p q : Nat × Nat} (h : upd σ b p c = some q) : (c = b ∧ q = p) ∨ (c ≠ b ∧ σ c = some q) := by
  unfold upd at h
  by_cases e : c = b
  · rw [if_pos e] at h; exact .inl ⟨e, (Option.some.inj h).symm⟩
  · rw [if_neg e] at h; exact .inr ⟨e, h⟩

/-- The world has a new block for a number that lies in the state already. -/
theorem Rel.alloc_at {σ : Sg} {H : Heap} {nx b n sz : Nat} {w : World} {ct : CT} {c : Array Value} {t : TypeId} {fz : Nat × Nat} (h : Rel σ H nx w) (hb : σ b = none) (hlt : b < nx)
    (ho : get5 b H = some (.cells n ct [] false)) (hn : n ≤ ct.cap) (hsz : sz = c.size) (hnc : n ≤ sz) (hfz : ∀ i, i < sz → ¬ (fz.1 ≤ i ∧ i < fz.2))
    (hd : ∀ i, i < n → ∃ v', c[i]? = some v' ∧ Den σ (ct.get i) v') :
    Rel (upd σ b (w.heap.size, sz)) H nx (w.alloc (.cells c t fz)) := by
  have sub := upd_sub (p := (w.heap.size, sz)) hb
  have blk : ∀ i, i < w.heap.size → (w.alloc (.cells c t fz)).heap[i]? = w.heap[i]? := by
    intro i hi
    show (w.heap.push _)[i]? = _
    rw [Array.getElem?_push, if_neg (by omega)]
  have newb : (w.alloc (.cells c t fz)).heap[w.heap.size]? = some (.cells c t fz) := by
    show (w.heap.push _)[w.heap.size]? = _
    simp
  have newc : ∀ i, (w.alloc (.cells c t fz)).cell? (at' w.heap.size i) = c[i]? := by
    intro i
    unfold World.cell?
    rw [newb]
    rfl
  have hglob : Glob (upd σ b (w.heap.size, sz)) (w.alloc (.cells c t fz)) := by
    refine h.glob.of (by simp) (fun i hi _ => blk i hi) fun x cb s e hlt => ?_
    rcases upd_inv e with ⟨rfl, q⟩ | ⟨_, q⟩
    · cases q; omega
    · exact ⟨x, s, q⟩
  refine ⟨h.lim, ?_, ?_, ?_, ?_, ?_, hglob⟩
  · intro x cb s e
    rcases upd_inv e with ⟨rfl, q⟩ | ⟨_, q⟩
    · cases q; exact ⟨hlt, by simp⟩
    · have := h.dom x cb s q
      exact ⟨this.1, by simp; omega⟩
  · intro x o cb s e1 e2
    rcases upd_inv e2 with ⟨rfl, e⟩ | ⟨_, e⟩
    · cases e
      rw [ho] at e1
      cases e1
      refine ⟨hnc, hn, ?_, ?_⟩
      · intro i hi
        refine ⟨?_, ?_⟩
        · have := hfz i hi
          simp only [World.frozen?, newb]
          simp
          intro h1
          have : ¬ (fz.1 ≤ i ∧ i < fz.2) := this
          omega
        · refine ⟨c[i]'(by omega), ?_⟩
          rw [newc, Array.getElem?_eq_getElem]
      · intro i hi
        obtain ⟨v', e, d⟩ := hd i hi
        exact ⟨v', by rw [newc, e], d.mono sub⟩
    · have hlt' := (h.dom x cb s e).2
      exact (ORel.mono sub (h.obj x o cb s e1 e)).of_block (blk cb hlt')
  · intro x x' o o' cb s s' e1 e2 e3 e4
    rcases upd_inv e3 with ⟨rfl, e⟩ | ⟨_, e⟩
    · cases e
      rcases upd_inv e4 with ⟨rfl, _⟩ | ⟨_, e'⟩
      · exact .inl rfl
      · have := (h.dom x' _ s' e').2; omega
    · rcases upd_inv e4 with ⟨rfl, e'⟩ | ⟨_, e'⟩
      · cases e'; have := (h.dom x _ s e).2; omega
      · exact h.sep x x' o o' cb s s' e1 e2 e e'
  · intro x x' o o' p e1 e2 e3 e4
    rcases upd_inv e3 with ⟨rfl, e⟩ | ⟨_, e⟩
    · rw [ho] at e2; cases e2; simp [AObj.olds] at e4
    · exact h.sup x x' o o' p e1 e2 e e4
  · intro x o p e1 e2 x' e3
    rcases upd_inv e2 with ⟨rfl, e⟩ | ⟨_, e⟩
    · rw [ho] at e1; cases e1; simp [AObj.olds] at e3
    · obtain ⟨p', hp'⟩ := h.old x o p e1 e x' e3
      exact ⟨p', sub _ _ hp'⟩

theorem Ext.alloc_at {σ : Sg} {H : Heap} {nx b sz : Nat} {w : World} (o : Obj) (_h : Rel σ H nx w) (hb : σ b = none) :
    (∀ c, c ≠ b → c < nx → σ c = none → upd σ b (w.heap.size, sz) c = none) ∧
    (∀ c p, σ c = some p → upd σ b (w.heap.size, sz) c = some p) ∧
    (∀ c cb s, upd σ b (w.heap.size, sz) c = some (cb, s) → cb < w.heap.size → ∃ b' sz', σ b' = some (cb, sz')) ∧
    (∀ i, i < w.heap.size → (w.alloc o).heap[i]? = w.heap[i]?) := by
  refine ⟨?_, upd_sub hb, ?_, ?_⟩
  · intro c hc _ hn
    unfold upd; rw [if_neg hc]; exact hn
  · intro c cb s e hlt
    rcases upd_inv e with ⟨rfl, q⟩ | ⟨_, q⟩
    · cases q; omega
    · exact ⟨c, s, q⟩
  · intro i hi
    show (w.heap.push _)[i]? = _
    rw [Array.getElem?_push, if_neg (by omega)]

/-- A new block at the next number. -/
theorem Rel.alloc {σ : Sg} {H : Heap} {nx n sz : Nat} {w : World} {ct : CT} {c : Array Value} {t : TypeId} {fz : Nat × Nat} (h : Rel σ H nx w) (hx : nx < 1048576)
    (hn : n ≤ ct.cap) (hsz : sz = c.size) (hnc : n ≤ sz) (hfz : ∀ i, i < sz → ¬ (fz.1 ≤ i ∧ i < fz.2)) (hd : ∀ i, i < n → ∃ v', c[i]? = some v' ∧ Den σ (ct.get i) v') :
    Rel (upd σ nx (w.heap.size, sz)) (set5 nx (some (.cells n ct [] false)) H) (nx + 1) (w.alloc (.cells c t fz)) ∧
    Ext σ (upd σ nx (w.heap.size, sz)) H (set5 nx (some (.cells n ct [] false)) H) nx (nx + 1) w (w.alloc (.cells c t fz)) := by
  have hb : σ nx = none := by
    cases e : σ nx with
    | none => rfl
    | some p => obtain ⟨cb, s⟩ := p; have := (h.dom nx cb s e).1; omega
  have h1 : Rel σ (set5 nx (some (.cells n ct [] false)) H) (nx + 1) w := h.pend hb (by omega) (by omega) hx
  obtain ⟨e1, e2, e3, e4⟩ := Ext.alloc_at (sz := sz) (.cells c t fz) h hb
  refine ⟨h1.alloc_at hb (by omega) (get5_set5_same _ _ _) hn hsz hnc hfz hd, ⟨e2, e3, ?_, by omega, rfl, rfl, rfl, by simp, fun i hi _ => e4 i hi⟩⟩
  intro c hc hn
  exact ⟨e1 c (by omega) hc hn, get5_ne (by omega) hx (by omega)⟩

/-! ### Cells written one behind the other -/

def setCells (w : World) (cb : Nat) : Nat → List Value → World
  | _, [] => w
  | i, v :: l => setCells (w.setCell (at' cb i) v) cb (i + 1) l

theorem setCells_block : ∀ (l : List Value) (w : World) (cb i k : Nat), k ≠ cb → (setCells w cb i l).heap[k]? = w.heap[k]?
  | [], _, _, _, _, _ => rfl
  | v :: l, w, cb, i, k, h => by
    show (setCells (w.setCell (at' cb i) v) cb (i + 1) l).heap[k]? = _
    rw [setCells_block l _ cb (i + 1) k h]
    simp only [World.setCell, Array.getElem?_modify]
    rw [if_neg (fun e => h e.symm)]

theorem setCells_rest : ∀ (l : List Value) (w : World) (cb i : Nat), (setCells w cb i l).os = w.os ∧ (setCells w cb i l).tape = w.tape ∧ (setCells w cb i l).output = w.output ∧ (setCells w cb i l).heap.size = w.heap.size
  | [], _, _, _ => ⟨rfl, rfl, rfl, rfl⟩
  | v :: l, w, cb, i => by
    obtain ⟨h1, h2, h3, h4⟩ := setCells_rest l (w.setCell (at' cb i) v) cb (i + 1)
    exact ⟨h1, h2, h3, h4.trans (by simp)⟩

theorem setCells_frozen : ∀ (l : List Value) (w : World) (cb i : Nat) (a : Addr), (setCells w cb i l).frozen? a = w.frozen? a
  | [], _, _, _, _ => rfl
  | v :: l, w, cb, i, a => by
    show (setCells (w.setCell (at' cb i) v) cb (i + 1) l).frozen? a = _
    rw [setCells_frozen l, World.frozen?_setCell]

theorem setCells_cell : ∀ (l : List Value) (w : World) (cb i j : Nat), (∀ k, i ≤ k → k < i + l.length → ∃ v, w.cell? (at' cb k) = some v) →
    (setCells w cb i l).cell? (at' cb j) = if i ≤ j ∧ j < i + l.length then l[j - i]? else w.cell? (at' cb j)
  | [], w, cb, i, j, _ => by
    have : ¬ (i ≤ j ∧ j < i + ([] : List Value).length) := by simp
    rw [if_neg this]; rfl
  | v :: l, w, cb, i, j, h => by
    show (setCells (w.setCell (at' cb i) v) cb (i + 1) l).cell? (at' cb j) = _
    obtain ⟨u, hu⟩ := h i (Nat.le_refl _) (by simp)
    have same : (w.setCell (at' cb i) v).cell? (at' cb i) = some v := World.cell?_setCell_same (w := w) (a := at' cb i) (v := v) (u := u) hu
    have other : ∀ k, k ≠ i → (w.setCell (at' cb i) v).cell? (at' cb k) = w.cell? (at' cb k) := fun k hk =>
      World.cell?_setCell_other (w := w) (a := at' cb i) (b := at' cb k) (v := v) (fun e => hk (by cases e; rfl))
    rw [setCells_cell l _ cb (i + 1) j]
    · by_cases h1 : j = i
      · subst h1
        rw [if_neg (by omega), same, if_pos (by simp)]
        simp
      · rw [other j h1]
        by_cases h2 : i + 1 ≤ j ∧ j < i + 1 + l.length
        · rw [if_pos h2, if_pos (by simp; omega)]
          have e : j - i = (j - (i + 1)) + 1 := by omega
          rw [e]; simp
        · rw [if_neg h2, if_neg (by simp; omega)]
    · intro k hk1 hk2
      rw [other k (by omega)]
      exact h k (by omega) (by simp; omega)

theorem addr_add (cb i n : Nat) : Addr.add (at' cb i) n = at' cb (i + n) := by
  unfold Addr.add
  split
  · rename_i h; subst h; rfl
  · rfl

theorem run_storeCells {P : Program} : ∀ (l : List Value) (w : World) (cb off i : Nat), (∀ v, v ∈ l → v.oneCell' = true) →
    (∀ k, off + i ≤ k → k < off + i + l.length → w.frozen? (at' cb k) = false ∧ ∃ v, w.cell? (at' cb k) = some v) →
    (storeCells (at' cb off) l i).run P w = .ok () (setCells w cb (off + i) l)
  | [], w, cb, off, i, _, _ => rfl
  | v :: l, w, cb, off, i, h1, h2 => by
    obtain ⟨hf, u, hu⟩ := h2 (off + i) (Nat.le_refl _) (by simp)
    have hs : (store (Addr.add (at' cb off) i) v).run P w = .ok () (w.setCell (at' cb (off + i)) v) := by
      rw [run_store P w _ v .plain (h1 v (List.mem_cons_self ..)), addr_add, hu]
      simp [hf]
    have ih := run_storeCells (P := P) l (w.setCell (at' cb (off + i)) v) cb off (i + 1) (fun x hx => h1 x (List.mem_cons_of_mem _ hx)) (by
      intro k hk1 hk2
      have := h2 k (by omega) (by simp; omega)
      rw [World.frozen?_setCell, World.cell?_setCell_other]
      · exact this
      · intro e; have := congrArg Addr.off e; simp at this; omega)
    simp only [storeCells, Sem.run_bind, hs, Result.andThen_ok, ih]
    rfl

/-- Values are stored into a block that nobody else sees; the elder versions of it are forgotten. -/
theorem Rel.store {σ : Sg} {H : Heap} {nx b n off cb sz : Nat} {w : World} {ct : CT} {olds : List Nat} {l : List AVal} {l' : List Value} (h : Rel σ H nx w)
    (hb : σ b = some (cb, sz)) (ho : get5 b H = some (.cells n ct olds false)) (hoff : off + l.length ≤ n) (hd : DenL σ l l') :
    Rel σ (set5 b (some (.cells n (CT.lay l off ct) [] false)) (dels olds H)) nx (setCells w cb off l') ∧
    Ext σ σ H (set5 b (some (.cells n (CT.lay l off ct) [] false)) (dels olds H)) nx nx w (setCells w cb off l') := by
  have hlim := h.lim
  have lt : ∀ {c p}, σ c = some p → c < 1048576 := fun {c p} hc => by obtain ⟨cb, sz⟩ := p; have := (h.dom c cb sz hc).1; omega
  have hold : ∀ c, c ∈ olds → ∃ p', σ c = some p' := fun c hc => h.old b _ _ ho hb c hc
  have holt : ∀ c, c ∈ olds → c < 1048576 := fun c hc => let ⟨_, e⟩ := hold c hc; lt e
  obtain ⟨r1, r2, r3, r4⟩ := setCells_rest l' w cb off
  obtain ⟨o1, o2, o3, o4⟩ := h.obj b _ cb sz ho hb
  have hlen : l.length = l'.length := hd.length
  have bn : b < 1048576 := lt hb
  -- what is left in the heap, but for b
  have key : ∀ c o, c ≠ b → c < 1048576 → get5 c (set5 b (some (.cells n (CT.lay l off ct) [] false)) (dels olds H)) = some o → get5 c H = some o ∧ c ∉ olds := by
    intro c o hcb hc e
    rw [get5_ne (fun e => hcb e.symm) bn hc, get5_dels olds H c holt hc] at e
    by_cases hm : c ∈ olds
    · rw [if_pos hm] at e; cases e
    · rw [if_neg hm] at e; exact ⟨e, hm⟩
  have keyb : get5 b (set5 b (some (.cells n (CT.lay l off ct) [] false)) (dels olds H)) = some (.cells n (CT.lay l off ct) [] false) := get5_set5_same _ _ _
  -- nobody else lies at cb
  have alone : ∀ c o s, c ≠ b → c ∉ olds → get5 c H = some o → σ c = some (cb, s) → False := by
    intro c o s hcb hno hc hs
    rcases h.sep c b o _ cb s sz hc ho hs hb with e | e | e
    · exact hcb e
    · exact hno e
    · have := h.sup b c _ o _ ho hc hs e
      simp [AObj.sup] at this
  have hglob : Glob σ (setCells w cb off l') := by
    refine h.glob.of (Nat.le_of_eq r4.symm) (fun i hi hno => setCells_block l' w cb off i (fun e => by subst e; exact hno b sz hb)) fun x cb s e _ => ⟨x, s, e⟩
  refine ⟨⟨hlim, ?_, ?_, ?_, ?_, ?_, hglob⟩, ⟨fun _ _ e => e, fun c _ s e _ => ⟨c, s, e⟩, ?_, Nat.le_refl _, r1, r2, r3, Nat.le_of_eq r4.symm, ?_⟩⟩
  · intro c x s e; have := h.dom c x s e; rw [r4]; exact this
  · intro c o x s e1 e2
    by_cases hcb : c = b
    · subst hcb
      rw [hb] at e2
      cases e2
      rw [keyb] at e1
      cases e1
      have cells : ∀ k, off ≤ k → k < off + l'.length → ∃ v, w.cell? (at' cb k) = some v := fun k hk1 hk2 => (o3 k (by omega)).2
      refine ⟨o1, by rw [CT.lay_cap]; exact o2, ?_, ?_⟩
      · intro i hi
        rw [setCells_frozen, setCells_cell l' w cb off i cells]
        refine ⟨(o3 i hi).1, ?_⟩
        by_cases hin : off ≤ i ∧ i < off + l'.length
        · rw [if_pos hin]; exact ⟨l'[i - off]'(by omega), by simp [List.getElem?_eq_getElem (show i - off < l'.length by omega)]⟩
        · rw [if_neg hin]; exact (o3 i hi).2
      · intro i hi
        rw [setCells_cell l' w cb off i cells, CT.lay_get l off ct i (by omega) (by omega)]
        by_cases hin : off ≤ i ∧ i < off + l.length
        · rw [if_pos hin, if_pos (by omega)]
          have hlt : i - off < l.length := by omega
          obtain ⟨v', e, d⟩ := hd.get (i - off) (l[i - off]) (by simp [List.getElem?_eq_getElem hlt])
          refine ⟨v', e, ?_⟩
          simpa [List.getD, List.getElem?_eq_getElem hlt] using d
        · rw [if_neg hin, if_neg (by omega)]; exact o4 i hi
    · obtain ⟨e1', hno⟩ := key c o hcb (lt e2) e1
      refine (h.obj c o x s e1' e2).of_block (setCells_block l' w cb off x ?_)
      intro e
      subst e
      exact alone c o s hcb hno e1' e2
  · intro c c' o o' x s s' e1 e2 e3 e4
    by_cases h1 : c = b
    · subst h1
      by_cases h2 : c' = c
      · exact .inl h2.symm
      · obtain ⟨e2', hno⟩ := key c' o' h2 (lt e4) e2
        rw [hb] at e3
        cases e3
        exact (alone c' o' s' h2 hno e2' e4).elim
    · obtain ⟨e1', hno⟩ := key c o h1 (lt e3) e1
      by_cases h2 : c' = b
      · subst h2
        rw [hb] at e4
        cases e4
        exact (alone c o s h1 hno e1' e3).elim
      · obtain ⟨e2', hno'⟩ := key c' o' h2 (lt e4) e2
        exact h.sep c c' o o' x s s' e1' e2' e3 e4
  · intro c c' o o' p e1 e2 e3 e4
    by_cases h2 : c' = b
    · subst h2
      rw [keyb] at e2; cases e2; simp [AObj.olds] at e4
    · obtain ⟨e2', hno'⟩ := key c' o' h2 (lt e3) e2
      obtain ⟨p', hp'⟩ := h.old c' o' p e2' e3 c e4
      by_cases h1 : c = b
      · subst h1
        have := h.sup c c' _ o' p ho e2' e3 e4
        simp [AObj.sup] at this
      · obtain ⟨e1', hno⟩ := key c o h1 (lt hp') e1
        exact h.sup c c' o o' p e1' e2' e3 e4
  · intro c o p e1 e2 c' e3
    by_cases h1 : c = b
    · subst h1
      rw [keyb] at e1; cases e1; simp [AObj.olds] at e3
    · obtain ⟨e1', _⟩ := key c o h1 (lt e2) e1
      exact h.old c o p e1' e2 c' e3
  · intro c hc hn
    refine ⟨hn, ?_⟩
    have hcb : b ≠ c := fun e => by subst e; rw [hb] at hn; cases hn
    have hno : c ∉ olds := fun hm => by obtain ⟨_, e⟩ := hold c hm; rw [hn] at e; cases e
    rw [get5_ne hcb bn (by omega), get5_dels olds H c holt (by omega), if_neg hno]
  · intro i hi hno
    exact setCells_block l' w cb off i (fun e => by subst e; exact hno b sz hb)

end Go.Ev
