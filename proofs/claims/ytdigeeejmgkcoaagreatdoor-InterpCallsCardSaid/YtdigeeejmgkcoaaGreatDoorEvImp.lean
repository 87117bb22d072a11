/-
  Own work. A call that was run once from nothing is known from then on, the new blocks that its result names too.
-/
import Derived.Test.YtdigeeejmgkcoaaGreatDoorEvOrc
namespace Go.Ev
variable [GTab]
set_option linter.unusedSectionVars false

/-- The blocks of a value named anew. -/
noncomputable def mapB (f : Nat → Nat) (v : AVal) : AVal :=
  AVal.rec (motive_1 := fun _ => AVal) (motive_2 := fun _ => List AVal) .und (fun b => .bool b) (fun k n => .int k n) (fun n x => .str n x) (fun b off => .ptr (f b) off) .nilPtr
    (fun b off len esz full => .slice (f b) off len esz full) .nilSlice (fun b => .map (f b)) .nilMap (fun fn _ _ a b => .func fn a b) .nilFunc (fun t _ v => .iface t v) .nilIface (fun _ l => .agg l) (fun _ l => .tuple l)
    (fun k m i => .anyInt k m i) .anyBool (fun g off => .gptr g off) (fun i => .anyStr i) [] (fun _ _ v l => v :: l) v

noncomputable def mapBL (f : Nat → Nat) (l : List AVal) : List AVal := List.rec (motive := fun _ => List AVal) [] (fun v _ ih => mapB f v :: ih) l

theorem mapB_func (f : Nat → Nat) (fn : Fn) (a b : List AVal) : mapB f (.func fn a b) = .func fn (mapBL f a) (mapBL f b) := by
  have h : ∀ l : List AVal, AVal.rec_1 (motive_1 := fun _ => AVal) (motive_2 := fun _ => List AVal) .und (fun b => .bool b) (fun k n => .int k n) (fun n x => .str n x) (fun b off => .ptr (f b) off) .nilPtr
    (fun b off len esz full => .slice (f b) off len esz full) .nilSlice (fun b => .map (f b)) .nilMap (fun fn _ _ a b => .func fn a b) .nilFunc (fun t _ v => .iface t v) .nilIface (fun _ l => .agg l) (fun _ l => .tuple l)
    (fun k m i => .anyInt k m i) .anyBool (fun g off => .gptr g off) (fun i => .anyStr i) [] (fun _ _ v l => v :: l) l = mapBL f l := by
    intro l
    induction l with
    | nil => rfl
    | cons v l ih => show mapB f v :: _ = mapB f v :: mapBL f l; rw [ih]
  show AVal.func fn _ _ = _
  rw [h, h]

theorem mapB_agg (f : Nat → Nat) (a : List AVal) : mapB f (.agg a) = .agg (mapBL f a) := by
  have h : ∀ l : List AVal, AVal.rec_1 (motive_1 := fun _ => AVal) (motive_2 := fun _ => List AVal) .und (fun b => .bool b) (fun k n => .int k n) (fun n x => .str n x) (fun b off => .ptr (f b) off) .nilPtr
    (fun b off len esz full => .slice (f b) off len esz full) .nilSlice (fun b => .map (f b)) .nilMap (fun fn _ _ a b => .func fn a b) .nilFunc (fun t _ v => .iface t v) .nilIface (fun _ l => .agg l) (fun _ l => .tuple l)
    (fun k m i => .anyInt k m i) .anyBool (fun g off => .gptr g off) (fun i => .anyStr i) [] (fun _ _ v l => v :: l) l = mapBL f l := by
    intro l
    induction l with
    | nil => rfl
    | cons v l ih => show mapB f v :: _ = mapB f v :: mapBL f l; rw [ih]
  show AVal.agg _ = _
  rw [h]

theorem mapB_tuple (f : Nat → Nat) (a : List AVal) : mapB f (.tuple a) = .tuple (mapBL f a) := by
  have h : ∀ l : List AVal, AVal.rec_1 (motive_1 := fun _ => AVal) (motive_2 := fun _ => List AVal) .und (fun b => .bool b) (fun k n => .int k n) (fun n x => .str n x) (fun b off => .ptr (f b) off) .nilPtr
    (fun b off len esz full => .slice (f b) off len esz full) .nilSlice (fun b => .map (f b)) .nilMap (fun fn _ _ a b => .func fn a b) .nilFunc (fun t _ v => .iface t v) .nilIface (fun _ l => .agg l) (fun _ l => .tuple l)
    (fun k m i => .anyInt k m i) .anyBool (fun g off => .gptr g off) (fun i => .anyStr i) [] (fun _ _ v l => v :: l) l = mapBL f l := by
    intro l
    induction l with
    | nil => rfl
    | cons v l ih => show mapB f v :: _ = mapB f v :: mapBL f l; rw [ih]
  show AVal.tuple _ = _
  rw [h]

section
variable {σ1 σ2 : Sg} {f g : Nat → Nat} (hs : ∀ b p, σ1 (f b) = some p → σ2 (g b) = some p)
include hs

mutual
theorem Den.mapB : ∀ (c : AVal) (v : Value), Den σ1 (Ev.mapB f c) v → Den σ2 (Ev.mapB g c) v
  | .und, _, _ => .und _
  | .bool b, _, h => by cases h with | bool => exact .bool b
  | .int k n, _, h => by cases h with | int => exact .int k n
  | .str n x, _, h => by cases h with | str _ _ hx => exact .str n x hx
  | .ptr b off, _, h => by cases h with | ptr hp => exact .ptr (hs _ _ hp)
  | .nilPtr, _, h => by cases h with | nilPtr => exact .nilPtr
  | .slice b off len esz full, _, h => by
    cases h with
    | slice hp h1 h2 h3 => exact .slice (hs _ _ hp) h1 h2 h3
    | slice0 hp => exact .slice0 (hs _ _ hp)
  | .nilSlice, _, h => by cases h with | nilSlice => exact .nilSlice
  | .map b, _, h => by cases h with | map hp => exact .map (hs _ _ hp)
  | .nilMap, _, h => by cases h with | nilMap => exact .nilMap
  | .func fn a b, _, h => by
    rw [mapB_func] at h ⊢
    cases h with
    | func h1 h2 => exact .func (DenL.mapB a _ h1) (DenL.mapB b _ h2)
  | .nilFunc, _, h => by cases h with | nilFunc => exact .nilFunc
  | .iface t v, _, h => by
    have h' : Den σ1 (.iface t (Ev.mapB f v)) _ := h
    show Den σ2 (.iface t (Ev.mapB g v)) _
    cases h' with
    | iface hv => exact .iface (Den.mapB v _ hv)
  | .nilIface, _, h => by cases h with | nilIface => exact .nilIface
  | .agg a, _, h => by
    rw [mapB_agg] at h ⊢
    cases h with
    | agg h1 => exact .agg (DenL.mapB a _ h1)
  | .tuple a, _, h => by
    rw [mapB_tuple] at h ⊢
    cases h with
    | tuple h1 => exact .tuple (DenL.mapB a _ h1)
  | .anyInt k m i, _, h => by cases h with | anyInt _ _ _ n hn => exact .anyInt k m i n hn
  | .anyBool, _, h => by cases h with | anyBool b => exact .anyBool b
  | .gptr q off, _, h => by cases h with | gptr => exact .gptr q off
  | .anyStr i, _, h => by cases h with | anyStr => exact .anyStr i
theorem DenL.mapB : ∀ (c : List AVal) (v : List Value), DenL σ1 (mapBL f c) v → DenL σ2 (mapBL g c) v
  | [], _, h => by cases h with | nil => exact .nil
  | c :: l, _, h => by
    have h' : DenL σ1 (Ev.mapB f c :: mapBL f l) _ := h
    show DenL σ2 (Ev.mapB g c :: mapBL g l) _
    cases h' with
    | cons h1 h2 => exact .cons (Den.mapB c _ h1) (DenL.mapB l _ h2)
end
end

theorem mapBL_length (f : Nat → Nat) : ∀ l : List AVal, (mapBL f l).length = l.length
  | [] => rfl
  | v :: l => by show (Ev.mapB f v :: mapBL f l).length = _; simp [mapBL_length f l]

theorem mapBL_get (f : Nat → Nat) : ∀ (l : List AVal) (i : Nat), (mapBL f l)[i]? = (l[i]?).map (Ev.mapB f)
  | [], i => by simp [mapBL]
  | v :: l, 0 => by show (Ev.mapB f v :: mapBL f l)[0]? = _; simp
  | v :: l, i + 1 => by show (Ev.mapB f v :: mapBL f l)[i + 1]? = _; simp [mapBL_get f l i]

/-- New blocks, one behind the other. -/
noncomputable def layO (nx : Nat) (objs : List (List AVal)) : Nat → Heap → Heap :=
  List.rec (motive := fun _ => Nat → Heap → Heap) (fun _ H => H) (fun c _ ih b H => forceN b fun b => ih (Nat.succ b) (hset b (some (.cells c.length (CT.ofL c.length (mapBL (Nat.add nx) c)) [] false)) H)) objs

theorem layO_cons (nx : Nat) (c : List AVal) (objs : List (List AVal)) (b : Nat) (H : Heap) :
    layO nx (c :: objs) b H = layO nx objs (b + 1) (set5 b (some (.cells c.length (CT.ofL c.length (mapBL (Nat.add nx) c)) [] false)) H) := by
  have e : layO nx (c :: objs) b H = forceN b fun b => layO nx objs (Nat.succ b) (hset b (some (.cells c.length (CT.ofL c.length (mapBL (Nat.add nx) c)) [] false)) H) := rfl
  rw [e, forceN_eq, hset_eq]

theorem layO_get (nx : Nat) : ∀ (objs : List (List AVal)) (b : Nat) (H : Heap) (x : Nat), b + objs.length ≤ 1048576 → x < 1048576 →
    get5 x (layO nx objs b H) = if b ≤ x ∧ x < b + objs.length then (objs[x - b]?).map (fun c => .cells c.length (CT.ofL c.length (mapBL (Nat.add nx) c)) [] false) else get5 x H
  | [], b, H, x, _, _ => by
    rw [if_neg (by simp)]; rfl
  | c :: objs, b, H, x, hb, hx => by
    simp only [List.length_cons] at hb
    rw [layO_cons, layO_get nx objs (b + 1) _ x (by omega) hx]
    by_cases h1 : b = x
    · subst h1
      rw [if_neg (by omega), get5_set5_same, if_pos (by simp)]
      simp
    · by_cases h2 : b + 1 ≤ x ∧ x < b + 1 + objs.length
      · rw [if_pos h2, if_pos (by simp; omega)]
        have e : x - b = (x - (b + 1)) + 1 := by omega
        rw [e]; simp
      · rw [if_neg h2, get5_ne h1 (by omega) hx, if_neg (by simp; omega)]

/-- The number that a block had in the run. -/
noncomputable def rnF (rn : List Nat) (b : Nat) : Nat := List.rec (motive := fun _ => Nat → Nat) (fun _ => 1048576) (fun r _ ih b => Nat.rec (motive := fun _ => Nat) r (fun b _ => ih b) b) rn b

theorem rnF_eq : ∀ (rn : List Nat) (b : Nat), rnF rn b = rn.getD b 1048576
  | [], b => by simp [rnF]
  | r :: rn, 0 => rfl
  | r :: rn, b + 1 => by show rnF rn b = _; rw [rnF_eq rn b]; simp

noncomputable def sameCells (rn : List Nat) (o : Option AObj) (c : List AVal) : Bool :=
  match o with
  | some (.cells n ct olds _) => match Nat.beq n c.length, allL (fun b => bnot (memN b rn)) olds with
    | true, true => beqL 9 (mapBL (rnF rn) c) (CT.slab ct n 0)
    | _, _ => false
  | _ => false

noncomputable def sameObjs (rn : List Nat) (H : Heap) : List Nat → List (List AVal) → Bool
  | [], [] => true
  | r :: rs, c :: cs => match sameCells rn (hget r H) c with
    | true => sameObjs rn H rs cs
    | false => false
  | _, _ => false

noncomputable def nodupN : List Nat → Bool
  | [] => true
  | r :: rs => match memN r rs with
    | true => false
    | false => nodupN rs

noncomputable def allShort (objs : List (List AVal)) : Bool := allL (fun c => Nat.ble c.length 4096) objs

noncomputable def isI (rn : List Nat) (p : AVal) (objs : List (List AVal)) (e : AEnd) (H : Heap) : Bool :=
  match e with
  | .ret v => match beqA 9 (Ev.mapB (rnF rn) p) v with
    | true => sameObjs rn H rn objs
    | false => false
  | .pan _ => false

/-- A call from nothing, that comes to this value over these blocks. -/
noncomputable def runI (P : Program) (W : Wr) (g : FuncId) (n : Nat) (args : List AVal) (rn : List Nat) (p : AVal) (objs : List (List AVal)) : Bool :=
  (fCallsW P W n).1 g args (all5 none) 0 fun e H _ => isI rn p objs e H

/-- The call, known. -/
noncomputable def impK (p : AVal) (objs : List (List AVal)) (H : Heap) (nx : Nat) (K : KEnd) : Bool :=
  forceN nx fun nx => Bool.rec false (K (.ret (Ev.mapB (Nat.add nx) p)) (layO nx objs nx H) (Nat.add nx objs.length)) (Nat.ble (Nat.add nx objs.length) 1048576)

noncomputable def impW (g : FuncId) (args0 : List AVal) (p : AVal) (objs : List (List AVal)) (W : Wr) : Wr := fun c f args H nx K =>
  Bool.rec (W c f args H nx K) (Bool.rec (W c f args H nx K) (impK p objs H nx K) (beqL 9 args0 args)) (Nat.beq f g)

theorem memN_iff (i : Nat) : ∀ l : List Nat, memN i l = true ↔ i ∈ l
  | [] => by simp [memN]
  | j :: l => by
    have e : memN i (j :: l) = (Bool.rec (memN i l) true (Nat.beq j i) : Bool) := rfl
    rw [e]
    cases h : Nat.beq j i with
    | true => have := Nat.eq_of_beq_eq_true h; simp [this]
    | false =>
      have hne : i ≠ j := fun he => by subst he; rw [Nat.beq_refl] at h; cases h
      show memN i l = true ↔ _
      rw [memN_iff i l]; simp [hne]

theorem nodupN_ok : ∀ {l : List Nat}, nodupN l = true → ∀ (i j a : Nat), l[i]? = some a → l[j]? = some a → i = j
  | [], _, i, j, a, h, _ => by simp at h
  | r :: rs, h, i, j, a, hi, hj => by
    unfold nodupN at h
    split at h <;> first | (cases h; done) | skip
    rename_i hm
    have hnm : r ∉ rs := fun hh => by rw [(memN_iff r rs).2 hh] at hm; cases hm
    cases i with
    | zero =>
      cases j with
      | zero => rfl
      | succ j => simp at hi hj; subst hi; exact (hnm (List.mem_of_getElem? hj)).elim
    | succ i =>
      cases j with
      | zero => simp at hi hj; subst hj; exact (hnm (List.mem_of_getElem? hi)).elim
      | succ j => simp at hi hj; rw [nodupN_ok h i j a hi hj]

theorem sameObjs_ok {rn : List Nat} {H : Heap} : ∀ {rs : List Nat} {cs : List (List AVal)}, sameObjs rn H rs cs = true → rs.length = cs.length ∧ ∀ (i r : Nat) (c : List AVal), rs[i]? = some r → cs[i]? = some c → sameCells rn (get5 r H) c = true
  | [], [], _ => ⟨rfl, fun i r c h _ => by simp at h⟩
  | [], _ :: _, h => by cases h
  | _ :: _, [], h => by cases h
  | r :: rs, c :: cs, h => by
    unfold sameObjs at h
    split at h <;> first | (cases h; done) | skip
    rename_i hc
    rw [hget_eq] at hc
    obtain ⟨h1, h2⟩ := sameObjs_ok h
    refine ⟨by simp [h1], fun i r' c' e1 e2 => ?_⟩
    cases i with
    | zero => simp at e1 e2; subst e1; subst e2; exact hc
    | succ i => simp at e1 e2; exact h2 i r' c' e1 e2

theorem impW_ok {P : Program} {W : Wr} {g : FuncId} {n : Nat} {args0 : List AVal} {rn : List Nat} {p : AVal} {objs : List (List AVal)} (hm : P.follows .mixedOrders = true) (hW : WrOK P W) (hb : noBlkL args0 = true)
    (hnd : nodupN rn = true) (hsh : allShort objs = true) (h : runI P W g n args0 rn p objs = true) : WrOK P (impW g args0 p objs W) := by
  intro c hc f args H nx K hk
  unfold impW at hk
  cases hf : Nat.beq f g with
  | false => rw [hf] at hk; exact hW c hc f args H nx K hk
  | true =>
    rw [hf] at hk
    cases he : beqL 9 args0 args with
    | false => rw [he] at hk; exact hW c hc f args H nx K hk
    | true =>
      rw [he] at hk
      have hk' : impK p objs H nx K = true := hk
      have e1 := Nat.eq_of_beq_eq_true hf
      have e2 := beqL_ok (beqA_ok 9) _ _ he
      subst e1
      subst e2
      unfold impK at hk'
      rw [forceN_eq] at hk'
      obtain ⟨hlim0, hK⟩ := brec_ok hk'
      have hlim : nx + objs.length ≤ 1048576 := Nat.le_of_ble_eq_true hlim0
      intro σ w args' R hr hda hR
      have hda0 : DenL (fun _ => none) args0 args' := DenL.noBlk (fun a ha => allL_ok hb a ha) hda
      refine (fCallsW_ok hm hW n).1 f args0 (all5 none) 0 _ h (fun _ => none) w args' _ (Rel.nothing hr.glob.none) hda0 fun e H1 nx1 σ1 w1 en hi R1 E1 X1 => ?_
      cases e with
      | pan l => exact Bool.noConfusion hi
      | ret v =>
        have hi' : (match beqA 9 (Ev.mapB (rnF rn) p) v with | true => sameObjs rn H1 rn objs | false => false) = true := hi
        clear hi
        split at hi' <;> first | (exact Bool.noConfusion hi') | skip
        rename_i hv
        have hi := hi'
        have hv := beqA_ok _ _ _ hv
        obtain ⟨hlen, hobj⟩ := sameObjs_ok hi
        have kept : Kept w w1 := ⟨E1.os, E1.output, E1.size, fun i hi => E1.frame i hi fun b sz h => by cases h⟩
        have fresh : ∀ b cb sz, σ1 b = some (cb, sz) → w.heap.size ≤ cb := by
          intro b cb sz hs
          rcases Nat.lt_or_ge cb w.heap.size with hlt | hge
          · obtain ⟨b', sz', h'⟩ := E1.rng b cb sz hs hlt; cases h'
          · exact hge
        let σ2 : Sg := fun b => if b < nx then σ b else if b < nx + objs.length then σ1 (rnF rn (b - nx)) else none
        have s_lo : ∀ b, b < nx → σ2 b = σ b := fun b hb => by show (if _ then _ else _) = _; rw [if_pos hb]
        have s_hi : ∀ i, i < objs.length → σ2 (nx + i) = σ1 (rnF rn i) := fun i hi => by
          show (if _ then _ else _) = _
          rw [if_neg (by omega), if_pos (by omega)]
          congr 2
          omega
        have σdom : ∀ b p, σ b = some p → b < nx := fun b p hp => by obtain ⟨cb, sz⟩ := p; exact (hr.dom b cb sz hp).1
        have sub : ∀ b p, σ b = some p → σ2 b = some p := fun b p hp => by rw [s_lo b (σdom b p hp)]; exact hp
        have inv : ∀ b p, σ2 b = some p → (b < nx ∧ σ b = some p) ∨ (∃ i, i < objs.length ∧ b = nx + i ∧ σ1 (rnF rn i) = some p) := by
          intro b p hp
          by_cases h1 : b < nx
          · rw [s_lo b h1] at hp; exact .inl ⟨h1, hp⟩
          · have hp' : (if b < nx then σ b else if b < nx + objs.length then σ1 (rnF rn (b - nx)) else none) = some p := hp
            rw [if_neg h1] at hp'
            by_cases h2 : b < nx + objs.length
            · rw [if_pos h2] at hp'
              exact .inr ⟨b - nx, by omega, by omega, hp'⟩
            · rw [if_neg h2] at hp'; cases hp'
        have trans : ∀ b p, σ1 (rnF rn b) = some p → σ2 (Nat.add nx b) = some p := by
          intro b p hp
          have hb : b < objs.length := by
            rcases Nat.lt_or_ge b objs.length with hlt | hge
            · exact hlt
            · rw [rnF_eq] at hp
              have : rn.getD b 1048576 = 1048576 := by simp [List.getD, List.getElem?_eq_none (by omega : rn.length ≤ b)]
              rw [this] at hp
              obtain ⟨cb, sz⟩ := p
              have := (R1.dom _ cb sz hp).1
              have := R1.lim
              omega
          show σ2 (nx + b) = some p
          rw [s_hi b hb]; exact hp
        have rnget : ∀ i, i < objs.length → rn[i]? = some (rnF rn i) := fun i hi => by
          rw [rnF_eq]
          simp [List.getD, List.getElem?_eq_getElem (show i < rn.length by omega)]
        have lowget : ∀ b p, σ b = some p → get5 b (layO nx objs nx H) = get5 b H := fun b p hp => by
          have := σdom b p hp
          rw [layO_get nx objs nx H b hlim (by have := hr.lim; omega), if_neg (by omega)]
        have higet : ∀ i (hi : i < objs.length), get5 (nx + i) (layO nx objs nx H) = some (.cells (objs[i]).length (CT.ofL (objs[i]).length (mapBL (Nat.add nx) (objs[i]))) [] false) := fun i hi => by
          rw [layO_get nx objs nx H _ hlim (by omega), if_pos (by omega)]
          have : nx + i - nx = i := by omega
          rw [this, List.getElem?_eq_getElem hi]
          rfl
        have hcell : ∀ i (hi : i < objs.length), ∃ ct olds s, get5 (rnF rn i) H1 = some (.cells (objs[i]).length ct olds s) ∧ (∀ b, b ∈ olds → b ∉ rn) ∧ mapBL (rnF rn) (objs[i]) = CT.slab ct (objs[i]).length 0 := by
          intro i hi
          have hsc := hobj i _ _ (rnget i hi) (List.getElem?_eq_getElem hi)
          unfold sameCells at hsc
          split at hsc <;> first | (exact Bool.noConfusion hsc) | skip
          rename_i n' ct olds s hg
          split at hsc <;> first | (exact Bool.noConfusion hsc) | skip
          rename_i hn' hol
          have hn2 := Nat.eq_of_beq_eq_true hn'
          subst hn2
          refine ⟨ct, olds, s, hg, ?_, beqL_ok (beqA_ok 9) _ _ hsc⟩
          intro b hb hbr
          have := allL_ok hol b hb
          rw [(memN_iff b rn).2 hbr] at this
          cases this
        have R0 := hr.kept kept
        have glob2 : Glob σ2 w1 := by
          refine ⟨fun q l hq => ?_, fun q l hq => ?_⟩
          · obtain ⟨g1, g2, g3⟩ := R0.glob.var q l hq
            obtain ⟨_, k2, _⟩ := R1.glob.var q l hq
            refine ⟨g1, ?_, g3⟩
            intro b sz hb
            rcases inv b _ hb with ⟨_, h'⟩ | ⟨i, _, _, h'⟩
            · exact g2 b sz h'
            · exact k2 _ sz h'
          · obtain ⟨g1, g2, g3⟩ := R0.glob.blk q l hq
            obtain ⟨_, k2, _⟩ := R1.glob.blk q l hq
            refine ⟨g1, ?_, g3⟩
            intro b sz hb
            rcases inv b _ hb with ⟨_, h'⟩ | ⟨i, _, _, h'⟩
            · exact g2 b sz h'
            · exact k2 _ sz h'
        have rel2 : Rel σ2 (layO nx objs nx H) (nx + objs.length) w1 := by
          refine ⟨hlim, ?_, ?_, ?_, ?_, ?_, glob2⟩
          · intro b cb sz hb
            rcases inv b _ hb with ⟨h1, h'⟩ | ⟨i, h1, h2, h'⟩
            · exact ⟨by omega, (R0.dom b cb sz h').2⟩
            · exact ⟨by omega, (R1.dom _ cb sz h').2⟩
          · intro b o cb sz e3 hb
            rcases inv b _ hb with ⟨h1, h'⟩ | ⟨i, h1, h2, h'⟩
            · rw [lowget b _ h'] at e3
              exact (R0.obj b o cb sz e3 h').mono sub
            · subst h2
              rw [higet i h1] at e3
              cases e3
              obtain ⟨ct, olds, s, hg, _, hsl⟩ := hcell i h1
              obtain ⟨o1, o2, o3, o4⟩ := R1.obj _ _ cb sz hg h'
              have hle : (objs[i]).length ≤ 4096 := Nat.le_of_ble_eq_true (allL_ok hsh _ (List.getElem_mem h1))
              refine ⟨o1, CT.ofL_cap _ _ hle, o3, ?_⟩
              intro k hk2
              obtain ⟨v', hv', dv⟩ := o4 k hk2
              refine ⟨v', hv', ?_⟩
              rw [CT.get_ofL _ _ k hle hk2]
              have e5 : (mapBL (Nat.add nx) (objs[i])).getD k .und = Ev.mapB (Nat.add nx) ((objs[i])[k]) := by
                simp [List.getD, mapBL_get, List.getElem?_eq_getElem hk2]
              have e6 : CT.get k ct = Ev.mapB (rnF rn) ((objs[i])[k]) := by
                have q1 := CT.slab_get ct (objs[i]).length 0 k hk2
                rw [← hsl, mapBL_get, List.getElem?_eq_getElem hk2] at q1
                simp at q1
                exact q1.symm
              rw [e5]
              rw [e6] at dv
              exact Den.mapB trans _ _ dv
          · intro b b' o o' cb sz sz' e3 e4 hb hb'
            rcases inv b _ hb with ⟨h1, h'⟩ | ⟨i, h1, h2, h'⟩
            · rcases inv b' _ hb' with ⟨h3, h''⟩ | ⟨j, h3, h4, h''⟩
              · rw [lowget b _ h'] at e3; rw [lowget b' _ h''] at e4
                exact R0.sep b b' o o' cb sz sz' e3 e4 h' h''
              · have q1 := (hr.dom b cb sz h').2
                have q2 := fresh _ cb sz' h''
                omega
            · rcases inv b' _ hb' with ⟨h3, h''⟩ | ⟨j, h3, h4, h''⟩
              · have q1 := (hr.dom b' cb sz' h'').2
                have q2 := fresh _ cb sz h'
                omega
              · subst h2; subst h4
                obtain ⟨ct, olds, s, hg, hno, _⟩ := hcell i h1
                obtain ⟨ct', olds', s', hg', hno', _⟩ := hcell j h3
                rcases R1.sep _ _ _ _ cb sz sz' hg hg' h' h'' with q | q | q
                · left
                  have := nodupN_ok hnd i j (rnF rn i) (rnget i h1) (by rw [q]; exact rnget j h3)
                  omega
                · exact (hno' _ q (List.mem_of_getElem? (rnget i h1))).elim
                · exact (hno _ q (List.mem_of_getElem? (rnget j h3))).elim
          · intro b b' o o' q e3 e4 hb' hm'
            rcases inv b' _ hb' with ⟨h3, h''⟩ | ⟨j, h3, h4, h''⟩
            · rw [lowget b' _ h''] at e4
              obtain ⟨q', hq'⟩ := R0.old b' o' q e4 h'' b hm'
              rw [lowget b _ hq'] at e3
              exact R0.sup b b' o o' q e3 e4 h'' hm'
            · subst h4
              rw [higet j h3] at e4
              cases e4
              simp [AObj.olds] at hm'
          · intro b o q e3 hb b' hm'
            rcases inv b _ hb with ⟨h1, h'⟩ | ⟨i, h1, h2, h'⟩
            · rw [lowget b _ h'] at e3
              obtain ⟨q', hq'⟩ := R0.old b o q e3 h' b' hm'
              exact ⟨q', sub _ _ hq'⟩
            · subst h2
              rw [higet i h1] at e3
              cases e3
              simp [AObj.olds] at hm'
        have ext2 : Ext σ σ2 H (layO nx objs nx H) nx (nx + objs.length) w w1 := by
          refine ⟨sub, ?_, ?_, by omega, E1.os, E1.tape, E1.output, E1.size, fun i hi _ => kept.2.2.2 i hi⟩
          · intro b cb sz hb hlt
            rcases inv b _ hb with ⟨h1, h'⟩ | ⟨i, h1, h2, h'⟩
            · exact ⟨b, sz, h'⟩
            · have := fresh _ cb sz h'; omega
          · intro b hb hn
            refine ⟨by rw [s_lo b hb]; exact hn, ?_⟩
            rw [layO_get nx objs nx H b hlim (by have := hr.lim; omega), if_neg (by omega)]
        cases en with
        | returned v' =>
          have X1' : Den σ1 v v' := X1
          rw [← hv] at X1'
          exact hR (.ret (Ev.mapB (Nat.add nx) p)) _ _ σ2 w1 _ hK rel2 ext2 (Den.mapB trans _ _ X1')
        | panicked c => exact X1.elim
        | outgrown => exact X1.elim

/-- A call from nothing, that returns true. -/
noncomputable def runTW (P : Program) (W : Wr) (f : FuncId) (n : Nat) (args : List AVal) : Bool := (fCallsW P W n).1 f args (all5 none) 0 fun e _ _ => isT e

theorem runTW_ok {P : Program} {W : Wr} {f : FuncId} {n : Nat} {args : List AVal} (hm : P.follows .mixedOrders = true) (hW : WrOK P W) (h : runTW P W f n args = true) {w : World} (hg : Glob (fun _ => none) w) (args' : List Value) (hd : DenL (fun _ => none) args args') :
    Calls P f ⟨args'⟩ w fun e w' => e = .returned (.bool true) ∧ w'.tape = w.tape ∧ Kept w w' := by
  refine (fCallsW_ok hm hW n).1 f args (all5 none) 0 _ h (fun _ => none) w args' _ (Rel.nothing hg) hd fun e H' nx' σ' w' en hk R E he => ?_
  cases e with
  | pan l => exact Bool.noConfusion hk
  | ret v =>
    have hk' : vBool v true false = true := hk
    rcases vBool_ok hk' with ⟨rfl, _⟩ | ⟨_, hf⟩
    · cases en with
      | returned v' =>
        have he' : Den σ' (.bool true) v' := he
        cases he'
        exact ⟨rfl, E.tape, E.os, E.output, E.size, fun i hi => E.frame i hi fun b sz h => by cases h⟩
      | panicked c => exact he.elim
      | outgrown => exact he.elim
    · exact Bool.noConfusion hf

/-- A sentence that was run is known to be true from then on. -/
noncomputable def trueW (g : FuncId) (W : Wr) : Wr := fun c f args H nx K => Bool.rec (W c f args H nx K) (List.rec (motive := fun _ => Bool) (K (.ret (.bool true)) H nx) (fun _ _ _ => W c f args H nx K) args) (Nat.beq f g)

theorem trueW_ok {P : Program} {W : Wr} {g : FuncId} {n : Nat} (hm : P.follows .mixedOrders = true) (hW : WrOK P W) (h : runTW P W g n [] = true) : WrOK P (trueW g W) := by
  intro c hc f args H nx K hk
  unfold trueW at hk
  cases hf : Nat.beq f g with
  | false => rw [hf] at hk; exact hW c hc f args H nx K hk
  | true =>
    rw [hf] at hk
    cases args with
    | cons a as => exact hW c hc f (a :: as) H nx K hk
    | nil =>
      have := Nat.eq_of_beq_eq_true hf
      subst this
      intro σ w args' R hr hda hR
      cases hda
      refine (runTW_ok hm hW h hr.glob.none [] .nil).mono fun e w' ⟨h1, h2, h3⟩ => ?_
      subst h1
      exact hR (.ret (.bool true)) H nx σ w' _ hk (hr.kept h3) (Ext.kept σ H nx h3 h2) (.bool true)

end Go.Ev
