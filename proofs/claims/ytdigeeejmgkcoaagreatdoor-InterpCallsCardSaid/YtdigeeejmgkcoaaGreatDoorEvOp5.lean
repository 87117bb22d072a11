/-
  Own work. Operations on abstract values, part 5: what is made: structs, arrays, new blocks.
-/
import Derived.Test.YtdigeeejmgkcoaaGreatDoorEvOp3
import Derived.Laws.Append
namespace Go.Ev
variable [GTab]
set_option linter.unusedSectionVars false
noncomputable section

/-! ### Structs and arrays by value -/
def seg (off : Nat) (cs l : List AVal) : List AVal := l.take off ++ cs ++ l.drop (off + cs.length)

def aFill (place : Nat → Option (Nat × Nat)) (ρ : Operand → AVal) (cells : List AVal) : List (Nat × Operand) → Option (List AVal)
  | [] => some cells
  | (i, x) :: rest =>
    match place i, acells (ρ x) with
    | some (off, size), some cs => match Nat.beq cs.length size, Nat.ble (Nat.add off size) cells.length with
      | true, true => aFill place ρ (seg off cs cells) rest
      | _, _ => none
    | _, _ => none

theorem set_fold : ∀ (xs : List Value) (k off : Nat) (A : Array Value), off + k + xs.length ≤ A.size →
    ((xs.zipIdx k).foldl (fun (cs : Array Value) (p : Value × Nat) => cs.setIfInBounds (off + p.2) p.1) A).toList = A.toList.take (off + k) ++ xs ++ A.toList.drop (off + k + xs.length)
  | [], k, off, A, h => by simp
  | x :: xs, k, off, A, h => by
    simp only [List.zipIdx_cons, List.foldl_cons, List.length_cons] at h ⊢
    rw [set_fold xs (k + 1) off _ (by simp; omega)]
    simp only [Array.toList_setIfInBounds]
    have hlt : off + k < A.toList.length := by simp; omega
    rw [List.set_eq_take_append_cons_drop, if_pos hlt]
    have e1 : (List.take (off + k) A.toList ++ x :: List.drop (off + k + 1) A.toList).take (off + (k + 1)) = List.take (off + k) A.toList ++ [x] := by
      rw [List.take_append]
      have : (List.take (off + k) A.toList).length = off + k := by simp; omega
      rw [this, List.take_of_length_le (by simp; omega)]
      have : off + (k + 1) - (off + k) = 1 := by omega
      rw [this]; simp
    have e2 : (List.take (off + k) A.toList ++ x :: List.drop (off + k + 1) A.toList).drop (off + (k + 1) + xs.length) = List.drop (off + k + (xs.length + 1)) A.toList := by
      rw [List.drop_append]
      have : (List.take (off + k) A.toList).length = off + k := by simp; omega
      rw [this, List.drop_of_length_le (by simp; omega)]
      have : off + (k + 1) + xs.length - (off + k) = xs.length + 1 := by omega
      rw [this]
      simp [List.drop_drop]
      congr 1
      omega
    rw [e1, e2]
    simp

theorem fill_ok {σ : Sg} {ρ : Operand → AVal} {ρ' : Operand → Value} (hd : ∀ x, Den σ (ρ x) (ρ' x)) (place : Nat → Option (Nat × Nat)) :
    ∀ (parts : List (Nat × Operand)) (zs cs : List AVal) (zs' : List Value), aFill place ρ zs parts = some cs → DenL σ zs zs' →
      ∃ cs', Instr.fill place ⟨zs'⟩ (parts.map fun p => (p.1, ρ' p.2)) = some ⟨cs'⟩ ∧ DenL σ cs cs' ∧ cs.length = zs.length
  | [], zs, cs, zs', h, hz => by cases h; exact ⟨zs', rfl, hz, rfl⟩
  | (i, x) :: rest, zs, cs, zs', h, hz => by
    unfold aFill at h
    split at h <;> first | (cases h; done) | skip
    rename_i off size xs hp hxs
    split at h <;> first | (cases h; done) | skip
    rename_i h1 h2
    have h1' := Nat.eq_of_beq_eq_true h1
    have h2' := Nat.le_of_ble_eq_true h2
    have hx := acells_ok hxs (hd x)
    have hlz := hz.length
    have hlx := hx.length
    have hsz : (ρ' x).cells.size = size := by rw [← h1', hlx]; simp
    have hadd : off + size ≤ zs'.length := by simp at h2'; omega
    have hs : DenL σ (seg off xs zs) (zs'.take off ++ (ρ' x).cells.toList ++ zs'.drop (off + (ρ' x).cells.toList.length)) := by
      unfold seg
      rw [← hlx]
      exact ((hz.take off).append hx).append (hz.drop _)
    have hseg : (seg off xs zs).length = zs.length := by unfold seg; simp; omega
    obtain ⟨cs', e, hc, hlen⟩ := fill_ok hd place rest _ cs _ h hs
    refine ⟨cs', ?_, hc, hlen.trans hseg⟩
    have hfold : (ρ' x).cells.zipIdx.foldl (fun (cs : Array Value) (p : Value × Nat) => cs.setIfInBounds (off + p.2) p.1) ⟨zs'⟩ = ⟨zs'.take off ++ (ρ' x).cells.toList ++ zs'.drop (off + (ρ' x).cells.toList.length)⟩ := by
      apply Array.ext'
      rw [← Array.foldl_toList, Array.toList_zipIdx]
      have := set_fold (ρ' x).cells.toList 0 off ⟨zs'⟩ (by simp; omega)
      simpa using this
    simp only [List.map_cons, Instr.fill, hp]
    have hcond : ¬ ((decide ((ρ' x).cells.size ≠ size) || decide (off + (ρ' x).cells.size > (Array.mk zs').size)) = true) := by
      simp
      omega
    rw [if_neg hcond]
    rw [← e]
    congr 1

theorem parts_map {ρ' : Operand → Value} (ps : Array (Nat × Operand)) : (ps.map fun (i, x) => (i, ρ' x)).toList = ps.toList.map fun p => (p.1, ρ' p.2) := by
  simp

/-- Where the fields of a struct lie. -/
def places (P : Program) : List Field → Option (List (Nat × Nat))
  | [] => some []
  | f :: l => match P.info? f.type, places P l with
    | some i, some r => some ((f.offset, i.size) :: r)
    | _, _ => none

theorem places_run {P : Program} {w : World} : ∀ (l : List Field) (r : List (Nat × Nat)), places P l = some r →
    (l.mapM fun f => do pure (f.offset, ← sizeOf f.type) : Sem (List (Nat × Nat))).run P w = .ok r w
  | [], r, h => by cases h; rfl
  | f :: l, r, h => by
    unfold places at h
    split at h <;> first | (cases h; done) | skip
    rename_i i r' hi hr
    cases h
    have ih := places_run (P := P) (w := w) l r' hr
    simp only [List.mapM_cons, Sem.run_bind, run_sizeOf' hi, Result.andThen_ok, Sem.run_pure, ih]

/-- The cells of the zero value of a type, if they are as many as its size says. -/
def zeroL (P : Program) (t : TypeId) : Option (List AVal) :=
  match P.info? t with
  | some i => match i.zero with
    | some z => match Nat.beq z.cells.toList.length i.size with
      | true => some (z.cells.toList.map ofCell)
      | false => none
    | none => none
  | none => none

theorem zeroL_ok {P : Program} {t : TypeId} {l : List AVal} (h : zeroL P t = some l) : ∃ i z, P.info? t = some i ∧ i.zero = some z ∧ l = z.cells.toList.map ofCell ∧ z.cells.size = i.size := by
  unfold zeroL at h
  split at h <;> first | (cases h; done) | skip
  rename_i i hi
  split at h <;> first | (cases h; done) | skip
  rename_i z hz
  split at h <;> first | (cases h; done) | skip
  rename_i hq
  cases h
  exact ⟨i, z, hi, hz, rfl, by have := Nat.eq_of_beq_eq_true hq; simpa using this⟩

def aBuild (P : Program) (t : TypeId) (parts : Array (Nat × Operand)) (ρ : Operand → AVal) : Option (List AVal) :=
  match zeroL P t, P.underlying t with
  | some z, some (.struct fields) => match places P fields.toList with
    | some pl => aFill (fun i => pl[i]?) ρ z parts.toList
    | none => none
  | some z, some (.array _ elem) => match P.info? elem with
    | some e => aFill (fun i => some (Nat.mul i e.size, e.size)) ρ z parts.toList
    | none => none
  | _, _ => none

def opBuild (P : Program) (t : TypeId) (parts : Array (Nat × Operand)) (ρ : Operand → AVal) (H : Heap) (nx : Nat) : Option ARes :=
  match aBuild P t parts ρ with
  | some cs => some (.val (.agg cs) H nx)
  | none => none

theorem opBuild_ok {P : Program} {o : Oper} {t : TypeId} {parts : Array (Nat × Operand)} {ρ : Operand → AVal} {H : Heap} {nx : Nat} {r : ARes} (ho : o.op = .build t parts)
    (h : opBuild P t parts ρ H nx = some r) : OpOK P o ρ H nx r := by
  unfold opBuild at h
  split at h <;> first | (cases h; done) | skip
  rename_i cs hcs
  cases h
  refine OpOK.pure fun σ w ρ' _ hd => ?_
  unfold aBuild at hcs
  split at hcs <;> first | (cases hcs; done) | skip
  · rename_i z fields hz hu
    split at hcs <;> first | (cases hcs; done) | skip
    rename_i pl hpl
    obtain ⟨i, zv, hi, hzv, rfl, hsz⟩ := zeroL_ok hz
    obtain ⟨cs', e, hc, _⟩ := fill_ok hd (fun i => pl[i]?) parts.toList _ cs zv.cells.toList hcs (denL_ofCell σ _)
    refine ⟨.agg ⟨cs'⟩, .agg hc, ?_⟩
    have hm : (fields.mapM fun f => do pure (f.offset, ← sizeOf f.type) : Sem (Array (Nat × Nat))).run P w = .ok ⟨pl⟩ w := by
      rw [Array.mapM_eq_mapM_toList]
      have := places_run (P := P) (w := w) fields.toList pl hpl
      simp only [Sem.run_map]
      rw [this]
      rfl
    have e' : Instr.fill (fun x => (Array.mk pl)[x]?) zv.cells (parts.map fun (i, x) => (i, ρ' x)).toList = some ⟨cs'⟩ := by
      rw [parts_map, ← e]
      congr 1
      funext x
      simp
    simp only [execOp, ho, Instr.build, Sem.run_bind, Sem.run_pure, Result.andThen_ok, run_zeroValue' hi hzv, run_underlying' hu, hm, e']
  · rename_i z len elem hz hu
    split at hcs <;> first | (cases hcs; done) | skip
    rename_i ei hei
    obtain ⟨i, zv, hi, hzv, rfl, hsz⟩ := zeroL_ok hz
    obtain ⟨cs', e, hc, _⟩ := fill_ok hd (fun i => some (Nat.mul i ei.size, ei.size)) parts.toList _ cs zv.cells.toList hcs (denL_ofCell σ _)
    refine ⟨.agg ⟨cs'⟩, .agg hc, ?_⟩
    have e' : Instr.fill (fun i => some (i * ei.size, ei.size)) zv.cells (parts.map fun (i, x) => (i, ρ' x)).toList = some ⟨cs'⟩ := by
      rw [parts_map, ← e]
      congr 1
    simp only [execOp, ho, Instr.build, Sem.run_bind, Sem.run_pure, Result.andThen_ok, run_zeroValue' hi hzv, run_underlying' hu, run_sizeOf' hei, e']

/-! ### New blocks -/
/-- A block that is made: how many cells, which; what leads to it, once its number is known. -/
structure Made where
  n : Nat
  l : List AVal
  v : Nat → AVal

def MadeOK (P : Program) (o : Oper) (ρ : Operand → AVal) (m : Made) : Prop :=
  ∀ (σ : Sg) (w : World) (ρ' : Operand → Value), (∀ x, Den σ (ρ x) (ρ' x)) →
    ∃ (l' : List Value) (t : TypeId) (v' : Value), DenL σ m.l l' ∧ m.l.length = m.n ∧ (∀ (σ' : Sg) (b : Nat), σ' b = some (w.heap.size, m.n) → Den σ' (m.v b) v') ∧
      (execOp ρ' o).run P w = .ok (.value v') (w.alloc (.cells ⟨l'⟩ t))

def madeAlloc (P : Program) (t : TypeId) : Option Made :=
  match zeroL P t with
  | some z => some ⟨z.length, z, fun b => .ptr b 0⟩
  | none => none

theorem madeAlloc_ok {P : Program} {o : Oper} {t : TypeId} {ρ : Operand → AVal} {m : Made} (ho : o.op = .alloc t) (h : madeAlloc P t = some m) : MadeOK P o ρ m := by
  unfold madeAlloc at h
  split at h <;> first | (cases h; done) | skip
  rename_i z hz
  cases h
  obtain ⟨i, zv, hi, hzv, rfl, hsz⟩ := zeroL_ok hz
  intro σ w ρ' hd
  refine ⟨zv.cells.toList, t, .pointer (some (at' w.heap.size 0)), denL_ofCell σ _, rfl, fun σ' b hb => .ptr hb, ?_⟩
  simp [execOp, ho, Instr.alloc, run_zeroValue' hi hzv, newVar, newRow]

def madeBox (x : Operand) (ρ : Operand → AVal) : Option Made :=
  match acells (ρ x) with
  | some cs => forceN cs.length fun n => some ⟨n, cs, fun b => .ptr b 0⟩
  | none => none

theorem madeBox_ok {P : Program} {o : Oper} {t : TypeId} {x : Operand} {ρ : Operand → AVal} {m : Made} (ho : o.op = .box t x) (h : madeBox x ρ = some m) : MadeOK P o ρ m := by
  unfold madeBox at h
  split at h <;> first | (cases h; done) | skip
  rename_i cs hcs
  rw [forceN_eq] at h
  cases h
  intro σ w ρ' hd
  refine ⟨(ρ' x).cells.toList, t, .pointer (some (at' w.heap.size 0)), acells_ok hcs (hd x), rfl, fun σ' b hb => .ptr hb, ?_⟩
  simp [execOp, ho, Instr.box, newVar, newRow]

/-- A list k times. -/
def repL (l : List AVal) (k : Nat) : List AVal := Nat.rec [] (fun _ ih => l ++ ih) k

theorem repL_succ (l : List AVal) (k : Nat) : repL l (k + 1) = l ++ repL l k := rfl

def repV (l : List Value) : Nat → List Value
  | 0 => []
  | k + 1 => l ++ repV l k

theorem repL_den {σ : Sg} {l : List AVal} {l' : List Value} (h : DenL σ l l') : ∀ k, DenL σ (repL l k) (repV l' k)
  | 0 => .nil
  | k + 1 => by rw [repL_succ]; exact h.append (repL_den h k)

theorem repL_length (l : List AVal) : ∀ k, (repL l k).length = k * l.length
  | 0 => by show ([] : List AVal).length = _; simp
  | k + 1 => by rw [repL_succ, List.length_append, repL_length l k, Nat.succ_mul]; omega

theorem repV_length (l : List Value) : ∀ k, (repV l k).length = k * l.length
  | 0 => by simp [repV]
  | k + 1 => by rw [repV, List.length_append, repV_length l k, Nat.succ_mul]; omega

theorem repV_eq (z : Array Value) : ∀ k : Nat, ((Array.range (k * z.size)).map (z[· % z.size]!)).toList = repV z.toList k := by
  intro k
  induction k with
  | zero => simp [repV]
  | succ k ih =>
    rw [repV, ← ih]
    simp only [Array.toList_map, Array.toList_range]
    have e : (k + 1) * z.size = z.size + k * z.size := by rw [Nat.succ_mul]; omega
    rw [e, List.range_add, List.map_append]
    congr 1
    · apply List.ext_getElem
      · simp
      · intro i h1 h2
        simp at h1 h2
        simp [Nat.mod_eq_of_lt h1, getElem!_pos z i h1]
    · rw [List.map_map]
      apply List.map_congr_left
      intro i _
      simp

def madeSliceLit (P : Program) (t : TypeId) (len : Nat) (parts : Array (Nat × Operand)) (ρ : Operand → AVal) : Option Made :=
  match P.underlying t with
  | some (.slice elem) => match zeroL P elem, P.info? elem with
    | some z, some e => match Nat.ble (Nat.mul len e.size) 4096, Nat.beq e.size 0 with
      | true, false => match aFill (fun i => some (Nat.mul i e.size, e.size)) ρ (repL z len) parts.toList with
        | some cs => some ⟨Nat.mul len e.size, cs, fun b => .slice b 0 len e.size true⟩
        | none => none
      | _, _ => none
    | _, _ => none
  | _ => none

theorem madeSliceLit_ok {P : Program} {o : Oper} {t : TypeId} {len : Nat} {parts : Array (Nat × Operand)} {ρ : Operand → AVal} {m : Made} (ho : o.op = .buildSlice t len parts)
    (h : madeSliceLit P t len parts ρ = some m) : MadeOK P o ρ m := by
  unfold madeSliceLit at h
  split at h <;> first | (cases h; done) | skip
  rename_i elem hu
  split at h <;> first | (cases h; done) | skip
  rename_i z e hz he
  split at h <;> first | (cases h; done) | skip
  rename_i h1 h2
  have h1' : len * e.size ≤ 4096 := Nat.le_of_ble_eq_true h1
  have h2' : e.size ≠ 0 := fun q => by rw [q] at h2; cases h2
  split at h <;> first | (cases h; done) | skip
  rename_i cs hcs
  cases h
  obtain ⟨i, zv, hi, hzv, rfl, hsz⟩ := zeroL_ok hz
  rw [he] at hi
  cases hi
  intro σ w ρ' hd
  obtain ⟨cs', ef, hc, hlen⟩ := fill_ok hd (fun i => some (Nat.mul i e.size, e.size)) parts.toList _ cs _ hcs (repL_den (denL_ofCell σ zv.cells.toList) len)
  have hlen' : cs.length = len * e.size := by rw [hlen, repL_length]; simp [hsz]
  refine ⟨cs', elem, .slice (some (at' w.heap.size 0)) len len, hc, hlen', fun σ' b hb => .slice hb (Nat.le_refl _) (by simp) (fun _ => rfl), ?_⟩
  have ez : (Array.range (len * e.size)).map (fun x => zv.cells[x % zv.cells.size]!) = ⟨repV zv.cells.toList len⟩ := by
    apply Array.ext'
    rw [← hsz]
    exact repV_eq zv.cells len
  have e' : Instr.fill (fun i => some (i * e.size, e.size)) ⟨repV zv.cells.toList len⟩ (parts.map fun (i, x) => (i, ρ' x)).toList = some ⟨cs'⟩ := by
    rw [parts_map, ← ef]
    congr 1
  have hbig : ¬ len * e.size > 2 ^ 24 := by omega
  simp only [execOp, ho, Instr.buildSlice, Sem.run_bind, Sem.run_pure, Result.andThen_ok, run_underlying' hu, run_sizeOf' he, Sem.run_ite, if_neg hbig]
  by_cases hl0 : len * e.size = 0
  · have hlen0 : len = 0 := by
      rcases Nat.mul_eq_zero.1 hl0 with h | h
      · exact h
      · exact (h2' h).elim
    subst hlen0
    have ez' : (Array.range (0 * e.size)).map (fun x => (#[] : Array Value)[x % (#[] : Array Value).size]!) = ⟨repV zv.cells.toList 0⟩ := by simp [repV]
    simp only [if_pos hl0, Result.andThen_ok, ez', e', newRow, Sem.run_bind, run_newObj, Sem.run_pure]
    rfl
  · simp only [if_neg hl0, run_zeroValue' he hzv, Sem.run_bind, Sem.run_pure, Result.andThen_ok, ez, e', newRow, run_newObj]
    rfl

def madeMake (P : Program) (t : TypeId) (l c : Operand) (ρ : Operand → AVal) : Option Made :=
  match P.underlying t, ρ l, ρ c with
  | some (.slice elem), .int _ li, .int _ ci => match zeroL P elem, P.info? elem, asNat li, asNat ci with
    | some z, some e, some n, some m => match Nat.beq n m, Nat.ble (Nat.mul n e.size) 4096, Nat.ble (Nat.mul n e.bytes) 140737488355328, Nat.beq e.size 0, Nat.ble n 9223372036854775807 with
      | true, true, true, false, true => forceN (Nat.mul n e.size) fun k => some ⟨k, repL z n, fun b => .slice b 0 n e.size true⟩
      | _, _, _, _, _ => none
    | _, _, _, _ => none
  | _, _, _ => none

theorem madeMake_ok {P : Program} {o : Oper} {t : TypeId} {l c : Operand} {ρ : Operand → AVal} {m : Made} (ho : o.op = .makeSlice t l c)
    (h : madeMake P t l c ρ = some m) : MadeOK P o ρ m := by
  unfold madeMake at h
  split at h <;> first | (cases h; done) | skip
  rename_i elem k1 li k2 ci hu hl hc
  split at h <;> first | (cases h; done) | skip
  rename_i z e n n2 hz he hn hn2
  split at h <;> first | (cases h; done) | skip
  rename_i h1 h2 h3 h4 h5
  have h1' := Nat.eq_of_beq_eq_true h1
  subst h1'
  have h2' : n * e.size ≤ 4096 := Nat.le_of_ble_eq_true h2
  have h3' : n * e.bytes ≤ 140737488355328 := Nat.le_of_ble_eq_true h3
  have h4' : e.size ≠ 0 := fun q => by rw [q] at h4; cases h4
  have h5' : n ≤ 9223372036854775807 := Nat.le_of_ble_eq_true h5
  have e1 := asNat_ok hn
  have e2 := asNat_ok hn2
  subst e1
  subst e2
  rw [forceN_eq] at h
  cases h
  obtain ⟨i, zv, hi, hzv, rfl, hsz⟩ := zeroL_ok hz
  rw [he] at hi
  cases hi
  intro σ w ρ' hd
  have d1 := hd l; rw [hl] at d1
  have d2 := hd c; rw [hc] at d2
  cases q1 : ρ' l <;> rw [q1] at d1 <;> cases d1
  cases q2 : ρ' c <;> rw [q2] at d2 <;> cases d2
  refine ⟨repV zv.cells.toList n, elem, .slice (some (at' w.heap.size 0)) n n, repL_den (denL_ofCell σ _) n, (by show _ = n * e.size; rw [repL_length, List.length_map, Array.length_toList, hsz]), fun σ' b hb => .slice hb (Nat.le_refl _) (by simp) (fun _ => rfl), ?_⟩
  have ez : (Array.range (n * e.size)).map (fun x => zv.cells[x % zv.cells.size]!) = ⟨repV zv.cells.toList n⟩ := by
    apply Array.ext'
    rw [← hsz]
    exact repV_eq zv.cells n
  have w1 : IntKind.i64.wrap (n : Int) = (n : Int) := IntWalk.i64_in _ (by omega)
  have t1 : ¬ ((n : Int) < 0) := by omega
  have hb : ((e.bytes : Int) * (n : Int)) = ((n * e.bytes : Nat) : Int) := by rw [Int.natCast_mul, Int.mul_comm]
  have t2 : ¬ ((e.bytes : Int) * (n : Int) > 2 ^ 48) := by rw [hb]; omega
  have t3 : ¬ ((n : Int) > (n : Int)) := by omega
  simp only [execOp, ho, Instr.makeSlice, q1, q2, Sem.run_bind, Sem.run_pure, Result.andThen_ok, run_underlying' hu, asInt, asIntOf, run_typeInfo' he, w1]
  have tl : (decide ((n : Int) < 0) || decide ((e.bytes : Int) * (n : Int) > 2 ^ 48)) = false := by rw [decide_eq_false t1, decide_eq_false t2]; rfl
  have cond : ¬ ((((decide ((n : Int) < 0) || decide ((e.bytes : Int) * (n : Int) > 2 ^ 48)) || decide ((n : Int) < 0)) || decide ((n : Int) > (n : Int))) = true) := by
    rw [tl]
    have : decide ((n : Int) < 0) = false := decide_eq_false t1
    rw [this]
    simp
  rw [Sem.run_ite, if_neg cond]
  simp only [Sem.run_bind, Sem.run_pure, Result.andThen_ok, run_askRoom, Int.toNat_natCast, run_sizeOf' he, Sem.run_ite]
  by_cases hl0 : n * e.size = 0
  · have hn0 : n = 0 := by
      rcases Nat.mul_eq_zero.1 hl0 with h | h
      · exact h
      · exact (h4' h).elim
    subst hn0
    have ez' : (Array.range (0 * e.size)).map (fun x => (#[] : Array Value)[x % (#[] : Array Value).size]!) = ⟨repV zv.cells.toList 0⟩ := by simp [repV]
    simp only [if_pos hl0, Sem.run_pure, Result.andThen_ok, ez', newRow, Sem.run_bind, run_newObj]
    rfl
  · simp only [if_neg hl0, run_zeroValue' he hzv, Sem.run_bind, Sem.run_pure, Result.andThen_ok, ez, newRow, run_newObj]
    rfl

/-- The operations that make a block and do nothing else. -/
def made (P : Program) (op : Op) (ρ : Operand → AVal) : Option Made :=
  match op with
  | .alloc t => madeAlloc P t
  | .box _ x => madeBox x ρ
  | .buildSlice t len parts => madeSliceLit P t len parts ρ
  | .makeSlice t l c => madeMake P t l c ρ
  | _ => none

theorem made_ok {P : Program} {o : Oper} {ρ : Operand → AVal} {m : Made} (h : made P o.op ρ = some m) : MadeOK P o ρ m := by
  unfold made at h
  split at h <;> first | (cases h; done) | skip
  · exact madeAlloc_ok ‹_› h
  · exact madeBox_ok ‹_› h
  · exact madeSliceLit_ok ‹_› h
  · exact madeMake_ok ‹_› h

theorem made_cells {σ : Sg} {n : Nat} {l : List AVal} {l' : List Value} (hl : DenL σ l l') (hn : l.length = n) (h4 : n ≤ 4096) :
    n ≤ (CT.ofL n l).cap ∧ n = (Array.mk l').size ∧ ∀ i, i < n → ∃ v', (Array.mk l')[i]? = some v' ∧ Den σ ((CT.ofL n l).get i) v' := by
  refine ⟨CT.ofL_cap n l h4, by rw [← hn, hl.length]; rfl, fun i hi => ?_⟩
  have hlt : i < l.length := by omega
  obtain ⟨v', e, d⟩ := hl.get i l[i] (by simp [List.getElem?_eq_getElem hlt])
  refine ⟨v', by simpa using e, ?_⟩
  rw [CT.get_ofL n l i h4 hi]
  simpa [List.getD, List.getElem?_eq_getElem hlt] using d

def opMade (m : Made) (H : Heap) (nx : Nat) : Option ARes :=
  match Nat.ble m.n 4096, Nat.ble (Nat.succ nx) 1048576 with
  | true, true => forceN nx fun b => some (.val (m.v b) (set5 b (some (.cells m.n (CT.ofL m.n m.l) [] false)) H) (Nat.succ b))
  | _, _ => none

theorem opMade_ok {P : Program} {o : Oper} {ρ : Operand → AVal} {H : Heap} {nx : Nat} {m : Made} {r : ARes} (hm : MadeOK P o ρ m) (h : opMade m H nx = some r) : OpOK P o ρ H nx r := by
  unfold opMade at h
  split at h <;> first | (cases h; done) | skip
  rename_i h1 h2
  have h1' := Nat.le_of_ble_eq_true h1
  have h2' := Nat.le_of_ble_eq_true h2
  rw [forceN_eq] at h
  cases h
  intro σ w ρ' hr hd
  obtain ⟨l', t, v', hl, hn, hv, hrun⟩ := hm σ w ρ' hd
  obtain ⟨c1, c2, c3⟩ := made_cells hl hn h1'
  obtain ⟨r1, r2⟩ := hr.alloc (t := t) (fz := (0, 0)) (by omega) c1 c2 (Nat.le_refl _) (fun i _ h => by omega) c3
  refine ⟨_, _, v', r1, r2, hv _ nx (by simp [upd]), .inl hrun⟩

end
end Go.Ev

namespace Go.Ev
variable [GTab]
set_option linter.unusedSectionVars false
noncomputable section

/-- A block is no longer written; what it was before is forgotten. -/
theorem Rel.demote {σ : Sg} {H : Heap} {nx b n cb sz : Nat} {w : World} {ct : CT} {olds : List Nat} (h : Rel σ H nx w) (hb : σ b = some (cb, sz)) (ho : get5 b H = some (.cells n ct olds false)) :
    Rel σ (set5 b (some (.cells n ct [] true)) (dels olds H)) nx w ∧ (∀ c, c < nx → σ c = none → get5 c (set5 b (some (.cells n ct [] true)) (dels olds H)) = get5 c H) ∧
    (∀ c o s, get5 c (set5 b (some (.cells n ct [] true)) (dels olds H)) = some o → σ c = some (cb, s) → c = b) := by
  have hlim := h.lim
  have lt : ∀ {c p}, σ c = some p → c < 1048576 := fun {c p} hc => by obtain ⟨cb, sz⟩ := p; have := (h.dom c cb sz hc).1; omega
  have hold : ∀ c, c ∈ olds → ∃ p', σ c = some p' := fun c hc => h.old b _ _ ho hb c hc
  have holt : ∀ c, c ∈ olds → c < 1048576 := fun c hc => let ⟨_, e⟩ := hold c hc; lt e
  have bn : b < 1048576 := lt hb
  have key : ∀ c o, c ≠ b → c < 1048576 → get5 c (set5 b (some (.cells n ct [] true)) (dels olds H)) = some o → get5 c H = some o ∧ c ∉ olds := by
    intro c o hcb hc e
    rw [get5_ne (fun e => hcb e.symm) bn hc, get5_dels olds H c holt hc] at e
    by_cases hm : c ∈ olds
    · rw [if_pos hm] at e; cases e
    · rw [if_neg hm] at e; exact ⟨e, hm⟩
  have keyb : get5 b (set5 b (some (.cells n ct [] true)) (dels olds H)) = some (.cells n ct [] true) := get5_set5_same _ _ _
  have alone : ∀ c o s, c ≠ b → c ∉ olds → get5 c H = some o → σ c = some (cb, s) → False := by
    intro c o s hcb hno hc hs
    rcases h.sep c b o _ cb s sz hc ho hs hb with e | e | e
    · exact hcb e
    · exact hno e
    · have := h.sup b c _ o _ ho hc hs e
      simp [AObj.sup] at this
  refine ⟨⟨hlim, h.dom, ?_, ?_, ?_, ?_, h.glob⟩, ?_, ?_⟩
  · intro c o x s e1 e2
    by_cases hcb : c = b
    · subst hcb; rw [keyb] at e1; cases e1
      have := h.obj c _ x s ho e2
      exact this
    · exact h.obj c o x s (key c o hcb (lt e2) e1).1 e2
  · intro c c' o o' x s s' e1 e2 e3 e4
    by_cases h1 : c = b
    · subst h1
      by_cases h2 : c' = c
      · exact .inl h2.symm
      · obtain ⟨e2', hno⟩ := key c' o' h2 (lt e4) e2
        rw [hb] at e3; cases e3
        exact (alone c' o' s' h2 hno e2' e4).elim
    · obtain ⟨e1', hno⟩ := key c o h1 (lt e3) e1
      by_cases h2 : c' = b
      · subst h2
        rw [hb] at e4; cases e4
        exact (alone c o s h1 hno e1' e3).elim
      · exact h.sep c c' o o' x s s' e1' (key c' o' h2 (lt e4) e2).1 e3 e4
  · intro c c' o o' p e1 e2 e3 e4
    by_cases h2 : c' = b
    · subst h2; rw [keyb] at e2; cases e2; simp [AObj.olds] at e4
    · obtain ⟨e2', _⟩ := key c' o' h2 (lt e3) e2
      obtain ⟨p', hp'⟩ := h.old c' o' p e2' e3 c e4
      by_cases h1 : c = b
      · subst h1; rw [keyb] at e1; cases e1; rfl
      · exact h.sup c c' o o' p (key c o h1 (lt hp') e1).1 e2' e3 e4
  · intro c o p e1 e2 c' e3
    by_cases h1 : c = b
    · subst h1; rw [keyb] at e1; cases e1; simp [AObj.olds] at e3
    · exact h.old c o p (key c o h1 (lt e2) e1).1 e2 c' e3
  · intro c hc hn
    have hcb : b ≠ c := fun e => by subst e; rw [hb] at hn; cases hn
    have hno : c ∉ olds := fun hm => by obtain ⟨_, e⟩ := hold c hm; rw [hn] at e; cases e
    rw [get5_ne hcb bn (by omega), get5_dels olds H c holt (by omega), if_neg hno]
  · intro c o s e1 e2
    by_cases hcb : c = b
    · exact hcb
    · obtain ⟨e1', hno⟩ := key c o hcb (lt e2) e1
      exact (alone c o s hcb hno e1' e2).elim

/-- A new number for a block, old or new, with the elder versions of it. -/
theorem Rel.share {σ : Sg} {H : Heap} {nx cb sz n : Nat} {w w' : World} {ct : CT} {os : List Nat} (h : Rel σ H nx w) (hx : nx < 1048576) (hcb : cb < w'.heap.size)
    (hsize : w.heap.size ≤ w'.heap.size) (hblk : ∀ i, i < w.heap.size → i ≠ cb → w'.heap[i]? = w.heap[i]?)
    (hos : ∀ c, c ∈ os → (∃ p, σ c = some p) ∧ ∀ o, get5 c H = some o → o.sup = true)
    (hal : ∀ c o s, get5 c H = some o → σ c = some (cb, s) → c ∈ os ∧ ORel σ o cb s w')
    (hnew : ORel (upd σ nx (cb, sz)) (.cells n ct os false) cb sz w') (hrng : cb < w.heap.size → ∃ b' sz', σ b' = some (cb, sz')) :
    Rel (upd σ nx (cb, sz)) (set5 nx (some (.cells n ct os false)) H) (nx + 1) w' := by
  have hb : σ nx = none := by
    cases e : σ nx with
    | none => rfl
    | some p => obtain ⟨cb, s⟩ := p; have := (h.dom nx cb s e).1; omega
  have sub := upd_sub (p := (cb, sz)) hb
  have hlim := h.lim
  have lt : ∀ {c p}, σ c = some p → c < nx := fun {c p} hc => by obtain ⟨cb, sz⟩ := p; exact (h.dom c cb sz hc).1
  have ne : ∀ {c p}, σ c = some p → get5 c (set5 nx (some (.cells n ct os false)) H) = get5 c H := by
    intro c p hc
    have := lt hc
    exact get5_ne (by omega) hx (by omega)
  have hglob : Glob (upd σ nx (cb, sz)) w' := by
    refine h.glob.of hsize (fun i hi hno => hblk i hi fun e => ?_) fun x c s e hlt => ?_
    · subst e
      obtain ⟨b', sz', e'⟩ := hrng hi
      exact hno b' sz' e'
    · rcases upd_inv e with ⟨rfl, q⟩ | ⟨_, q⟩
      · cases q; exact hrng hlt
      · exact ⟨x, s, q⟩
  refine ⟨by omega, ?_, ?_, ?_, ?_, ?_, hglob⟩
  · intro c x s e
    rcases upd_inv e with ⟨rfl, q⟩ | ⟨_, q⟩
    · cases q; exact ⟨by omega, hcb⟩
    · have := h.dom c x s q; exact ⟨by omega, by omega⟩
  · intro c o x s e1 e2
    rcases upd_inv e2 with ⟨rfl, q⟩ | ⟨hne, q⟩
    · cases q; rw [get5_set5_same] at e1; cases e1; exact hnew
    · rw [ne q] at e1
      by_cases hx' : x = cb
      · subst hx'; exact ORel.mono sub (hal c o s e1 q).2
      · exact (ORel.mono sub (h.obj c o x s e1 q)).of_block (hblk x (h.dom c x s q).2 hx')
  · intro c c' o o' x s s' e1 e2 e3 e4
    rcases upd_inv e3 with ⟨rfl, q⟩ | ⟨_, q⟩
    · cases q
      rcases upd_inv e4 with ⟨rfl, _⟩ | ⟨_, q'⟩
      · exact .inl rfl
      · rw [ne q'] at e2
        rw [get5_set5_same] at e1
        cases e1
        exact .inr (.inr (hal c' o' s' e2 q').1)
    · rw [ne q] at e1
      rcases upd_inv e4 with ⟨rfl, q'⟩ | ⟨_, q'⟩
      · cases q'
        rw [get5_set5_same] at e2
        cases e2
        exact .inr (.inl (hal c o s e1 q).1)
      · rw [ne q'] at e2
        exact h.sep c c' o o' x s s' e1 e2 q q'
  · intro c c' o o' p e1 e2 e3 e4
    rcases upd_inv e3 with ⟨rfl, _⟩ | ⟨_, q⟩
    · rw [get5_set5_same] at e2
      cases e2
      obtain ⟨⟨p', hp'⟩, hs⟩ := hos c e4
      rw [ne hp'] at e1
      exact hs o e1
    · rw [ne q] at e2
      obtain ⟨p', hp'⟩ := h.old c' o' p e2 q c e4
      rw [ne hp'] at e1
      exact h.sup c c' o o' p e1 e2 q e4
  · intro c o p e1 e2 c' e3
    rcases upd_inv e2 with ⟨rfl, _⟩ | ⟨_, q⟩
    · rw [get5_set5_same] at e1
      cases e1
      obtain ⟨⟨p', hp'⟩, _⟩ := hos c' e3
      exact ⟨p', sub _ _ hp'⟩
    · rw [ne q] at e1
      obtain ⟨p', hp'⟩ := h.old c o p e1 q c' e3
      exact ⟨p', sub _ _ hp'⟩

/-! ### What is appended -/
/-- The bytes of a text. -/
def bytesL (x : Nat) (n : Nat) : List AVal := Nat.rec [] (fun m ih => .int .u8 (.ofNat (Nat.mod (Nat.shiftRight x (Nat.mul 8 m)) 256)) :: ih) n

theorem bytesL_succ (x n : Nat) : bytesL x (n + 1) = .int .u8 (.ofNat (Nat.mod (Nat.shiftRight x (Nat.mul 8 n)) 256)) :: bytesL x n := rfl

theorem bytesL_length (x : Nat) : ∀ n, (bytesL x n).length = n
  | 0 => rfl
  | n + 1 => by rw [bytesL_succ, List.length_cons, bytesL_length x n]

theorem bytesL_den {σ : Sg} (x : Nat) : ∀ n, DenL σ (bytesL x n) ((digs n x).map fun b => Value.int .u8 b.toNat)
  | 0 => .nil
  | n + 1 => by
    rw [bytesL_succ, digs, List.map_cons]
    refine .cons ?_ (bytesL_den x n)
    have e : ((UInt8.ofNat (x / 256 ^ n)).toNat : Int) = Int.ofNat (Nat.mod (Nat.shiftRight x (Nat.mul 8 n)) 256) := by
      have e1 : Nat.mod (Nat.shiftRight x (Nat.mul 8 n)) 256 = x / 256 ^ n % 256 := by
        show (x >>> (8 * n)) % 256 = _
        rw [Nat.shiftRight_eq_div_pow, pow256]
      rw [e1]
      simp [UInt8.toNat_ofNat']
    rw [e]
    exact .int _ _

def aSrc (size : Nat) (H : Heap) (x : AVal) : Option (Nat × List AVal) :=
  match x with
  | .slice b off n _ _ => match get5 b H with
    | some (.cells cnt ct _ _) => match Nat.ble (Nat.add off (Nat.mul n size)) cnt with
      | true => some (n, CT.slab ct (Nat.mul n size) off)
      | false => none
    | _ => none
  | .nilSlice => some (0, [])
  | .str n z => match Nat.beq size 1 with
    | true => some (n, bytesL z n)
    | false => none
  | _ => none

theorem aSrc_ok {P : Program} {σ : Sg} {H : Heap} {nx : Nat} {w : World} {size n : Nat} {x : AVal} {x' : Value} {l : List AVal} (hr : Rel σ H nx w) (hd : Den σ x x') (h : aSrc size H x = some (n, l)) :
    l.length = n * size ∧ ∃ l', DenL σ l l' ∧ (Builtin.lenOf x').run P w = .ok n w ∧ (Builtin.firstCells size n x').run P w = .ok ⟨l'⟩ w := by
  unfold aSrc at h
  split at h
  · rename_i b off m esz full
    split at h <;> first | (cases h; done) | skip
    rename_i cnt ct olds s ho
    split at h <;> first | (cases h; done) | skip
    rename_i hle
    have hle' : off + m * size ≤ cnt := Nat.le_of_ble_eq_true hle
    cases h
    refine ⟨CT.slab_length _ _ _, ?_⟩
    cases hd with
    | @slice _ _ _ _ cb sz cap _ hb h1 h2 h3 =>
      obtain ⟨l', _, hl, _, hrun⟩ := load_slab hr ho hb P off (n * size) hle'
      exact ⟨l', hl, rfl, hrun⟩
    | slice0 hb =>
      have e : Nat.mul 0 size = 0 := Nat.zero_mul _
      rw [e]
      refine ⟨[], .nil, rfl, ?_⟩
      simp [Builtin.firstCells, loadCells, loadCellsFrom]
  · cases h
    cases hd
    exact ⟨by simp, [], .nil, rfl, rfl⟩
  · rename_i m z
    split at h <;> first | (cases h; done) | skip
    rename_i hs
    have hs' := Nat.eq_of_beq_eq_true hs
    cases h
    cases hd
    refine ⟨by rw [bytesL_length, hs', Nat.mul_one], _, bytesL_den z n, ?_, ?_⟩
    · show Result.ok (dec n z).size w = _
      rw [dec_size]
    · simp only [Builtin.firstCells, Sem.run_pure]
      congr 1
      apply Array.ext'
      rw [Lib.extract_eq, dec_data]
      simp only [List.drop_zero, Nat.sub_zero]
      rw [List.take_of_length_le (by rw [digs_length]; exact Nat.le_refl _)]
      simp
  · cases h

def srcD : TypeDesc → Bool
  | .slice _ | .string => true
  | _ => false

/-- A block that is longer than it was. -/
def grown (b cnt : Nat) (ct : CT) (olds : List Nat) (k : Nat) (H : Heap) (b' total : Nat) (ct' : CT) : Heap :=
  match Nat.beq k cnt with
  | true => set5 b' (some (.cells total ct' [b] false)) (set5 b (some (.cells cnt ct [] true)) (dels olds H))
  | false => set5 b' (some (.cells total ct' [] false)) (set5 b none (set5 b (some (.cells cnt ct [] true)) (dels olds H)))

/-- What append puts in where it is told how many zeros. -/
def aZeros (P : Program) (elem : TypeId) (size : Nat) (x : AVal) : Option (Nat × List AVal) :=
  match x, zeroL P elem with
  | .int .i64 (.ofNat n), some z => match Nat.ble (Nat.mul n size) 4096, Nat.ble n 4096 with
    | true, true => some (n, repL z n)
    | _, _ => none
  | _, _ => none

def isInt : TypeDesc → Bool
  | .int _ => true
  | _ => false

def aAppend (P : Program) (elem : TypeId) (H : Heap) (nx : Nat) (s : AVal) (src : Nat → Option (Nat × List AVal)) : Option ARes :=
  match zeroL P elem, P.info? elem with
  | some _, some e =>
    match src e.size, Nat.beq e.size 0, Nat.ble (Nat.succ nx) 1048576 with
    | some (0, _), false, true => match s with
      | .nilSlice => some (.val .nilSlice H nx)
      | .slice b off len esz full => some (.val (.slice b off len esz full) H nx)
      | _ => none
    | some (Nat.succ n', new), false, true => match s with
      | .nilSlice => match Nat.ble (Nat.mul (Nat.succ n') e.size) 4096, Nat.ble (Nat.mul (Nat.succ n') e.bytes) 140737488355328 with
        | true, true => forceN nx fun b' => forceN (Nat.mul (Nat.succ n') e.size) fun total =>
            some (.val (.slice b' 0 (Nat.succ n') e.size false) (set5 b' (some (.cells total (CT.ofL total new) [] false)) H) (Nat.succ b'))
        | _, _ => none
      | .slice b off len esz full => match get5 b H, Nat.beq esz e.size, Nat.ble (Nat.mul (Nat.add len (Nat.succ n')) e.size) 4096, Nat.ble (Nat.mul (Nat.add len (Nat.succ n')) e.bytes) 140737488355328 with
        | some (.cells cnt ct olds sup), true, true, true => match Nat.ble (Nat.add off (Nat.mul len e.size)) cnt, full with
          | true, true => forceN nx fun b' => forceN (Nat.mul (Nat.add len (Nat.succ n')) e.size) fun total => forceN (Nat.add len (Nat.succ n')) fun m =>
              some (.val (.slice b' 0 m e.size false) (set5 b' (some (.cells total (CT.ofL total (CT.slab ct (Nat.mul len e.size) off ++ new)) [] false)) H) (Nat.succ b'))
          | true, false => match off, sup with
            | 0, false => forceN nx fun b' => forceN (Nat.mul (Nat.add len (Nat.succ n')) e.size) fun total => forceN (Nat.add len (Nat.succ n')) fun m =>
                some (.val (.slice b' 0 m e.size false) (grown b cnt ct olds (Nat.mul len e.size) H b' total (CT.lay new (Nat.mul len e.size) (CT.widen total ct))) (Nat.succ b'))
            | _, _ => none
          | _, _ => none
        | _, _, _, _ => none
      | _ => none
    | _, _, _ => none
  | _, _ => none

/-- The run of an append that finds room. -/
theorem run_append_room {P : Program} {w : World} {sT xT u elem : TypeId} {e : TypeInfo} {d : TypeDesc} {base : Option Addr} {len cap n : Nat} {x' : Value} {l' : List Value}
    (hu : P.underlying sT = some (.slice elem)) (hx : P.underlying xT = some d) (hd : srcD d = true) (he : P.info? elem = some e)
    (hlen : (Builtin.lenOf x').run P w = .ok n w) (hfc : (Builtin.firstCells e.size n x').run P w = .ok ⟨l'⟩ w) (hroom : len + n ≤ cap) :
    (Builtin.append_ #[sT, xT] u #[.slice base len cap, x']).run P w =
      (match base with | some a => (storeCells (a.add (len * e.size)) l').run P w | none => .ok () w).andThen fun _ w' => .ok (.slice base (len + n) cap) w' := by
  cases d <;> first | (cases hd; done) | skip
  all_goals (cases base <;> simp [Builtin.append_, run_underlying' hu, run_underlying' hx, run_sizeOf' he, hlen, hroom, hfc])

/-- The run of an append that finds none. -/
theorem run_append_grow' {P : Program} {w : World} {sT xT u elem : TypeId} {e : TypeInfo} {z : Value} {d : TypeDesc} {base : Option Addr} {len cap n : Nat} {x' : Value} {l' o' : List Value}
    (hu : P.underlying sT = some (.slice elem)) (hx : P.underlying xT = some d) (hd : srcD d = true) (he : P.info? elem = some e) (hz : e.zero = some z)
    (hlen : (Builtin.lenOf x').run P w = .ok n w) (hfc : (Builtin.firstCells e.size n x').run P w.drew = .ok ⟨l'⟩ w.drew)
    (hold : (Builtin.firstCells e.size len (.slice base len cap)).run P w.drew = .ok ⟨o'⟩ w.drew) (hroom : cap < len + n) (hb : (len + n) * e.bytes ≤ 140737488355328) (h4 : len + n ≤ 4096) :
    ∃ c, len + n ≤ c ∧ (Builtin.append_ #[sT, xT] u #[.slice base len cap, x']).run P w =
      .ok (.slice (some (at' w.heap.size 0)) (len + n) c) (w.drew.alloc (.cells (⟨o'⟩ ++ ⟨l'⟩ ++ Builtin.zeroCells z.cells (c - (len + n))) elem)) := by
  have hn : ¬ (len + n ≤ cap) := by omega
  have h63 : ¬ (9223372036854775807 < ((len : Int) + (n : Int))) := by omega
  have h48 : ¬ (281474976710656 < Builtin.nextslicecap (len + n) cap * e.bytes) := by have := growslice_fits hroom hb; omega
  refine ⟨(Question.appendCap (len + n) cap elem).cut (w.tape w.drawn (.appendCap (len + n) cap elem)), by simp [Question.cut], ?_⟩
  cases d <;> first | (cases hd; done) | skip
  all_goals (simp [Builtin.append_, run_underlying' hu, run_underlying' hx, run_sizeOf' he, run_typeInfo' he, run_zeroValue' he hz, hlen, hn, h63, h48, Question.forced, hfc, hold, newRow]; congr 2; apply Array.ext'; simp)

/-- What a run of append with this second argument is, where there is room. -/
def RoomRun (P : Program) (w : World) (sT xT : TypeId) (e : TypeInfo) (x' : Value) (n : Nat) (l' : List Value) : Prop :=
  n * e.bytes ≤ 140737488355328 → ∀ (u : TypeId) (base : Option Addr) (len cap : Nat), len + n ≤ cap →
    (Builtin.append_ #[sT, xT] u #[.slice base len cap, x']).run P w =
      (match base with | some a => (storeCells (a.add (len * e.size)) l').run P w | none => .ok () w).andThen fun _ w' => .ok (.slice base (len + n) cap) w'

/-- And where there is none. -/
def GrowRun (P : Program) (w : World) (sT xT elem : TypeId) (e : TypeInfo) (z : Value) (x' : Value) (n : Nat) (l' : List Value) : Prop :=
  ∀ (u : TypeId) (base : Option Addr) (len cap : Nat) (o' : List Value), (Builtin.firstCells e.size len (.slice base len cap)).run P w.drew = .ok ⟨o'⟩ w.drew → cap < len + n → (len + n) * e.bytes ≤ 140737488355328 → len + n ≤ 4096 →
    ∃ c, len + n ≤ c ∧ (Builtin.append_ #[sT, xT] u #[.slice base len cap, x']).run P w =
      .ok (.slice (some (at' w.heap.size 0)) (len + n) c) (w.drew.alloc (.cells (⟨o'⟩ ++ ⟨l'⟩ ++ Builtin.zeroCells z.cells (c - (len + n))) elem))

theorem room_src {P : Program} {w : World} {sT xT elem : TypeId} {e : TypeInfo} {d : TypeDesc} {n : Nat} {x' : Value} {l' : List Value}
    (hu : P.underlying sT = some (.slice elem)) (hx : P.underlying xT = some d) (hd : srcD d = true) (he : P.info? elem = some e)
    (hlen : (Builtin.lenOf x').run P w = .ok n w) (hfc : (Builtin.firstCells e.size n x').run P w = .ok ⟨l'⟩ w) : RoomRun P w sT xT e x' n l' :=
  fun _ _ _ _ _ hroom => run_append_room hu hx hd he hlen hfc hroom

theorem grow_src {P : Program} {w : World} {sT xT elem : TypeId} {e : TypeInfo} {z : Value} {d : TypeDesc} {n : Nat} {x' : Value} {l' : List Value}
    (hu : P.underlying sT = some (.slice elem)) (hx : P.underlying xT = some d) (hd : srcD d = true) (he : P.info? elem = some e) (hz : e.zero = some z)
    (hlen : (Builtin.lenOf x').run P w = .ok n w) (hfc : (Builtin.firstCells e.size n x').run P w.drew = .ok ⟨l'⟩ w.drew) : GrowRun P w sT xT elem e z x' n l' :=
  fun _ _ _ _ _ hold hroom hb h4 => run_append_grow' hu hx hd he hz hlen hfc hold hroom hb h4

theorem wrap_small {n : Nat} (h : n ≤ 4096) : IntKind.i64.wrap (n : Int) = (n : Int) := by
  have h1 : ((n : Int) % 2 ^ 64) = (n : Int) := by omega
  simp only [IntKind.wrap, IntKind.signed, IntKind.bits, h1]
  rw [if_neg (by simp; omega)]

theorem run_small {P : Program} {w : World} {n : Nat} : (asIntOf (.int .i64 (n : Int))).run P w = .ok (.i64, (n : Int)) w := rfl

theorem room_zeros {P : Program} {w : World} {sT xT elem : TypeId} {e : TypeInfo} {z : Value} {k : IntKind} {n : Nat}
    (hu : P.underlying sT = some (.slice elem)) (hx : P.underlying xT = some (.int k)) (he : P.info? elem = some e) (hz : e.zero = some z) (hzs : z.cells.size = e.size) (hn : n ≤ 4096) :
    RoomRun P w sT xT e (.int .i64 (n : Int)) n (Builtin.zeroCells z.cells n).toList := by
  intro hb u base len cap hroom
  have hwr := wrap_small hn
  have h1 : ¬ ((n : Int) < 0) := by omega
  have h2 : ¬ (281474976710656 < (n : Int) * (e.bytes : Int)) := by omega
  by_cases h0 : n * e.size = 0
  · have e0 : Builtin.zeroCells z.cells n = #[] := by apply Array.eq_empty_of_size_eq_zero; simp [Builtin.zeroCells, hzs, h0]
    cases base <;> simp [Builtin.append_, run_underlying' hu, run_underlying' hx, run_sizeOf' he, run_typeInfo' he, asInt, run_small, hwr, h1, h2, hroom, h0, e0]
  · cases base <;> simp [Builtin.append_, run_underlying' hu, run_underlying' hx, run_sizeOf' he, run_typeInfo' he, run_zeroValue' he hz, asInt, run_small, hwr, h1, h2, hroom, h0]

theorem grow_zeros {P : Program} {w : World} {sT xT elem : TypeId} {e : TypeInfo} {z : Value} {k : IntKind} {n : Nat}
    (hu : P.underlying sT = some (.slice elem)) (hx : P.underlying xT = some (.int k)) (he : P.info? elem = some e) (hz : e.zero = some z) (hzs : z.cells.size = e.size) (hn : n ≤ 4096) :
    GrowRun P w sT xT elem e z (.int .i64 (n : Int)) n (Builtin.zeroCells z.cells n).toList := by
  intro u base len cap o' hold hroom hb h4
  have hwr := wrap_small hn
  have h1 : ¬ ((n : Int) < 0) := by omega
  have h2 : ¬ (281474976710656 < (n : Int) * (e.bytes : Int)) := by
    have : n * e.bytes ≤ (len + n) * e.bytes := Nat.mul_le_mul_right _ (by omega)
    omega
  have hn' : ¬ (len + n ≤ cap) := by omega
  have h63 : ¬ (9223372036854775807 < ((len : Int) + (n : Int))) := by omega
  have h48 : ¬ (281474976710656 < Builtin.nextslicecap (len + n) cap * e.bytes) := by have := growslice_fits hroom hb; omega
  refine ⟨(Question.appendCap (len + n) cap elem).cut (w.tape w.drawn (.appendCap (len + n) cap elem)), by simp [Question.cut], ?_⟩
  by_cases h0 : n * e.size = 0
  · have e0 : Builtin.zeroCells z.cells n = #[] := by apply Array.eq_empty_of_size_eq_zero; simp [Builtin.zeroCells, hzs, h0]
    simp [Builtin.append_, run_underlying' hu, run_underlying' hx, run_sizeOf' he, run_typeInfo' he, run_zeroValue' he hz, asInt, run_small, hwr, h1, h2, hn', h63, h48, Question.forced, hold, newRow, e0]
  · simp [Builtin.append_, run_underlying' hu, run_underlying' hx, run_sizeOf' he, run_typeInfo' he, run_zeroValue' he hz, asInt, run_small, hwr, h1, h2, hn', h63, h48, Question.forced, hold, newRow, h0]

theorem aZeros_ok {P : Program} {σ : Sg} {elem : TypeId} {e : TypeInfo} {z : Value} {x : AVal} {n : Nat} {l : List AVal} (he : P.info? elem = some e) (hz : e.zero = some z) (h : aZeros P elem e.size x = some (n, l)) :
    ∃ m : Nat, x = .int .i64 (.ofNat m) ∧ m = n ∧ n ≤ 4096 ∧ DenL σ l (Builtin.zeroCells z.cells n).toList ∧ l.length = n * e.size := by
  unfold aZeros at h
  split at h <;> first | (cases h; done) | skip
  rename_i m zl hzl
  split at h <;> first | (cases h; done) | skip
  rename_i h1 h2
  cases h
  obtain ⟨i, zv, hi, hzv, rfl, hsz⟩ := zeroL_ok hzl
  rw [he] at hi
  cases hi
  rw [hz] at hzv
  cases hzv
  have hd : DenL σ (repL (z.cells.toList.map ofCell) n) (repV z.cells.toList n) := repL_den (denL_ofCell σ _) n
  refine ⟨n, rfl, rfl, Nat.le_of_ble_eq_true h2, ?_, ?_⟩
  · show DenL σ _ ((Array.range (n * z.cells.size)).map (z.cells[· % z.cells.size]!)).toList
    rw [repV_eq]
    exact hd
  · rw [repL_length, List.length_map, Array.length_toList, hsz]

theorem aAppend_val {P : Program} {elem : TypeId} {H : Heap} {nx : Nat} {s : AVal} {src : Nat → Option (Nat × List AVal)} {r : ARes} (h : aAppend P elem H nx s src = some r) : ∃ v H' nx', r = .val v H' nx' := by
  unfold aAppend at h
  split at h <;> first | (cases h; done) | skip
  split at h <;> first | (cases h; done) | skip
  · split at h <;> first | (cases h; done) | (cases h; exact ⟨_, _, _, rfl⟩)
  · split at h <;> first | (cases h; done) | skip
    · split at h <;> first | (cases h; done) | (rw [forceN_eq, forceN_eq] at h; cases h; exact ⟨_, _, _, rfl⟩)
    · split at h <;> first | (cases h; done) | skip
      split at h <;> first | (cases h; done) | skip
      · rw [forceN_eq, forceN_eq, forceN_eq] at h; cases h; exact ⟨_, _, _, rfl⟩
      · split at h <;> first | (cases h; done) | (rw [forceN_eq, forceN_eq, forceN_eq] at h; cases h; exact ⟨_, _, _, rfl⟩)

/-- The state that has one more number. -/
theorem Ext.more {σ : Sg} {H H' : Heap} {nx cb sz : Nat} {w w' : World} (h : Rel σ H nx w) (hp : ∀ c, c < nx → σ c = none → get5 c H' = get5 c H) (hr : w.heap.size ≤ cb ∨ ∃ b s, σ b = some (cb, s))
    (h1 : w'.os = w.os) (h2 : w'.tape = w.tape) (h3 : w'.output = w.output) (h4 : w.heap.size ≤ w'.heap.size) (h5 : ∀ i, i < w.heap.size → (∀ b s, σ b ≠ some (i, s)) → w'.heap[i]? = w.heap[i]?) :
    Ext σ (upd σ nx (cb, sz)) H H' nx (nx + 1) w w' := by
  have hb : σ nx = none := by
    cases e : σ nx with
    | none => rfl
    | some p => obtain ⟨cb, s⟩ := p; have := (h.dom nx cb s e).1; omega
  refine ⟨upd_sub hb, ?_, ?_, by omega, h1, h2, h3, h4, h5⟩
  · intro c x s e hlt
    rcases upd_inv e with ⟨rfl, q⟩ | ⟨_, q⟩
    · cases q
      rcases hr with hr | ⟨b, s', hr⟩
      · omega
      · exact ⟨b, s', hr⟩
    · exact ⟨c, s, q⟩
  · intro c hc hn
    refine ⟨?_, hp c hc hn⟩
    unfold upd
    rw [if_neg (by omega)]
    exact hn

/-- The cells of a new array that is longer than what is known of it. -/
theorem Rel.realloc {σ : Sg} {H : Heap} {nx total : Nat} {w : World} {ct : CT} {os : List Nat} {l : List AVal} {l' : List Value} {rest : Array Value} {t : TypeId} (h : Rel σ H nx w) (hx : nx < 1048576)
    (hos : ∀ c, c ∈ os → (∃ p, σ c = some p) ∧ ∀ o, get5 c H = some o → o.sup = true) (hl : DenL σ l l') (hlen : l.length = total) (hcap : total ≤ ct.cap) (hg : ∀ i, i < total → ct.get i = l.getD i .und) :
    Rel (upd σ nx (w.heap.size, total + rest.size)) (set5 nx (some (.cells total ct os false)) H) (nx + 1) (w.drew.alloc (.cells (⟨l'⟩ ++ rest) t)) := by
  have hb : σ nx = none := by
    cases e : σ nx with
    | none => rfl
    | some p => obtain ⟨cb, s⟩ := p; have := (h.dom nx cb s e).1; omega
  have newb : (w.drew.alloc (.cells (⟨l'⟩ ++ rest) t)).heap[w.heap.size]? = some (.cells (⟨l'⟩ ++ rest) t) := by
    show (w.heap.push _)[w.heap.size]? = _
    simp
  have newc : ∀ i, (w.drew.alloc (.cells (⟨l'⟩ ++ rest) t)).cell? (at' w.heap.size i) = ((⟨l'⟩ : Array Value) ++ rest)[i]? := by
    intro i
    unfold World.cell?
    rw [newb]
    rfl
  have hll := hl.length
  refine h.share hx (w' := w.drew.alloc (.cells (⟨l'⟩ ++ rest) t)) (cb := w.heap.size) (sz := total + rest.size) (by simp) (by simp) ?_ hos ?_ ⟨Nat.le_add_right _ _, hcap, ?_, ?_⟩ (fun h => absurd h (Nat.lt_irrefl _))
  · intro i hi _
    show (w.heap.push _)[i]? = _
    rw [Array.getElem?_push, if_neg (by omega)]
  · intro c o s _ e
    have := (h.dom c _ s e).2
    omega
  · intro i hi
    refine ⟨?_, ?_⟩
    · unfold World.frozen?
      rw [newb]
      simp
    · rw [newc]
      exact ⟨_, Array.getElem?_eq_getElem (by simp; omega)⟩
  · intro i hi
    have hlt : i < l.length := by omega
    obtain ⟨v', e, d⟩ := hl.get i l[i] (by simp [List.getElem?_eq_getElem hlt])
    refine ⟨v', ?_, ?_⟩
    · rw [newc, Array.getElem?_append_left (by simp; omega)]
      simpa using e
    · rw [hg i hi]
      have := d.mono (upd_sub (p := (w.heap.size, total + rest.size)) hb)
      simpa [List.getD, List.getElem?_eq_getElem hlt] using this

theorem Ext.realloc {σ : Sg} {H H' : Heap} {nx sz : Nat} {w : World} {o : Obj} (h : Rel σ H nx w) (hp : ∀ c, c < nx → σ c = none → get5 c H' = get5 c H) :
    Ext σ (upd σ nx (w.heap.size, sz)) H H' nx (nx + 1) w (w.drew.alloc o) :=
  Ext.more h hp (.inl (Nat.le_refl _)) rfl rfl rfl (by simp) (fun i hi _ => by
    show (w.heap.push _)[i]? = _
    rw [Array.getElem?_push, if_neg (by omega)])

/-- The block of an append that may have found room. -/
theorem Rel.inplace {σ : Sg} {H : Heap} {nx total cb sz k : Nat} {w : World} {ct : CT} {os : List Nat} {l : List AVal} {l' : List Value} (h : Rel σ H nx w) (hx : nx < 1048576) (hcb : cb < w.heap.size) (hrng : ∃ b' sz', σ b' = some (cb, sz'))
    (hos : ∀ c, c ∈ os → (∃ p, σ c = some p) ∧ ∀ o, get5 c H = some o → o.sup = true)
    (hal : ∀ c o s, get5 c H = some o → σ c = some (cb, s) → c ∈ os ∧ ∃ n cc oo sp, o = .cells n cc oo sp ∧ n ≤ k)
    (hl : DenL σ l l') (hlen : k + l.length = total) (hsz : total ≤ sz) (hcap : total ≤ ct.cap)
    (hfz : ∀ i, i < sz → w.frozen? (at' cb i) = false ∧ ∃ v, w.cell? (at' cb i) = some v)
    (hold : ∀ i, i < k → ∃ v', w.cell? (at' cb i) = some v' ∧ Den σ (ct.get i) v') (hnew : ∀ i, i < l.length → ct.get (k + i) = l.getD i .und) :
    Rel (upd σ nx (cb, sz)) (set5 nx (some (.cells total ct os false)) H) (nx + 1) (setCells w cb k l') := by
  have hb : σ nx = none := by
    cases e : σ nx with
    | none => rfl
    | some p => obtain ⟨cb, s⟩ := p; have := (h.dom nx cb s e).1; omega
  have hll := hl.length
  obtain ⟨r1, r2, r3, r4⟩ := setCells_rest l' w cb k
  have hcell := setCells_cell l' w cb k
  have hex : ∀ j, k ≤ j → j < k + l'.length → ∃ v, w.cell? (at' cb j) = some v := fun j _ hj => (hfz j (by omega)).2
  have sub := upd_sub (p := (cb, sz)) hb
  refine h.share hx (w' := setCells w cb k l') (by rw [r4]; exact hcb) (by rw [r4]; exact Nat.le_refl _) (fun i _ hne => setCells_block l' w cb k i hne) hos ?_ ⟨hsz, hcap, ?_, ?_⟩ (fun _ => hrng)
  · intro c o s e1 e2
    obtain ⟨hm, n, cc, oo, sp, rfl, hn⟩ := hal c o s e1 e2
    refine ⟨hm, ?_⟩
    obtain ⟨a1, a2, a3, a4⟩ := h.obj c _ cb s e1 e2
    refine ⟨a1, a2, ?_, ?_⟩
    · intro i hi
      rw [setCells_frozen, hcell i hex]
      refine ⟨(a3 i hi).1, ?_⟩
      by_cases hin : k ≤ i ∧ i < k + l'.length
      · rw [if_pos hin]; exact ⟨_, List.getElem?_eq_getElem (show i - k < l'.length by omega)⟩
      · rw [if_neg hin]; exact (a3 i hi).2
    · intro i hi
      rw [hcell i hex, if_neg (by omega)]
      exact a4 i hi
  · intro i hi
    rw [setCells_frozen, hcell i hex]
    refine ⟨(hfz i hi).1, ?_⟩
    by_cases hin : k ≤ i ∧ i < k + l'.length
    · rw [if_pos hin]; exact ⟨_, List.getElem?_eq_getElem (show i - k < l'.length by omega)⟩
    · rw [if_neg hin]; exact (hfz i hi).2
  · intro i hi
    rw [hcell i hex]
    by_cases hin : k ≤ i ∧ i < k + l'.length
    · rw [if_pos hin]
      have hlt : i - k < l.length := by omega
      obtain ⟨v', e, d⟩ := hl.get (i - k) l[i - k] (by simp [List.getElem?_eq_getElem hlt])
      refine ⟨v', e, ?_⟩
      have hg := hnew (i - k) hlt
      rw [show k + (i - k) = i by omega] at hg
      rw [hg]
      have := d.mono sub
      simpa [List.getD, List.getElem?_eq_getElem hlt] using this
    · rw [if_neg hin]
      obtain ⟨v', e, d⟩ := hold i (by omega)
      exact ⟨v', e, d.mono sub⟩

theorem zero_size {z : Array Value} {n : Nat} : (Builtin.zeroCells z n).size = n * z.size := by simp [Builtin.zeroCells]

set_option maxHeartbeats 2000000 in
theorem aAppend_ok {P : Program} {σ : Sg} {H H' : Heap} {nx nx' : Nat} {w : World} {sT xT u elem : TypeId} {s v : AVal} {s' x' : Value} {src : Nat → Option (Nat × List AVal)} (hr : Rel σ H nx w) (ds : Den σ s s')
    (hs : ∀ n l e z, P.info? elem = some e → e.zero = some z → z.cells.size = e.size → src e.size = some (n, l) → l.length = n * e.size ∧ allCell l = true ∧ (∃ l', DenL σ l l' ∧ RoomRun P w sT xT e x' n l') ∧ ∃ l', DenL σ l l' ∧ GrowRun P w sT xT elem e z x' n l')
    (h : aAppend P elem H nx s src = some (.val v H' nx')) :
    ∃ σ' w' v', Rel σ' H' nx' w' ∧ Ext σ σ' H H' nx nx' w w' ∧ Den σ' v v' ∧ (Builtin.append_ #[sT, xT] u #[s', x']).run P w = .ok v' w' := by
  unfold aAppend at h
  split at h <;> first | (cases h; done) | skip
  rename_i zl e hzl he
  obtain ⟨e0, z, he0, hz, _, hzs⟩ := zeroL_ok hzl
  rw [he] at he0
  cases he0
  split at h <;> first | (cases h; done) | skip
  · -- nothing is appended
    rename_i l hsrc h0 hn
    obtain ⟨hll, _, ⟨l', hl, hroomr⟩, _⟩ := hs _ _ _ _ he hz hzs hsrc
    have l0 : l' = [] := by
      have := hl.length
      rw [hll, Nat.zero_mul] at this
      cases l' with
      | nil => rfl
      | cons _ _ => simp at this
    subst l0
    split at h <;> first | (cases h; done) | skip
    · cases h
      cases ds
      have hrun := hroomr (by simp) u none 0 0 (by omega)
      exact ⟨σ, w, _, hr, Ext.refl _ _ _ _, .nilSlice, hrun⟩
    · rename_i b off len esz full
      cases h
      refine ⟨σ, w, s', hr, Ext.refl _ _ _ _, ds, ?_⟩
      cases ds with
      | @slice _ _ _ _ cb sz cap _ hb h1 h2 h3 => exact hroomr (by simp) u (some _) len cap (by omega)
      | slice0 hb => exact hroomr (by simp) u (some _) 0 0 (by omega)
  · rename_i n' new hsrc h0 hn
    have hn' := Nat.le_of_ble_eq_true hn
    have hnx : nx < 1048576 := by omega
    obtain ⟨hll, hcell, ⟨l', hl, hroomr⟩, l2, hl2, hgrow⟩ := hs _ _ _ _ he hz hzs hsrc
    have hone := allCell_ok hcell hl
    have hnone : ∀ c, c < nx → σ c = none → ∀ o, get5 c (set5 nx o H) = get5 c H := fun c hc _ o => get5_ne (by omega) hnx (by omega)
    split at h <;> first | (cases h; done) | skip
    · -- onto nil
      split at h <;> first | (cases h; done) | skip
      rename_i h1 h2
      have h1' : (n' + 1) * e.size ≤ 4096 := Nat.le_of_ble_eq_true h1
      have h2' : (n' + 1) * e.bytes ≤ 140737488355328 := Nat.le_of_ble_eq_true h2
      have hsz0 : e.size ≠ 0 := fun q => by rw [q] at h0; cases h0
      have hn4 : n' + 1 ≤ 4096 := Nat.le_trans (Nat.le_mul_of_pos_right _ (by omega)) h1'
      rw [forceN_eq, forceN_eq] at h
      cases h
      cases ds
      obtain ⟨c, hc, hrun⟩ := hgrow u none 0 0 [] (by simp [Builtin.firstCells]) (by omega) (by simpa using h2') (by omega)
      simp only [Nat.zero_add] at hc hrun
      have hll' : new.length = (n' + 1) * e.size := hll
      have R := hr.realloc (os := []) (rest := Builtin.zeroCells z.cells (c - (n' + 1))) (t := elem) hnx (fun c hc => by cases hc) hl2 hll' (CT.ofL_cap _ _ h1') (fun i hi => CT.get_ofL _ _ i h1' hi)
      refine ⟨_, _, .slice (some (at' w.heap.size 0)) (n' + 1) c, R, Ext.realloc hr (fun c hc hcn => hnone c hc hcn _), ?_, ?_⟩
      · refine Den.slice (cap := c) (sz := (n' + 1) * e.size + (Builtin.zeroCells z.cells (c - (n' + 1))).size) (by simp [upd]) (by omega) ?_ (fun q => by cases q)
        rw [zero_size, hzs, ← Nat.add_mul, Nat.zero_add]
        exact Nat.mul_le_mul_right _ (by omega)
      · rw [hrun]
        simp
    · rename_i b off len esz full
      split at h <;> first | (cases h; done) | skip
      rename_i cnt ct olds sup hblk hesz h1 h2
      have hesz' := Nat.eq_of_beq_eq_true hesz
      subst hesz'
      have h1' : (len + (n' + 1)) * e.size ≤ 4096 := Nat.le_of_ble_eq_true h1
      have h2' : (len + (n' + 1)) * e.bytes ≤ 140737488355328 := Nat.le_of_ble_eq_true h2
      have hsz0 : e.size ≠ 0 := fun q => by rw [q] at h0; cases h0
      have hn4 : len + (n' + 1) ≤ 4096 := Nat.le_trans (Nat.le_mul_of_pos_right _ (by omega)) h1'
      have hll' : new.length = (n' + 1) * e.size := hll
      split at h <;> first | (cases h; done) | skip
      · -- no room
        rename_i hk
        have hk' : off + len * e.size ≤ cnt := Nat.le_of_ble_eq_true hk
        rw [forceN_eq, forceN_eq, forceN_eq] at h
        cases h
        have key : ∀ cb sz o', σ b = some (cb, sz) → DenL σ (CT.slab ct (len * e.size) off) o' →
            (Builtin.firstCells e.size len (s')).run P w.drew = .ok ⟨o'⟩ w.drew → s' = .slice (some (at' cb off)) len len ∨ (len = 0 ∧ ∃ off', s' = .slice (some (at' cb off')) 0 0) →
            ∃ σ' w' v', Rel σ' (set5 nx (some (.cells (Nat.mul (Nat.add len (Nat.succ n')) e.size) (CT.ofL (Nat.mul (Nat.add len (Nat.succ n')) e.size) (CT.slab ct (Nat.mul len e.size) off ++ new)) [] false)) H) (nx + 1) w' ∧
              Ext σ σ' H (set5 nx (some (.cells (Nat.mul (Nat.add len (Nat.succ n')) e.size) (CT.ofL (Nat.mul (Nat.add len (Nat.succ n')) e.size) (CT.slab ct (Nat.mul len e.size) off ++ new)) [] false)) H) nx (nx + 1) w w' ∧
              Den σ' (.slice nx 0 (Nat.add len (Nat.succ n')) e.size false) v' ∧ (Builtin.append_ #[sT, xT] u #[s', x']).run P w = .ok v' w' := by
          intro cb sz o' hb ho hfo hs
          have hall : DenL σ (CT.slab ct (len * e.size) off ++ new) (o' ++ l2) := ho.append hl2
          have hlen2 : (CT.slab ct (len * e.size) off ++ new).length = (len + (n' + 1)) * e.size := by rw [List.length_append, CT.slab_length, hll', Nat.add_mul len (n' + 1) e.size]
          have fin : ∀ base cap, s' = .slice base len cap → cap = len → ∃ c, len + (n' + 1) ≤ c ∧ (Builtin.append_ #[sT, xT] u #[s', x']).run P w =
              .ok (.slice (some (at' w.heap.size 0)) (len + (n' + 1)) c) (w.drew.alloc (.cells (⟨o'⟩ ++ ⟨l2⟩ ++ Builtin.zeroCells z.cells (c - (len + (n' + 1)))) elem)) := by
            intro base cap hs hc
            rw [hs] at hfo ⊢
            exact hgrow u base len cap _ hfo (by omega) h2' hn4
          obtain ⟨c, hc, hrun⟩ : ∃ c, len + (n' + 1) ≤ c ∧ (Builtin.append_ #[sT, xT] u #[s', x']).run P w =
              .ok (.slice (some (at' w.heap.size 0)) (len + (n' + 1)) c) (w.drew.alloc (.cells (⟨o'⟩ ++ ⟨l2⟩ ++ Builtin.zeroCells z.cells (c - (len + (n' + 1)))) elem)) := by
            rcases hs with hs | ⟨h0, off', hs⟩
            · exact fin _ _ hs rfl
            · subst h0; exact fin _ _ hs rfl
          have R := hr.realloc (os := []) (rest := Builtin.zeroCells z.cells (c - (len + (n' + 1)))) (t := elem) hnx (fun c hc => by cases hc) hall hlen2 (CT.ofL_cap _ _ h1') (fun i hi => CT.get_ofL _ _ i h1' hi)
          refine ⟨_, _, .slice (some (at' w.heap.size 0)) (len + (n' + 1)) c, R, Ext.realloc hr (fun c hc hcn => hnone c hc hcn _), ?_, ?_⟩
          · refine Den.slice (cap := c) (sz := (len + (n' + 1)) * e.size + (Builtin.zeroCells z.cells (c - (len + (n' + 1)))).size) (by simp [upd]) hc ?_ (fun q => by cases q)
            rw [zero_size, hzs, ← Nat.add_mul, Nat.zero_add]
            exact Nat.mul_le_mul_right _ (by omega)
          · rw [hrun]
            simp
        cases ds with
        | @slice _ _ _ _ cb sz cap _ hb g1 g2 g3 =>
          have hcl := g3 rfl
          obtain ⟨o', _, ho, _, hfo⟩ := load_slab hr.drew hblk hb P off (len * e.size) hk'
          exact key cb sz o' hb ho hfo (.inl (by rw [hcl]))
        | @slice0 _ _ off' _ cb sz _ hb =>
          obtain ⟨o', hol, ho, _, _⟩ := load_slab hr.drew hblk hb P off (0 * e.size) hk'
          have o0 : o' = [] := by
            cases o' with
            | nil => rfl
            | cons _ _ => simp at hol
          subst o0
          exact key cb sz [] hb ho (by simp [Builtin.firstCells, loadCells, loadCellsFrom]) (.inr ⟨rfl, off', rfl⟩)
      · -- perhaps
        rename_i hk
        split at h <;> first | (cases h; done) | skip
        have hk' : 0 + len * e.size ≤ cnt := Nat.le_of_ble_eq_true hk
        rw [forceN_eq, forceN_eq, forceN_eq] at h
        have hk2 : len * e.size ≤ cnt := by omega
        cases hbb : σ b with
        | none =>
          exfalso
          cases ds with
          | slice hb _ _ _ => rw [hbb] at hb; cases hb
          | slice0 hb => rw [hbb] at hb; cases hb
        | some p =>
        obtain ⟨cb, sz⟩ := p
        obtain ⟨D1, D2, D3⟩ := hr.demote hbb hblk
        have bn : b < 1048576 := by have := (hr.dom b cb sz hbb).1; have := hr.lim; omega
        have blt : b < nx := (hr.dom b cb sz hbb).1
        have cbl := (hr.dom b cb sz hbb).2
        obtain ⟨o1, o2, o3, o4⟩ := hr.obj b _ cb sz hblk hbb
        have htot : len * e.size + new.length = (len + (n' + 1)) * e.size := by rw [hll', Nat.add_mul len (n' + 1) e.size]
        have hwc := CT.widen_cap ((len + (n' + 1)) * e.size) ct h1'
        -- the cells of the longer block
        have hget1 : ∀ i, i < len * e.size → CT.get i (CT.lay new (len * e.size) (CT.widen ((len + (n' + 1)) * e.size) ct)) = CT.get i ct := by
          intro i hi
          rw [CT.lay_get _ _ _ i (by omega) (by omega), if_neg (by omega), CT.widen_get _ _ i (by omega)]
        have hget2 : ∀ i, i < new.length → CT.get (len * e.size + i) (CT.lay new (len * e.size) (CT.widen ((len + (n' + 1)) * e.size) ct)) = new.getD i .und := by
          intro i hi
          rw [CT.lay_get _ _ _ _ (by omega) (by omega), if_pos (by omega)]
          congr 1
          omega
        have hcap' : (len + (n' + 1)) * e.size ≤ (CT.lay new (len * e.size) (CT.widen ((len + (n' + 1)) * e.size) ct)).cap := by rw [CT.lay_cap]; exact hwc
        -- both forms of the heap
        have both : ∃ (H2 : Heap) (os : List Nat), H' = set5 nx (some (.cells ((len + (n' + 1)) * e.size) (CT.lay new (len * e.size) (CT.widen ((len + (n' + 1)) * e.size) ct)) os false)) H2 ∧ nx' = nx + 1 ∧ v = .slice nx 0 (len + (n' + 1)) e.size false ∧
            Rel σ H2 nx w ∧ (∀ c, c < nx → σ c = none → get5 c H2 = get5 c H) ∧ (∀ c, c ∈ os → (∃ p, σ c = some p) ∧ ∀ o, get5 c H2 = some o → o.sup = true) ∧
            (∀ c o s, get5 c H2 = some o → σ c = some (cb, s) → c ∈ os ∧ ∃ n cc oo sp, o = .cells n cc oo sp ∧ n ≤ len * e.size) := by
          unfold grown at h
          cases hq : Nat.beq (Nat.mul len e.size) cnt with
          | true =>
            rw [hq] at h
            cases h
            have hq' : len * e.size = cnt := Nat.eq_of_beq_eq_true hq
            refine ⟨_, [b], rfl, rfl, rfl, D1, D2, ?_, ?_⟩
            · intro c hc
              simp at hc
              subst hc
              refine ⟨⟨_, hbb⟩, fun o ho => ?_⟩
              rw [get5_set5_same] at ho
              cases ho
              rfl
            · intro c o s e1 e2
              have := D3 c o s e1 e2
              subst this
              rw [get5_set5_same] at e1
              cases e1
              exact ⟨by simp, _, _, _, _, rfl, by omega⟩
          | false =>
            rw [hq] at h
            cases h
            refine ⟨_, [], rfl, rfl, rfl, D1.forget bn, ?_, (fun c hc => by cases hc), ?_⟩
            · intro c hc hcn
              rw [get5_ne (fun q => by subst q; rw [hbb] at hcn; cases hcn) bn (by omega)]
              exact D2 c hc hcn
            · intro c o s e1 e2
              by_cases hcb : b = c
              · subst hcb; rw [get5_set5_same] at e1; cases e1
              · have hcn : c < 1048576 := by have := (hr.dom c cb s e2).1; omega
                rw [get5_ne hcb bn hcn] at e1
                exact absurd (D3 c o s e1 e2).symm hcb
        obtain ⟨H2, os, rfl, rfl, rfl, R2, hp2, hos, hal⟩ := both
        have hpend : ∀ c, c < nx → σ c = none → get5 c (set5 nx (some (.cells ((len + (n' + 1)) * e.size) (CT.lay new (len * e.size) (CT.widen ((len + (n' + 1)) * e.size) ct)) os false)) H2) = get5 c H := by
          intro c hc hcn
          rw [get5_ne (by omega) hnx (by omega)]
          exact hp2 c hc hcn
        -- the two ways
        have grow : ∀ base cap, s' = .slice base len cap → cap < len + (n' + 1) → ∀ o', DenL σ (CT.slab ct (len * e.size) 0) o' → (Builtin.firstCells e.size len s').run P w.drew = .ok ⟨o'⟩ w.drew →
            ∃ σ' w' v', Rel σ' (set5 nx (some (.cells ((len + (n' + 1)) * e.size) (CT.lay new (len * e.size) (CT.widen ((len + (n' + 1)) * e.size) ct)) os false)) H2) (nx + 1) w' ∧
              Ext σ σ' H (set5 nx (some (.cells ((len + (n' + 1)) * e.size) (CT.lay new (len * e.size) (CT.widen ((len + (n' + 1)) * e.size) ct)) os false)) H2) nx (nx + 1) w w' ∧
              Den σ' (.slice nx 0 (len + (n' + 1)) e.size false) v' ∧ (Builtin.append_ #[sT, xT] u #[s', x']).run P w = .ok v' w' := by
          intro base cap hs hcap o' ho hfo
          subst hs
          obtain ⟨c, hc, hrun⟩ := hgrow u base len cap _ hfo hcap h2' hn4
          have hall : DenL σ (CT.slab ct (len * e.size) 0 ++ new) (o' ++ l2) := ho.append hl2
          have hlen2 : (CT.slab ct (len * e.size) 0 ++ new).length = (len + (n' + 1)) * e.size := by rw [List.length_append, CT.slab_length, hll', Nat.add_mul len (n' + 1) e.size]
          have R := R2.realloc (rest := Builtin.zeroCells z.cells (c - (len + (n' + 1)))) (t := elem) hnx hos hall hlen2 hcap' (by
            intro i hi
            by_cases hik : i < len * e.size
            · rw [hget1 i hik]
              have := CT.slab_get ct (len * e.size) 0 i hik
              simp [List.getD, List.getElem?_append_left (show i < (CT.slab ct (len * e.size) 0).length by rw [CT.slab_length]; exact hik), this]
            · have hi2 : i - len * e.size < new.length := by omega
              have := hget2 (i - len * e.size) hi2
              rw [show len * e.size + (i - len * e.size) = i by omega] at this
              rw [this]
              simp only [List.getD]
              rw [List.getElem?_append_right (by rw [CT.slab_length]; omega), CT.slab_length])
          refine ⟨_, _, .slice (some (at' w.heap.size 0)) (len + (n' + 1)) c, R, Ext.realloc hr hpend, ?_, ?_⟩
          · refine Den.slice (cap := c) (sz := (len + (n' + 1)) * e.size + (Builtin.zeroCells z.cells (c - (len + (n' + 1)))).size) (by simp [upd]) hc ?_ (fun q => by cases q)
            rw [zero_size, hzs, ← Nat.add_mul, Nat.zero_add]
            exact Nat.mul_le_mul_right _ (by omega)
          · rw [hrun]
            simp
        cases ds with
        | @slice _ _ _ _ cb' sz' cap _ hb g1 g2 g3 =>
          rw [hbb] at hb
          cases hb
          by_cases hroom : len + (n' + 1) ≤ cap
          · have hle : (len + (n' + 1)) * e.size ≤ sz := Nat.le_trans (Nat.mul_le_mul_right _ hroom) (by omega)
            have hst := run_storeCells (P := P) l' w cb (len * e.size) 0 hone (fun k hk1 hk2 => o3 k (by have := hl.length; omega))
            have hrun := hroomr (Nat.le_trans (Nat.mul_le_mul_right _ (Nat.le_add_left _ _)) h2') u (some (at' cb 0)) len cap hroom
            have hadd : Addr.add (at' cb 0) (len * e.size) = at' cb (len * e.size) := by rw [addr_add, Nat.zero_add]
            simp only [hadd, hst, Result.andThen_ok, Nat.add_zero] at hrun
            have R := R2.inplace (sz := sz) (k := len * e.size) hnx cbl ⟨_, _, hbb⟩ hos hal hl htot hle hcap' o3 (fun i hi => by rw [hget1 i hi]; exact o4 i (by omega)) hget2
            obtain ⟨r1, r2, r3, r4⟩ := setCells_rest l' w cb (len * e.size)
            refine ⟨_, _, .slice (some (at' cb 0)) (len + (n' + 1)) cap, R, Ext.more hr hpend (.inr ⟨b, sz, hbb⟩) r1 r2 r3 (by rw [r4]; exact Nat.le_refl _) (fun i hi hno => setCells_block l' w cb _ i (fun q => by subst q; exact hno b sz hbb)), ?_, hrun⟩
            exact Den.slice (cap := cap) (sz := sz) (by simp [upd]) hroom (by omega) (fun q => by cases q)
          · obtain ⟨o', _, ho, _, hfo⟩ := load_slab hr.drew hblk hbb P 0 (len * e.size) hk'
            exact grow _ cap rfl (by omega) o' ho hfo
        | @slice0 _ _ off' _ cb' sz' _ hb =>
          rw [hbb] at hb
          cases hb
          obtain ⟨o', hol, ho, _, _⟩ := load_slab hr.drew hblk hbb P 0 (0 * e.size) hk'
          have o0 : o' = [] := by
            cases o' with
            | nil => rfl
            | cons _ _ => simp at hol
          subst o0
          exact grow _ 0 rfl (by omega) [] ho (by simp [Builtin.firstCells, loadCells, loadCellsFrom])

end
end Go.Ev
