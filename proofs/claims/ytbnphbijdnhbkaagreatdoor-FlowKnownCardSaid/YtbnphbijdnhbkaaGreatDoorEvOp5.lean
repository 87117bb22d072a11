/-
  Own work. Operations on abstract values, part 5: what is made: structs, arrays, new blocks.
-/
import Derived.Test.YtbnphbijdnhbkaaGreatDoorEvOp4
namespace Go.Ev
variable [GTab]
set_option linter.unusedSectionVars false
noncomputable section

/-! ### Structs and arrays by value -/
def seg (off : Nat) (cs l : List AVal) : List AVal := l.take off ++ cs ++ l.drop (off + cs.length)

def aFill (place : Nat → Option (Nat × Nat)) (ρ : Operand → AVal) (cells : List AVal) : List (Nat × Operand) → Option (List AVal)
  | [] => some cells
  | (i, x) :: rest =>
    match place i, acells (ρ x) with
    | some (off, size), some cs => match Nat.beq cs.length size, Nat.ble (Nat.add off size) cells.length with
      | true, true => aFill place ρ (seg off cs cells) rest
      | _, _ => none
    | _, _ => none

theorem set_fold : ∀ (xs : List Value) (k off : Nat) (A : Array Value), off + k + xs.length ≤ A.size →
    ((xs.zipIdx k).foldl (fun (cs : Array Value) (p : Value × Nat) => cs.setIfInBounds (off + p.2) p.1) A).toList = A.toList.take (off + k) ++ xs ++ A.toList.drop (off + k + xs.length)
  | [], k, off, A, h => by simp
  | x :: xs, k, off, A, h => by
    simp only [List.zipIdx_cons, List.foldl_cons, List.length_cons] at h ⊢
    rw [set_fold xs (k + 1) off _ (by simp; omega)]
    simp only [Array.toList_setIfInBounds]
    have hlt : off + k < A.toList.length := by simp; omega
    rw [List.set_eq_take_append_cons_drop, if_pos hlt]
    have e1 : (List.take (off + k) A.toList ++ x :: List.drop (off + k + 1) A.toList).take (off + (k + 1)) = List.take (off + k) A.toList ++ [x] := by
      rw [List.take_append]
      have : (List.take (off + k) A.toList).length = off + k := by simp; omega
      rw [this, List.take_of_length_le (by simp; omega)]
      have : off + (k + 1) - (off + k) = 1 := by omega
      rw [this]; simp
    have e2 : (List.take (off + k) A.toList ++ x :: List.drop (off + k + 1) A.toList).drop (off + (k + 1) + xs.length) = List.drop (off + k + (xs.length + 1)) A.toList := by
      rw [List.drop_append]
      have : (List.take (off + k) A.toList).length = off + k := by simp; omega
      rw [this, List.drop_of_length_le (by simp; omega)]
      have : off + (k + 1) + xs.length - (off + k) = xs.length + 1 := by omega
      rw [this]
      simp [List.drop_drop]
      congr 1
      omega
    rw [e1, e2]
    simp

theorem fill_ok {σ : Sg} {ρ : Operand → AVal} {ρ' : Operand → Value} (hd : ∀ x, Den σ (ρ x) (ρ' x)) (place : Nat → Option (Nat × Nat)) :
    ∀ (parts : List (Nat × Operand)) (zs cs : List AVal) (zs' : List Value), aFill place ρ zs parts = some cs → DenL σ zs zs' →
      ∃ cs', Instr.fill place ⟨zs'⟩ (parts.map fun p => (p.1, ρ' p.2)) = some ⟨cs'⟩ ∧ DenL σ cs cs' ∧ cs.length = zs.length
  | [], zs, cs, zs', h, hz => by cases h; exact ⟨zs', rfl, hz, rfl⟩
  | (i, x) :: rest, zs, cs, zs', h, hz => by
    unfold aFill at h
    split at h <;> first | (cases h; done) | skip
    rename_i off size xs hp hxs
    split at h <;> first | (cases h; done) | skip
    rename_i h1 h2
    have h1' := Nat.eq_of_beq_eq_true h1
    have h2' := Nat.le_of_ble_eq_true h2
    have hx := acells_ok hxs (hd x)
    have hlz := hz.length
    have hlx := hx.length
    have hsz : (ρ' x).cells.size = size := by rw [← h1', hlx]; simp
    have hadd : off + size ≤ zs'.length := by simp at h2'; omega
    have hs : DenL σ (seg off xs zs) (zs'.take off ++ (ρ' x).cells.toList ++ zs'.drop (off + (ρ' x).cells.toList.length)) := by
      unfold seg
      rw [← hlx]
      exact ((hz.take off).append hx).append (hz.drop _)
    have hseg : (seg off xs zs).length = zs.length := by unfold seg; simp; omega
    obtain ⟨cs', e, hc, hlen⟩ := fill_ok hd place rest _ cs _ h hs
    refine ⟨cs', ?_, hc, hlen.trans hseg⟩
    have hfold : (ρ' x).cells.zipIdx.foldl (fun (cs : Array Value) (p : Value × Nat) => cs.setIfInBounds (off + p.2) p.1) ⟨zs'⟩ = ⟨zs'.take off ++ (ρ' x).cells.toList ++ zs'.drop (off + (ρ' x).cells.toList.length)⟩ := by
      apply Array.ext'
      rw [← Array.foldl_toList, Array.toList_zipIdx]
      have := set_fold (ρ' x).cells.toList 0 off ⟨zs'⟩ (by simp; omega)
      simpa using this
    simp only [List.map_cons, Instr.fill, hp]
    have hcond : ¬ ((decide ((ρ' x).cells.size ≠ size) || decide (off + (ρ' x).cells.size > (Array.mk zs').size)) = true) := by
      simp
      omega
    rw [if_neg hcond]
    rw [← e]
    congr 1

theorem parts_map {ρ' : Operand → Value} (ps : Array (Nat × Operand)) : (ps.map fun (i, x) => (i, ρ' x)).toList = ps.toList.map fun p => (p.1, ρ' p.2) := by
  simp

/-- Where the fields of a struct lie. -/
def places (P : Program) : List Field → Option (List (Nat × Nat))
  | [] => some []
  | f :: l => match P.info? f.type, places P l with
    | some i, some r => some ((f.offset, i.size) :: r)
    | _, _ => none

theorem places_run {P : Program} {w : World} : ∀ (l : List Field) (r : List (Nat × Nat)), places P l = some r →
    (l.mapM fun f => do pure (f.offset, ← sizeOf f.type) : Sem (List (Nat × Nat))).run P w = .ok r w
  | [], r, h => by cases h; rfl
  | f :: l, r, h => by
    unfold places at h
    split at h <;> first | (cases h; done) | skip
    rename_i i r' hi hr
    cases h
    have ih := places_run (P := P) (w := w) l r' hr
    simp only [List.mapM_cons, Sem.run_bind, run_sizeOf' hi, Result.andThen_ok, Sem.run_pure, ih]

/-- The cells of the zero value of a type, if they are as many as its size says. -/
def zeroL (P : Program) (t : TypeId) : Option (List AVal) :=
  match P.info? t with
  | some i => match i.zero with
    | some z => match Nat.beq z.cells.toList.length i.size with
      | true => some (z.cells.toList.map ofCell)
      | false => none
    | none => none
  | none => none

theorem zeroL_ok {P : Program} {t : TypeId} {l : List AVal} (h : zeroL P t = some l) : ∃ i z, P.info? t = some i ∧ i.zero = some z ∧ l = z.cells.toList.map ofCell ∧ z.cells.size = i.size := by
  unfold zeroL at h
  split at h <;> first | (cases h; done) | skip
  rename_i i hi
  split at h <;> first | (cases h; done) | skip
  rename_i z hz
  split at h <;> first | (cases h; done) | skip
  rename_i hq
  cases h
  exact ⟨i, z, hi, hz, rfl, by have := Nat.eq_of_beq_eq_true hq; simpa using this⟩

def aBuild (P : Program) (t : TypeId) (parts : Array (Nat × Operand)) (ρ : Operand → AVal) : Option (List AVal) :=
  match zeroL P t, P.underlying t with
  | some z, some (.struct fields) => match places P fields.toList with
    | some pl => aFill (fun i => pl[i]?) ρ z parts.toList
    | none => none
  | some z, some (.array _ elem) => match P.info? elem with
    | some e => aFill (fun i => some (Nat.mul i e.size, e.size)) ρ z parts.toList
    | none => none
  | _, _ => none

def opBuild (P : Program) (t : TypeId) (parts : Array (Nat × Operand)) (ρ : Operand → AVal) (H : Heap) (nx : Nat) : Option ARes :=
  match aBuild P t parts ρ with
  | some cs => some (.val (.agg cs) H nx)
  | none => none

theorem opBuild_ok {P : Program} {o : Oper} {t : TypeId} {parts : Array (Nat × Operand)} {ρ : Operand → AVal} {H : Heap} {nx : Nat} {r : ARes} (ho : o.op = .build t parts)
    (h : opBuild P t parts ρ H nx = some r) : OpOK P o ρ H nx r := by
  unfold opBuild at h
  split at h <;> first | (cases h; done) | skip
  rename_i cs hcs
  cases h
  refine OpOK.pure fun σ w ρ' _ hd => ?_
  unfold aBuild at hcs
  split at hcs <;> first | (cases hcs; done) | skip
  · rename_i z fields hz hu
    split at hcs <;> first | (cases hcs; done) | skip
    rename_i pl hpl
    obtain ⟨i, zv, hi, hzv, rfl, hsz⟩ := zeroL_ok hz
    obtain ⟨cs', e, hc, _⟩ := fill_ok hd (fun i => pl[i]?) parts.toList _ cs zv.cells.toList hcs (denL_ofCell σ _)
    refine ⟨.agg ⟨cs'⟩, .agg hc, ?_⟩
    have hm : (fields.mapM fun f => do pure (f.offset, ← sizeOf f.type) : Sem (Array (Nat × Nat))).run P w = .ok ⟨pl⟩ w := by
      rw [Array.mapM_eq_mapM_toList]
      have := places_run (P := P) (w := w) fields.toList pl hpl
      simp only [Sem.run_map]
      rw [this]
      rfl
    have e' : Instr.fill (fun x => (Array.mk pl)[x]?) zv.cells (parts.map fun (i, x) => (i, ρ' x)).toList = some ⟨cs'⟩ := by
      rw [parts_map, ← e]
      congr 1
      funext x
      simp
    simp only [execOp, ho, Instr.build, Sem.run_bind, Sem.run_pure, Result.andThen_ok, run_zeroValue' hi hzv, run_underlying' hu, hm, e']
  · rename_i z len elem hz hu
    split at hcs <;> first | (cases hcs; done) | skip
    rename_i ei hei
    obtain ⟨i, zv, hi, hzv, rfl, hsz⟩ := zeroL_ok hz
    obtain ⟨cs', e, hc, _⟩ := fill_ok hd (fun i => some (Nat.mul i ei.size, ei.size)) parts.toList _ cs zv.cells.toList hcs (denL_ofCell σ _)
    refine ⟨.agg ⟨cs'⟩, .agg hc, ?_⟩
    have e' : Instr.fill (fun i => some (i * ei.size, ei.size)) zv.cells (parts.map fun (i, x) => (i, ρ' x)).toList = some ⟨cs'⟩ := by
      rw [parts_map, ← e]
      congr 1
    simp only [execOp, ho, Instr.build, Sem.run_bind, Sem.run_pure, Result.andThen_ok, run_zeroValue' hi hzv, run_underlying' hu, run_sizeOf' hei, e']

/-! ### New blocks -/
/-- A block that is made: how many cells, which; what leads to it, once its number is known. -/
structure Made where
  n : Nat
  l : List AVal
  v : Nat → AVal

def MadeOK (P : Program) (o : Oper) (ρ : Operand → AVal) (m : Made) : Prop :=
  ∀ (σ : Sg) (w : World) (ρ' : Operand → Value), (∀ x, Den σ (ρ x) (ρ' x)) →
    ∃ (l' : List Value) (t : TypeId) (v' : Value), DenL σ m.l l' ∧ m.l.length = m.n ∧ (∀ (σ' : Sg) (b : Nat), σ' b = some (w.heap.size, m.n) → Den σ' (m.v b) v') ∧
      (execOp ρ' o).run P w = .ok (.value v') (w.alloc (.cells ⟨l'⟩ t))

def madeAlloc (P : Program) (t : TypeId) : Option Made :=
  match zeroL P t with
  | some z => some ⟨z.length, z, fun b => .ptr b 0⟩
  | none => none

theorem madeAlloc_ok {P : Program} {o : Oper} {t : TypeId} {ρ : Operand → AVal} {m : Made} (ho : o.op = .alloc t) (h : madeAlloc P t = some m) : MadeOK P o ρ m := by
  unfold madeAlloc at h
  split at h <;> first | (cases h; done) | skip
  rename_i z hz
  cases h
  obtain ⟨i, zv, hi, hzv, rfl, hsz⟩ := zeroL_ok hz
  intro σ w ρ' hd
  refine ⟨zv.cells.toList, t, .pointer (some (at' w.heap.size 0)), denL_ofCell σ _, rfl, fun σ' b hb => .ptr hb, ?_⟩
  simp [execOp, ho, Instr.alloc, run_zeroValue' hi hzv, newVar, newRow]

def madeBox (x : Operand) (ρ : Operand → AVal) : Option Made :=
  match acells (ρ x) with
  | some cs => forceN cs.length fun n => some ⟨n, cs, fun b => .ptr b 0⟩
  | none => none

theorem madeBox_ok {P : Program} {o : Oper} {t : TypeId} {x : Operand} {ρ : Operand → AVal} {m : Made} (ho : o.op = .box t x) (h : madeBox x ρ = some m) : MadeOK P o ρ m := by
  unfold madeBox at h
  split at h <;> first | (cases h; done) | skip
  rename_i cs hcs
  rw [forceN_eq] at h
  cases h
  intro σ w ρ' hd
  refine ⟨(ρ' x).cells.toList, t, .pointer (some (at' w.heap.size 0)), acells_ok hcs (hd x), rfl, fun σ' b hb => .ptr hb, ?_⟩
  simp [execOp, ho, Instr.box, newVar, newRow]

/-- A list k times. -/
def repL (l : List AVal) (k : Nat) : List AVal := Nat.rec [] (fun _ ih => l ++ ih) k

theorem repL_succ (l : List AVal) (k : Nat) : repL l (k + 1) = l ++ repL l k := rfl

def repV (l : List Value) : Nat → List Value
  | 0 => []
  | k + 1 => l ++ repV l k

theorem repL_den {σ : Sg} {l : List AVal} {l' : List Value} (h : DenL σ l l') : ∀ k, DenL σ (repL l k) (repV l' k)
  | 0 => .nil
  | k + 1 => by rw [repL_succ]; exact h.append (repL_den h k)

theorem repL_length (l : List AVal) : ∀ k, (repL l k).length = k * l.length
  | 0 => by show ([] : List AVal).length = _; simp
  | k + 1 => by rw [repL_succ, List.length_append, repL_length l k, Nat.succ_mul]; omega

theorem repV_length (l : List Value) : ∀ k, (repV l k).length = k * l.length
  | 0 => by simp [repV]
  | k + 1 => by rw [repV, List.length_append, repV_length l k, Nat.succ_mul]; omega

theorem repV_eq (z : Array Value) : ∀ k : Nat, ((Array.range (k * z.size)).map (z[· % z.size]!)).toList = repV z.toList k := by
  intro k
  induction k with
  | zero => simp [repV]
  | succ k ih =>
    rw [repV, ← ih]
    simp only [Array.toList_map, Array.toList_range]
    have e : (k + 1) * z.size = z.size + k * z.size := by rw [Nat.succ_mul]; omega
    rw [e, List.range_add, List.map_append]
    congr 1
    · apply List.ext_getElem
      · simp
      · intro i h1 h2
        simp at h1 h2
        simp [Nat.mod_eq_of_lt h1, getElem!_pos z i h1]
    · rw [List.map_map]
      apply List.map_congr_left
      intro i _
      simp

def madeSliceLit (P : Program) (t : TypeId) (len : Nat) (parts : Array (Nat × Operand)) (ρ : Operand → AVal) : Option Made :=
  match P.underlying t with
  | some (.slice elem) => match zeroL P elem, P.info? elem with
    | some z, some e => match Nat.ble (Nat.mul len e.size) 4096, Nat.beq e.size 0 with
      | true, false => match aFill (fun i => some (Nat.mul i e.size, e.size)) ρ (repL z len) parts.toList with
        | some cs => some ⟨Nat.mul len e.size, cs, fun b => .slice b 0 len e.size true⟩
        | none => none
      | _, _ => none
    | _, _ => none
  | _ => none

theorem madeSliceLit_ok {P : Program} {o : Oper} {t : TypeId} {len : Nat} {parts : Array (Nat × Operand)} {ρ : Operand → AVal} {m : Made} (ho : o.op = .buildSlice t len parts)
    (h : madeSliceLit P t len parts ρ = some m) : MadeOK P o ρ m := by
  unfold madeSliceLit at h
  split at h <;> first | (cases h; done) | skip
  rename_i elem hu
  split at h <;> first | (cases h; done) | skip
  rename_i z e hz he
  split at h <;> first | (cases h; done) | skip
  rename_i h1 h2
  have h1' : len * e.size ≤ 4096 := Nat.le_of_ble_eq_true h1
  have h2' : e.size ≠ 0 := fun q => by rw [q] at h2; cases h2
  split at h <;> first | (cases h; done) | skip
  rename_i cs hcs
  cases h
  obtain ⟨i, zv, hi, hzv, rfl, hsz⟩ := zeroL_ok hz
  rw [he] at hi
  cases hi
  intro σ w ρ' hd
  obtain ⟨cs', ef, hc, hlen⟩ := fill_ok hd (fun i => some (Nat.mul i e.size, e.size)) parts.toList _ cs _ hcs (repL_den (denL_ofCell σ zv.cells.toList) len)
  have hlen' : cs.length = len * e.size := by rw [hlen, repL_length]; simp [hsz]
  refine ⟨cs', elem, .slice (some (at' w.heap.size 0)) len len, hc, hlen', fun σ' b hb => .slice hb (Nat.le_refl _) (by simp) (fun _ => rfl), ?_⟩
  have ez : (Array.range (len * e.size)).map (fun x => zv.cells[x % zv.cells.size]!) = ⟨repV zv.cells.toList len⟩ := by
    apply Array.ext'
    rw [← hsz]
    exact repV_eq zv.cells len
  have e' : Instr.fill (fun i => some (i * e.size, e.size)) ⟨repV zv.cells.toList len⟩ (parts.map fun (i, x) => (i, ρ' x)).toList = some ⟨cs'⟩ := by
    rw [parts_map, ← ef]
    congr 1
  have hbig : ¬ len * e.size > 2 ^ 24 := by omega
  simp only [execOp, ho, Instr.buildSlice, Sem.run_bind, Sem.run_pure, Result.andThen_ok, run_underlying' hu, run_sizeOf' he, Sem.run_ite, if_neg hbig]
  by_cases hl0 : len * e.size = 0
  · have hlen0 : len = 0 := by
      rcases Nat.mul_eq_zero.1 hl0 with h | h
      · exact h
      · exact (h2' h).elim
    subst hlen0
    have ez' : (Array.range (0 * e.size)).map (fun x => (#[] : Array Value)[x % (#[] : Array Value).size]!) = ⟨repV zv.cells.toList 0⟩ := by simp [repV]
    simp only [if_pos hl0, Result.andThen_ok, ez', e', newRow, Sem.run_bind, run_newObj, Sem.run_pure]
    rfl
  · simp only [if_neg hl0, run_zeroValue' he hzv, Sem.run_bind, Sem.run_pure, Result.andThen_ok, ez, e', newRow, run_newObj]
    rfl

def madeMake (P : Program) (t : TypeId) (l c : Operand) (ρ : Operand → AVal) : Option Made :=
  match P.underlying t, ρ l, ρ c with
  | some (.slice elem), .int _ li, .int _ ci => match zeroL P elem, P.info? elem, asNat li, asNat ci with
    | some z, some e, some n, some m => match Nat.beq n m, Nat.ble (Nat.mul n e.size) 4096, Nat.ble (Nat.mul n e.bytes) 140737488355328, Nat.beq e.size 0, Nat.ble n 9223372036854775807 with
      | true, true, true, false, true => forceN (Nat.mul n e.size) fun k => some ⟨k, repL z n, fun b => .slice b 0 n e.size true⟩
      | _, _, _, _, _ => none
    | _, _, _, _ => none
  | _, _, _ => none

theorem madeMake_ok {P : Program} {o : Oper} {t : TypeId} {l c : Operand} {ρ : Operand → AVal} {m : Made} (ho : o.op = .makeSlice t l c)
    (h : madeMake P t l c ρ = some m) : MadeOK P o ρ m := by
  unfold madeMake at h
  split at h <;> first | (cases h; done) | skip
  rename_i elem k1 li k2 ci hu hl hc
  split at h <;> first | (cases h; done) | skip
  rename_i z e n n2 hz he hn hn2
  split at h <;> first | (cases h; done) | skip
  rename_i h1 h2 h3 h4 h5
  have h1' := Nat.eq_of_beq_eq_true h1
  subst h1'
  have h2' : n * e.size ≤ 4096 := Nat.le_of_ble_eq_true h2
  have h3' : n * e.bytes ≤ 140737488355328 := Nat.le_of_ble_eq_true h3
  have h4' : e.size ≠ 0 := fun q => by rw [q] at h4; cases h4
  have h5' : n ≤ 9223372036854775807 := Nat.le_of_ble_eq_true h5
  have e1 := asNat_ok hn
  have e2 := asNat_ok hn2
  subst e1
  subst e2
  rw [forceN_eq] at h
  cases h
  obtain ⟨i, zv, hi, hzv, rfl, hsz⟩ := zeroL_ok hz
  rw [he] at hi
  cases hi
  intro σ w ρ' hd
  have d1 := hd l; rw [hl] at d1
  have d2 := hd c; rw [hc] at d2
  cases q1 : ρ' l <;> rw [q1] at d1 <;> cases d1
  cases q2 : ρ' c <;> rw [q2] at d2 <;> cases d2
  refine ⟨repV zv.cells.toList n, elem, .slice (some (at' w.heap.size 0)) n n, repL_den (denL_ofCell σ _) n, (by show _ = n * e.size; rw [repL_length, List.length_map, Array.length_toList, hsz]), fun σ' b hb => .slice hb (Nat.le_refl _) (by simp) (fun _ => rfl), ?_⟩
  have ez : (Array.range (n * e.size)).map (fun x => zv.cells[x % zv.cells.size]!) = ⟨repV zv.cells.toList n⟩ := by
    apply Array.ext'
    rw [← hsz]
    exact repV_eq zv.cells n
  have w1 : IntKind.i64.wrap (n : Int) = (n : Int) := IntWalk.i64_in _ (by omega)
  have t1 : ¬ ((n : Int) < 0) := by omega
  have hb : ((e.bytes : Int) * (n : Int)) = ((n * e.bytes : Nat) : Int) := by rw [Int.natCast_mul, Int.mul_comm]
  have t2 : ¬ ((e.bytes : Int) * (n : Int) > 2 ^ 48) := by rw [hb]; omega
  have t3 : ¬ ((n : Int) > (n : Int)) := by omega
  simp only [execOp, ho, Instr.makeSlice, q1, q2, Sem.run_bind, Sem.run_pure, Result.andThen_ok, run_underlying' hu, asInt, asIntOf, run_typeInfo' he, w1]
  have tl : (decide ((n : Int) < 0) || decide ((e.bytes : Int) * (n : Int) > 2 ^ 48)) = false := by rw [decide_eq_false t1, decide_eq_false t2]; rfl
  have cond : ¬ ((((decide ((n : Int) < 0) || decide ((e.bytes : Int) * (n : Int) > 2 ^ 48)) || decide ((n : Int) < 0)) || decide ((n : Int) > (n : Int))) = true) := by
    rw [tl]
    have : decide ((n : Int) < 0) = false := decide_eq_false t1
    rw [this]
    simp
  rw [Sem.run_ite, if_neg cond]
  simp only [Sem.run_bind, Sem.run_pure, Result.andThen_ok, run_askRoom, Int.toNat_natCast, run_sizeOf' he, Sem.run_ite]
  by_cases hl0 : n * e.size = 0
  · have hn0 : n = 0 := by
      rcases Nat.mul_eq_zero.1 hl0 with h | h
      · exact h
      · exact (h4' h).elim
    subst hn0
    have ez' : (Array.range (0 * e.size)).map (fun x => (#[] : Array Value)[x % (#[] : Array Value).size]!) = ⟨repV zv.cells.toList 0⟩ := by simp [repV]
    simp only [if_pos hl0, Sem.run_pure, Result.andThen_ok, ez', newRow, Sem.run_bind, run_newObj]
    rfl
  · simp only [if_neg hl0, run_zeroValue' he hzv, Sem.run_bind, Sem.run_pure, Result.andThen_ok, ez, newRow, run_newObj]
    rfl

/-- The operations that make a block and do nothing else. -/
def made (P : Program) (op : Op) (ρ : Operand → AVal) : Option Made :=
  match op with
  | .alloc t => madeAlloc P t
  | .box _ x => madeBox x ρ
  | .buildSlice t len parts => madeSliceLit P t len parts ρ
  | .makeSlice t l c => madeMake P t l c ρ
  | _ => none

theorem made_ok {P : Program} {o : Oper} {ρ : Operand → AVal} {m : Made} (h : made P o.op ρ = some m) : MadeOK P o ρ m := by
  unfold made at h
  split at h <;> first | (cases h; done) | skip
  · exact madeAlloc_ok ‹_› h
  · exact madeBox_ok ‹_› h
  · exact madeSliceLit_ok ‹_› h
  · exact madeMake_ok ‹_› h

theorem made_cells {σ : Sg} {n : Nat} {l : List AVal} {l' : List Value} (hl : DenL σ l l') (hn : l.length = n) (h4 : n ≤ 4096) :
    n ≤ (CT.ofL n l).cap ∧ n = (Array.mk l').size ∧ ∀ i, i < n → ∃ v', (Array.mk l')[i]? = some v' ∧ Den σ ((CT.ofL n l).get i) v' := by
  refine ⟨CT.ofL_cap n l h4, by rw [← hn, hl.length]; rfl, fun i hi => ?_⟩
  have hlt : i < l.length := by omega
  obtain ⟨v', e, d⟩ := hl.get i l[i] (by simp [List.getElem?_eq_getElem hlt])
  refine ⟨v', by simpa using e, ?_⟩
  rw [CT.get_ofL n l i h4 hi]
  simpa [List.getD, List.getElem?_eq_getElem hlt] using d

def opMade (m : Made) (H : Heap) (nx : Nat) : Option ARes :=
  match Nat.ble m.n 4096, Nat.ble (Nat.succ nx) 1048576 with
  | true, true => forceN nx fun b => some (.val (m.v b) (set5 b (some (.cells m.n (CT.ofL m.n m.l) [] false)) H) (Nat.succ b))
  | _, _ => none

theorem opMade_ok {P : Program} {o : Oper} {ρ : Operand → AVal} {H : Heap} {nx : Nat} {m : Made} {r : ARes} (hm : MadeOK P o ρ m) (h : opMade m H nx = some r) : OpOK P o ρ H nx r := by
  unfold opMade at h
  split at h <;> first | (cases h; done) | skip
  rename_i h1 h2
  have h1' := Nat.le_of_ble_eq_true h1
  have h2' := Nat.le_of_ble_eq_true h2
  rw [forceN_eq] at h
  cases h
  intro σ w ρ' hr hd
  obtain ⟨l', t, v', hl, hn, hv, hrun⟩ := hm σ w ρ' hd
  obtain ⟨c1, c2, c3⟩ := made_cells hl hn h1'
  obtain ⟨r1, r2⟩ := hr.alloc (t := t) (fz := (0, 0)) (by omega) c1 c2 (Nat.le_refl _) (fun i _ h => by omega) c3
  refine ⟨_, _, v', r1, r2, hv _ nx (by simp [upd]), .inl hrun⟩

end
end Go.Ev
