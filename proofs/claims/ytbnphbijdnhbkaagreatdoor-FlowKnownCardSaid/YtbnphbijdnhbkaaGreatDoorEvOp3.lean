/-
  Own work. Operations on abstract values, part 3: places, parts, pieces, interfaces, calls.
-/
import Derived.Test.YtbnphbijdnhbkaaGreatDoorEvOp2
import Derived.Laws.BytesString
namespace Go.Ev
variable [GTab]
set_option linter.unusedSectionVars false
noncomputable section

/-! ### Places -/
def opFieldAddr (P : Program) (s : TypeId) (x : Operand) (f : Nat) (ρ : Operand → AVal) (H : Heap) (nx : Nat) : Option ARes :=
  match P.underlying s with
  | some (.struct fields) => match fields[f]? with
    | some fd => match P.info? fd.type with
      | some i => match Nat.beq i.size 0 with
        | false => match ρ x with
          | .ptr b off => some (.val (.ptr b (Nat.add off fd.offset)) H nx)
          | .gptr g off => some (.val (.gptr g (Nat.add off fd.offset)) H nx)
          | _ => none
        | true => none
      | none => none
    | none => none
  | _ => none

theorem opFieldAddr_ok {P : Program} {o : Oper} {s : TypeId} {x : Operand} {f : Nat} {ρ : Operand → AVal} {H : Heap} {nx : Nat} {r : ARes} (ho : o.op = .fieldAddr s x f)
    (h : opFieldAddr P s x f ρ H nx = some r) : OpOK P o ρ H nx r := by
  unfold opFieldAddr at h
  split at h <;> first | (cases h; done) | skip
  rename_i fields hu
  split at h <;> first | (cases h; done) | skip
  rename_i fd hf
  split at h <;> first | (cases h; done) | skip
  rename_i i hi
  split at h <;> first | (cases h; done) | skip
  rename_i hz
  have hz' : ¬ i.size = 0 := fun e => by rw [e] at hz; cases hz
  split at h <;> first | (cases h; done) | skip
  · rename_i b off hx
    cases h
    refine OpOK.pure fun σ w ρ' _ hd => ?_
    have d := hd x
    rw [hx] at d
    cases e : ρ' x <;> rw [e] at d <;> cases d
    rename_i cb sz hb
    refine ⟨.pointer (some (at' cb (off + fd.offset))), .ptr hb, ?_⟩
    have := addr_add cb off fd.offset
    simp [execOp, ho, Instr.fieldAt, run_underlying' hu, hf, e, Instr.sureAddr, fieldPlace, run_sizeOf' hi, hz', this]
  · rename_i g off hx
    cases h
    refine OpOK.pure fun σ w ρ' _ hd => ?_
    have d := hd x
    rw [hx] at d
    cases e : ρ' x <;> rw [e] at d <;> cases d
    refine ⟨.pointer (some (at' g (off + fd.offset))), .gptr _ _, ?_⟩
    have := addr_add g off fd.offset
    simp [execOp, ho, Instr.fieldAt, run_underlying' hu, hf, e, Instr.sureAddr, fieldPlace, run_sizeOf' hi, hz', this]

/-- A part of the cells of a struct or an array. -/
def aPart (P : Program) (t : TypeId) (cs : List AVal) (off : Nat) : Option AVal :=
  match P.underlying t, P.info? t with
  | some d, some i => match aggD d with
    | true => some (.agg (List.take i.size (List.drop off cs)))
    | false => match List.drop off cs with
      | v :: _ => some v
      | [] => none
  | _, _ => none

theorem aPart_ok {P : Program} {t : TypeId} {cs : List AVal} {cs' : List Value} {off : Nat} {v : AVal} {σ : Sg} {w : World} (h : aPart P t cs off = some v) (hd : DenL σ cs cs') :
    ∃ v', Den σ v v' ∧ (part t ⟨cs'⟩ off).run P w = .ok v' w := by
  unfold aPart at h
  split at h <;> first | (cases h; done) | skip
  rename_i d i hu hi
  split at h
  · rename_i hagg
    cases h
    refine ⟨.agg ⟨(cs'.drop off).take i.size⟩, .agg ((hd.drop off).take i.size), ?_⟩
    have e : (Array.mk cs').extract off (off + i.size) = ⟨(cs'.drop off).take i.size⟩ := by
      apply Array.ext'
      simp [List.extract]
    simp [part, run_isAgg' hu, hagg, run_sizeOf' hi]
  · rename_i hagg
    split at h <;> first | (cases h; done) | skip
    rename_i v0 rest hdrop
    cases h
    have hl := hd.drop off
    rw [hdrop] at hl
    cases hl' : cs'.drop off with
    | nil => rw [hl'] at hl; cases hl
    | cons v' rest' =>
      rw [hl'] at hl
      cases hl with
      | cons hv _ =>
        refine ⟨v', hv, ?_⟩
        have e : (Array.mk cs')[off]? = some v' := by
          have : cs'[off]? = some v' := by
            have := congrArg (fun l : List Value => l[0]?) hl'
            simpa using this
          simpa using this
        simp [part, run_isAgg' hu, hagg, e]

def opField (P : Program) (t : TypeId) (x : Operand) (f : Nat) (ρ : Operand → AVal) (H : Heap) (nx : Nat) : Option ARes :=
  match P.underlying t with
  | some (.struct fields) => match fields[f]? with
    | some fd => match ρ x with
      | .agg cs => match aPart P fd.type cs fd.offset with
        | some v => some (.val v H nx)
        | none => none
      | _ => none
    | none => none
  | _ => none

theorem opField_ok {P : Program} {o : Oper} {t : TypeId} {x : Operand} {f : Nat} {ρ : Operand → AVal} {H : Heap} {nx : Nat} {r : ARes} (ho : o.op = .field t x f)
    (h : opField P t x f ρ H nx = some r) : OpOK P o ρ H nx r := by
  unfold opField at h
  split at h <;> first | (cases h; done) | skip
  rename_i fields hu
  split at h <;> first | (cases h; done) | skip
  rename_i fd hf
  split at h <;> first | (cases h; done) | skip
  rename_i cs hx
  split at h <;> first | (cases h; done) | skip
  rename_i v hv
  cases h
  refine OpOK.pure fun σ w ρ' _ hd => ?_
  have d := hd x
  rw [hx] at d
  cases e : ρ' x <;> rw [e] at d <;> cases d
  rename_i cs' hl
  obtain ⟨v', dv, hrun⟩ := aPart_ok (w := w) hv hl
  exact ⟨v', dv, by simp [execOp, ho, Instr.field, run_underlying' hu, hf, e, asAgg, hrun]⟩

/-- A number from 0 on. -/
def asNat : Int → Option Nat
  | .ofNat n => some n
  | .negSucc _ => none

theorem asNat_ok {i : Int} {n : Nat} (h : asNat i = some n) : i = (n : Int) := by cases i <;> cases h; rfl

def opIndexAddr (P : Program) (t : TypeId) (x ix : Operand) (ρ : Operand → AVal) (H : Heap) (nx : Nat) : Option ARes :=
  match ρ ix with
  | .int _ i => match asNat i with
    | some n => match P.underlying t, ρ x with
      | some (.array len elem), .ptr b off => match Nat.ble (Nat.succ n) len, P.info? elem with
        | true, some e => some (.val (.ptr b (Nat.add off (Nat.mul n e.size))) H nx)
        | _, _ => none
      | some (.array len elem), .gptr g off => match Nat.ble (Nat.succ n) len, P.info? elem with
        | true, some e => some (.val (.gptr g (Nat.add off (Nat.mul n e.size))) H nx)
        | _, _ => none
      | some (.slice elem), .slice b off len _ _ => match Nat.ble (Nat.succ n) len, P.info? elem with
        | true, some e => some (.val (.ptr b (Nat.add off (Nat.mul n e.size))) H nx)
        | _, _ => none
      | _, _ => none
    | none => none
  | _ => none

theorem opIndexAddr_ok {P : Program} {o : Oper} {t : TypeId} {x ix : Operand} {ρ : Operand → AVal} {H : Heap} {nx : Nat} {r : ARes} (ho : o.op = .indexAddr t x ix)
    (h : opIndexAddr P t x ix ρ H nx = some r) : OpOK P o ρ H nx r := by
  unfold opIndexAddr at h
  split at h <;> first | (cases h; done) | skip
  rename_i k i hix
  split at h <;> first | (cases h; done) | skip
  rename_i n hn
  have hi := asNat_ok hn
  subst hi
  split at h
  · rename_i len elem b off hu hx
    split at h <;> first | (cases h; done) | skip
    rename_i ei hle he
    have hlt := Nat.le_of_ble_eq_true hle
    cases h
    refine OpOK.pure fun σ w ρ' _ hd => ?_
    have d := hd x; have d2 := hd ix
    rw [hx] at d; rw [hix] at d2
    cases e : ρ' x <;> rw [e] at d <;> cases d
    cases e2 : ρ' ix <;> rw [e2] at d2 <;> cases d2
    rename_i cb sz hb
    refine ⟨.pointer (some (at' cb (off + n * ei.size))), .ptr hb, ?_⟩
    have := addr_add cb off (n * ei.size)
    have h1 : n < len := by omega
    simp [execOp, ho, Instr.indexAt, e, e2, asIntOf, run_underlying' hu, Instr.sureAddr, h1, run_sizeOf' he, this]
  · rename_i len elem g off hu hx
    split at h <;> first | (cases h; done) | skip
    rename_i ei hle he
    have hlt := Nat.le_of_ble_eq_true hle
    cases h
    refine OpOK.pure fun σ w ρ' _ hd => ?_
    have d := hd x; have d2 := hd ix
    rw [hx] at d; rw [hix] at d2
    cases e : ρ' x <;> rw [e] at d <;> cases d
    cases e2 : ρ' ix <;> rw [e2] at d2 <;> cases d2
    refine ⟨.pointer (some (at' g (off + n * ei.size))), .gptr _ _, ?_⟩
    have := addr_add g off (n * ei.size)
    have h1 : n < len := by omega
    simp [execOp, ho, Instr.indexAt, e, e2, asIntOf, run_underlying' hu, Instr.sureAddr, h1, run_sizeOf' he, this]
  · rename_i elem b off len esz full hu hx
    split at h <;> first | (cases h; done) | skip
    rename_i ei hle he
    have hlt := Nat.le_of_ble_eq_true hle
    cases h
    refine OpOK.pure fun σ w ρ' _ hd => ?_
    have d := hd x; have d2 := hd ix
    rw [hx] at d; rw [hix] at d2
    cases e : ρ' x <;> rw [e] at d <;> cases d
    · cases e2 : ρ' ix <;> rw [e2] at d2 <;> cases d2
      rename_i cb sz hb h1 h2 h3
      refine ⟨.pointer (some (at' cb (off + n * ei.size))), .ptr hb, ?_⟩
      have := addr_add cb off (n * ei.size)
      have h1 : n < len := by omega
      simp [execOp, ho, Instr.indexAt, e, e2, asIntOf, run_underlying' hu, h1, run_sizeOf' he, this]
    · omega
  · cases h

def opIndex (P : Program) (t : TypeId) (x ix : Operand) (ρ : Operand → AVal) (H : Heap) (nx : Nat) : Option ARes :=
  match ρ ix with
  | .int _ i => match asNat i with
    | some n => match P.underlying t, ρ x with
      | some (.array len elem), .agg cs => match Nat.ble (Nat.succ n) len, P.info? elem with
        | true, some e => match aPart P elem cs (Nat.mul n e.size) with
          | some v => some (.val v H nx)
          | none => none
        | _, _ => none
      | some .string, .str l z => match Nat.ble (Nat.succ n) l with
        | true => forceN (cutX l z n (Nat.succ n)) fun c => some (.val (.int .u8 (.ofNat c)) H nx)
        | _ => none
      | _, _ => none
    | none => none
  | _ => none

theorem dec_get (l z n : Nat) (h : n < l) : (dec l z)[n]? = some (UInt8.ofNat (z / 256 ^ (l - 1 - n))) := by
  have hs : n < (dec l z).size := by rw [dec_size]; exact h
  rw [ByteArray.getElem?_lt' _ _ hs]
  have e := digs_getElem? l z n h
  have e2 : (dec l z)[n] = (digs l z)[n]'(by rw [digs_length]; exact h) := rfl
  rw [e2]
  rw [List.getElem?_eq_getElem (by rw [digs_length]; exact h)] at e
  exact e

theorem opIndex_ok {P : Program} {o : Oper} {t : TypeId} {x ix : Operand} {ρ : Operand → AVal} {H : Heap} {nx : Nat} {r : ARes} (ho : o.op = .index t x ix)
    (h : opIndex P t x ix ρ H nx = some r) : OpOK P o ρ H nx r := by
  unfold opIndex at h
  split at h <;> first | (cases h; done) | skip
  rename_i k i hix
  split at h <;> first | (cases h; done) | skip
  rename_i n hn
  have hi := asNat_ok hn
  subst hi
  split at h
  · rename_i len elem cs hu hx
    split at h <;> first | (cases h; done) | skip
    rename_i ei hle he
    have hlt := Nat.le_of_ble_eq_true hle
    split at h <;> first | (cases h; done) | skip
    rename_i v hv
    cases h
    refine OpOK.pure fun σ w ρ' _ hd => ?_
    have d := hd x; have d2 := hd ix
    rw [hx] at d; rw [hix] at d2
    cases e : ρ' x <;> rw [e] at d <;> cases d
    cases e2 : ρ' ix <;> rw [e2] at d2 <;> cases d2
    rename_i cs' hl
    obtain ⟨v', dv, hrun⟩ := aPart_ok (w := w) hv hl
    refine ⟨v', dv, ?_⟩
    have h1 : n < len := by omega
    have hrun' : (part elem ⟨cs'⟩ (n * ei.size)).run P w = .ok v' w := hrun
    simp [execOp, ho, Instr.index, e, e2, asIntOf, run_underlying' hu, h1, run_sizeOf' he, hrun']
  · rename_i l z hu hx
    split at h <;> first | (cases h; done) | skip
    rename_i hle
    have hlt := Nat.le_of_ble_eq_true hle
    rw [forceN_eq] at h
    cases h
    refine OpOK.pure fun σ w ρ' _ hd => ?_
    have d := hd x; have d2 := hd ix
    rw [hx] at d; rw [hix] at d2
    cases e : ρ' x <;> rw [e] at d <;> cases d
    cases e2 : ρ' ix <;> rw [e2] at d2 <;> cases d2
    refine ⟨_, .int _ _, ?_⟩
    have hg := dec_get l z n (by omega)
    have e3 : ((UInt8.ofNat (z / 256 ^ (l - 1 - n))).toNat : Int) = Int.ofNat (cutX l z n (n + 1)) := by
      rw [cutX_eq]
      have a1 : l - (n + 1) = l - 1 - n := by omega
      have a2 : n + 1 - n = 1 := by omega
      rw [a1, a2]
      simp [UInt8.toNat_ofNat']
    simp only [execOp, ho, Instr.index, e, e2, asIntOf, Sem.run_bind, Sem.run_pure, Result.andThen_ok, run_underlying' hu]
    have h0 : (0 : Int) ≤ (n : Int) := by omega
    rw [if_pos h0, Int.toNat_natCast, hg]
    simp only [Sem.run_pure, Result.andThen_ok, e3]
  · cases h

def opExtract (t : Operand) (i : Nat) (ρ : Operand → AVal) (H : Heap) (nx : Nat) : Option ARes :=
  match ρ t with
  | .tuple vs => match vs[i]? with
    | some v => some (.val v H nx)
    | none => none
  | _ => none

theorem opExtract_ok {P : Program} {o : Oper} {t : Operand} {i : Nat} {ρ : Operand → AVal} {H : Heap} {nx : Nat} {r : ARes} (ho : o.op = .extract t i)
    (h : opExtract t i ρ H nx = some r) : OpOK P o ρ H nx r := by
  unfold opExtract at h
  split at h <;> first | (cases h; done) | skip
  rename_i vs hx
  split at h <;> first | (cases h; done) | skip
  rename_i v hv
  cases h
  refine OpOK.pure fun σ w ρ' _ hd => ?_
  have d := hd t
  rw [hx] at d
  cases e : ρ' t <;> rw [e] at d <;> cases d
  rename_i vs' hl
  obtain ⟨v', hv', dv⟩ := hl.get i v hv
  exact ⟨v', dv, by simp [execOp, ho, Instr.extract, e, hv']⟩

def ifaceD : TypeDesc → Bool
  | .interface _ => true
  | _ => false

def opMakeInterface (P : Program) (t : TypeId) (x : Operand) (ρ : Operand → AVal) (H : Heap) (nx : Nat) : Option ARes :=
  match P.underlying t with
  | some d => match ifaceD d with
    | false => some (.val (.iface t (ρ x)) H nx)
    | true => none
  | none => none

theorem opMakeInterface_ok {P : Program} {o : Oper} {t : TypeId} {x : Operand} {ρ : Operand → AVal} {H : Heap} {nx : Nat} {r : ARes} (ho : o.op = .makeInterface t x)
    (h : opMakeInterface P t x ρ H nx = some r) : OpOK P o ρ H nx r := by
  unfold opMakeInterface at h
  split at h <;> first | (cases h; done) | skip
  rename_i d hu
  split at h <;> first | (cases h; done) | skip
  rename_i hd'
  cases h
  refine OpOK.pure fun σ w ρ' _ hd => ⟨.iface t (ρ' x), .iface (hd x), ?_⟩
  simp only [execOp, ho, Instr.makeInterface, Sem.run_bind, run_underlying' hu, Result.andThen_ok]
  cases d <;> first | rfl | (cases hd')

theorem denL_map {σ : Sg} {ρ : Operand → AVal} {ρ' : Operand → Value} (h : ∀ x, Den σ (ρ x) (ρ' x)) : ∀ l : List Operand, DenL σ (l.map ρ) (l.map ρ')
  | [] => .nil
  | x :: l => .cons (h x) (denL_map h l)

theorem arr_map {ρ' : Operand → Value} (xs : Array Operand) : xs.map ρ' = ⟨xs.toList.map ρ'⟩ := by
  apply Array.ext'
  simp

def opMakeFunc (fn : Fn) (first captured : Array Operand) (ρ : Operand → AVal) (H : Heap) (nx : Nat) : Option ARes :=
  some (.val (.func fn (first.toList.map ρ) (captured.toList.map ρ)) H nx)

theorem opMakeFunc_ok {P : Program} {o : Oper} {fn : Fn} {first captured : Array Operand} {ρ : Operand → AVal} {H : Heap} {nx : Nat} {r : ARes} (ho : o.op = .makeFunc fn first captured)
    (h : opMakeFunc fn first captured ρ H nx = some r) : OpOK P o ρ H nx r := by
  cases h
  refine OpOK.pure fun σ w ρ' _ hd => ⟨.func fn ⟨first.toList.map ρ'⟩ ⟨captured.toList.map ρ'⟩, .func (denL_map hd _) (denL_map hd _), ?_⟩
  simp only [execOp, ho, Instr.makeFunc, Sem.run_bind, Sem.run_pure, Result.andThen_ok, arr_map]

def opNilCheck (x : Operand) (ρ : Operand → AVal) (H : Heap) (nx : Nat) : Option ARes :=
  match ρ x with
  | .ptr b off => some (.val (.ptr b off) H nx)
  | .gptr g off => some (.val (.gptr g off) H nx)
  | .iface t v => some (.val (.iface t v) H nx)
  | .func (.func f) a b => some (.val (.func (.func f) a b) H nx)
  | _ => none

theorem opNilCheck_ok {P : Program} {o : Oper} {x : Operand} {ρ : Operand → AVal} {H : Heap} {nx : Nat} {r : ARes} (ho : o.op = .nilCheck x)
    (h : opNilCheck x ρ H nx = some r) : OpOK P o ρ H nx r := by
  unfold opNilCheck at h
  split at h <;> first | (cases h; done) | skip
  all_goals (rename_i hx; cases h; refine OpOK.pure fun σ w ρ' _ hd => ?_; have d := hd x; rw [hx] at d)
  all_goals (refine ⟨ρ' x, d, ?_⟩; cases e : ρ' x <;> rw [e] at d <;> cases d)
  all_goals (simp [execOp, ho, e])

def opUn (op : UnOp) (x : Operand) (ρ : Operand → AVal) (H : Heap) (nx : Nat) : Option ARes :=
  match op, ρ x with
  | .neg, .int k n => forceI (awrap k (Int.sub 0 n)) fun r => some (.val (.int k r) H nx)
  | .not, .bool b => some (.val (.bool (bnot b)) H nx)
  | _, _ => none

theorem opUn_ok {P : Program} {o : Oper} {op : UnOp} {t : TypeId} {x : Operand} {ρ : Operand → AVal} {H : Heap} {nx : Nat} {r : ARes} (ho : o.op = .unOp op t x)
    (h : opUn op x ρ H nx = some r) : OpOK P o ρ H nx r := by
  unfold opUn at h
  split at h <;> first | (cases h; done) | skip
  · rename_i k n hx
    rw [forceI_eq, awrap_eq] at h
    cases h
    refine OpOK.pure fun σ w ρ' _ hd => ?_
    have d := hd x; rw [hx] at d
    refine ⟨_, .int _ _, ?_⟩
    cases e : ρ' x <;> rw [e] at d <;> cases d
    simp only [execOp, ho, e, Op.unary, Op.intArith, Sem.run_bind, Sem.run_pure, Result.andThen_ok]
    rfl
  · rename_i b hx
    cases h
    refine OpOK.pure fun σ w ρ' _ hd => ?_
    have d := hd x; rw [hx] at d
    refine ⟨_, .bool _, ?_⟩
    cases e : ρ' x <;> rw [e] at d <;> cases d
    simp [execOp, ho, e, Op.unary, bnot_eq]

/-- The number of a list of bytes. -/
def bytesAcc (l : List AVal) : Nat → Option Nat :=
  List.rec (motive := fun _ => Nat → Option Nat) (fun acc => some acc)
    (fun v _ ih acc => match v with
      | .int .u8 (.ofNat n) => match Nat.ble n 255 with
        | true => forceN (Nat.add (Nat.mul acc 256) n) ih
        | false => none
      | _ => none) l

theorem bytesAcc_ok : ∀ {l : List AVal} {acc z : Nat}, bytesAcc l acc = some z → ∃ bs : List UInt8, l = bs.map (fun b => AVal.int .u8 (.ofNat b.toNat)) ∧ z = numL acc bs
  | [], acc, z, h => by
    have h' : some acc = some z := h
    cases h'
    exact ⟨[], rfl, rfl⟩
  | v :: l, acc, z, h => by
    have h' : (match (generalizing := false) v with
      | .int .u8 (.ofNat n) => match Nat.ble n 255 with
        | true => forceN (Nat.add (Nat.mul acc 256) n) (bytesAcc l)
        | false => none
      | _ => none) = some z := h
    split at h' <;> first | (cases h'; done) | skip
    rename_i n
    split at h' <;> first | (cases h'; done) | skip
    rename_i hn
    have hn' : n < 256 := Nat.lt_of_le_of_lt (Nat.le_of_ble_eq_true hn) (by decide)
    rw [forceN_eq] at h'
    obtain ⟨bs, e1, e2⟩ := bytesAcc_ok h'
    have hb : (UInt8.ofNat n).toNat = n := by simp [UInt8.toNat_ofNat', Nat.mod_eq_of_lt hn']
    refine ⟨UInt8.ofNat n :: bs, by rw [List.map_cons, hb, e1], ?_⟩
    rw [e2]
    show numL (acc * 256 + n) bs = numL (acc * 256 + (UInt8.ofNat n).toNat) bs
    rw [hb]

theorem denL_bytes {σ : Sg} : ∀ {bs : List UInt8} {l' : List Value}, DenL σ (bs.map fun b => AVal.int .u8 (.ofNat b.toNat)) l' → l' = (bs.map fun b => (b.toNat : Int)).map (Value.int .u8)
  | [], _, .nil => rfl
  | b :: bs, _, .cons h t => by
    cases h
    rw [denL_bytes t]
    rfl

theorem push_bytes : ∀ (bs : List UInt8) (s : ByteArray), (bs.map fun b => (b.toNat : Int)).foldl (fun r n => r.push (UInt8.ofNat n.toNat)) s = ⟨s.data ++ bs.toArray⟩
  | [], s => by simp
  | b :: bs, s => by
    rw [List.map_cons, List.foldl_cons, push_bytes bs]
    have : (s.push (UInt8.ofNat ((b.toNat : Int).toNat))).data = s.data.push b := by simp [ByteArray.push]
    rw [this]
    simp

/-- Conversions among numbers, of texts to texts, of bytes to a text. -/
def opConv (P : Program) (src dst : TypeId) (x : Operand) (ρ : Operand → AVal) (H : Heap) (nx : Nat) : Option ARes :=
  match P.underlying src, P.underlying dst, ρ x with
  | some _, some (.int k), .int _ n => forceI (awrap k n) fun r => some (.val (.int k r) H nx)
  | some _, some .string, .str n z => some (.val (.str n z) H nx)
  | some (.slice e), some .string, .slice b off n _ _ => match P.underlying e, get5 b H with
    | some (.int .u8), some (.cells cnt ct _ _) => match Nat.ble (Nat.add off n) cnt with
      | true => match bytesAcc (CT.slab ct n off) 0 with
        | some z => some (.val (.str n z) H nx)
        | none => none
      | false => none
    | _, _ => none
  | some (.slice e), some .string, .nilSlice => match P.underlying e with
    | some (.int .u8) => some (.val (.str 0 0) H nx)
    | _ => none
  | _, _, _ => none

theorem opConv_ok {P : Program} {o : Oper} {src dst : TypeId} {x : Operand} {ρ : Operand → AVal} {H : Heap} {nx : Nat} {r : ARes} (ho : o.op = .convert src dst x)
    (h : opConv P src dst x ρ H nx = some r) : OpOK P o ρ H nx r := by
  unfold opConv at h
  split at h <;> first | (cases h; done) | skip
  · rename_i d k k' n hs hdst hx
    rw [forceI_eq, awrap_eq] at h
    cases h
    refine OpOK.pure fun σ w ρ' _ hd => ?_
    have dx := hd x; rw [hx] at dx
    refine ⟨_, .int _ _, ?_⟩
    cases e : ρ' x <;> rw [e] at dx <;> cases dx
    simp [execOp, ho, e, convert, run_underlying' hs, run_underlying' hdst, Conv.intToInt]
  · rename_i d n z hs hdst hx
    cases h
    refine OpOK.pure fun σ w ρ' _ hd => ?_
    have dx := hd x; rw [hx] at dx
    refine ⟨ρ' x, dx, ?_⟩
    cases e : ρ' x <;> rw [e] at dx <;> cases dx
    simp [execOp, ho, e, convert, run_underlying' hs, run_underlying' hdst]
  · rename_i el b off n esz full hs hdst hx
    split at h <;> first | (cases h; done) | skip
    rename_i cnt ct olds s hel hob
    split at h <;> first | (cases h; done) | skip
    rename_i hle
    have hle' : off + n ≤ cnt := Nat.le_of_ble_eq_true hle
    split at h <;> first | (cases h; done) | skip
    rename_i z hz
    cases h
    obtain ⟨bs, e1, e2⟩ := bytesAcc_ok hz
    have hlen : bs.length = n := by have := CT.slab_length ct n off; rw [e1] at this; simpa using this
    subst e2
    refine OpOK.pure fun σ w ρ' hr hd => ?_
    have dx := hd x; rw [hx] at dx
    have key : ∀ (a : Addr) (cap : Nat), (loadCells a n).run P w = .ok ((bs.map fun b => (b.toNat : Int)).map (Value.int .u8)).toArray w → ∃ v', Den σ (.str n (numL 0 bs)) v' ∧ (convert src dst (.slice (some a) n cap)).run P w = .ok v' w := by
      intro a cap hl
      refine ⟨_, Den.str n (numL 0 bs) (by rw [← hlen]; exact numL_lt bs), ?_⟩
      rw [run_convert_bytes_string w src dst el _ _ cap hs hel hdst, run_bytesToString w a n cap _ hl, push_bytes]
      have : dec n (numL 0 bs) = ⟨bs.toArray⟩ := by rw [← hlen]; unfold dec; rw [digs_numL]
      rw [this]
      have e0 : (ByteArray.empty.data ++ bs.toArray) = bs.toArray := by
        show #[] ++ bs.toArray = bs.toArray
        simp
      rw [e0]
    cases e : ρ' x <;> rw [e] at dx <;> cases dx
    · rename_i cap cb sz hb h1 h2 h3
      obtain ⟨l', _, hl, _, hrun⟩ := load_slab hr hob hb P off n hle'
      rw [e1] at hl
      rw [denL_bytes hl] at hrun
      obtain ⟨v', dv, hv⟩ := key (at' cb off) cap hrun
      exact ⟨v', dv, by simp [execOp, ho, e, hv]⟩
    · rename_i off' cb sz hb
      have hbs : bs = [] := List.length_eq_zero_iff.1 hlen
      subst hbs
      obtain ⟨v', dv, hv⟩ := key (at' cb off') 0 (by simp [loadCells, loadCellsFrom])
      have hv' : (convert src dst (.slice (some { block := cb, off := off' }) 0 0)).run P w = .ok v' w := hv
      exact ⟨v', dv, by simp [execOp, ho, e, hv']⟩
  · rename_i el hs hdst hx
    split at h <;> first | (cases h; done) | skip
    rename_i hel
    cases h
    refine OpOK.pure fun σ w ρ' hr hd => ?_
    have dx := hd x; rw [hx] at dx
    cases e : ρ' x <;> rw [e] at dx <;> cases dx
    refine ⟨_, Den.str 0 0 (by decide), ?_⟩
    have := run_convert_bytes_string w src dst el none 0 0 hs hel hdst
    simp only [execOp, ho, e, Sem.run_bind, this]
    simp [Conv.bytesToString, dec, digs, ByteArray.empty, ByteArray.emptyWithCapacity]
    rfl

end
end Go.Ev
