/-
  Own work. Operations on abstract values, part 3: places, parts, pieces, interfaces, calls.
-/
import Derived.Test.YtdigeeejmgkcoaaGreatDoorEvOp1
import Derived.Laws.BytesString
namespace Go.Ev
variable [GTab]
set_option linter.unusedSectionVars false
noncomputable section

/-! ### Places -/
def opFieldAddr (P : Program) (s : TypeId) (x : Operand) (f : Nat) (ρ : Operand → AVal) (H : Heap) (nx : Nat) : Option ARes :=
  match P.underlying s with
  | some (.struct fields) => match fields[f]? with
    | some fd => match P.info? fd.type with
      | some i => match Nat.beq i.size 0 with
        | false => match ρ x with
          | .ptr b off => some (.val (.ptr b (Nat.add off fd.offset)) H nx)
          | .gptr g off => some (.val (.gptr g (Nat.add off fd.offset)) H nx)
          | _ => none
        | true => none
      | none => none
    | none => none
  | _ => none

theorem opFieldAddr_ok {P : Program} {o : Oper} {s : TypeId} {x : Operand} {f : Nat} {ρ : Operand → AVal} {H : Heap} {nx : Nat} {r : ARes} (ho : o.op = .fieldAddr s x f)
    (h : opFieldAddr P s x f ρ H nx = some r) : OpOK P o ρ H nx r := by
  unfold opFieldAddr at h
  split at h <;> first | (cases h; done) | skip
  rename_i fields hu
  split at h <;> first | (cases h; done) | skip
  rename_i fd hf
  split at h <;> first | (cases h; done) | skip
  rename_i i hi
  split at h <;> first | (cases h; done) | skip
  rename_i hz
  have hz' : ¬ i.size = 0 := fun e => by rw [e] at hz; cases hz
  split at h <;> first | (cases h; done) | skip
  · rename_i b off hx
    cases h
    refine OpOK.pure fun σ w ρ' _ hd => ?_
    have d := hd x
    rw [hx] at d
    cases e : ρ' x <;> rw [e] at d <;> cases d
    rename_i cb sz hb
    refine ⟨.pointer (some (at' cb (off + fd.offset))), .ptr hb, ?_⟩
    have := addr_add cb off fd.offset
    simp [execOp, ho, Instr.fieldAt, run_underlying' hu, hf, e, Instr.sureAddr, fieldPlace, run_sizeOf' hi, hz', this]
  · rename_i g off hx
    cases h
    refine OpOK.pure fun σ w ρ' _ hd => ?_
    have d := hd x
    rw [hx] at d
    cases e : ρ' x <;> rw [e] at d <;> cases d
    refine ⟨.pointer (some (at' g (off + fd.offset))), .gptr _ _, ?_⟩
    have := addr_add g off fd.offset
    simp [execOp, ho, Instr.fieldAt, run_underlying' hu, hf, e, Instr.sureAddr, fieldPlace, run_sizeOf' hi, hz', this]

/-- A part of the cells of a struct or an array. -/
def aPart (P : Program) (t : TypeId) (cs : List AVal) (off : Nat) : Option AVal :=
  match P.underlying t, P.info? t with
  | some d, some i => match aggD d with
    | true => some (.agg (List.take i.size (List.drop off cs)))
    | false => match List.drop off cs with
      | v :: _ => some v
      | [] => none
  | _, _ => none

theorem aPart_ok {P : Program} {t : TypeId} {cs : List AVal} {cs' : List Value} {off : Nat} {v : AVal} {σ : Sg} {w : World} (h : aPart P t cs off = some v) (hd : DenL σ cs cs') :
    ∃ v', Den σ v v' ∧ (part t ⟨cs'⟩ off).run P w = .ok v' w := by
  unfold aPart at h
  split at h <;> first | (cases h; done) | skip
  rename_i d i hu hi
  split at h
  · rename_i hagg
    cases h
    refine ⟨.agg ⟨(cs'.drop off).take i.size⟩, .agg ((hd.drop off).take i.size), ?_⟩
    have e : (Array.mk cs').extract off (off + i.size) = ⟨(cs'.drop off).take i.size⟩ := by
      apply Array.ext'
      simp [List.extract]
    simp [part, run_isAgg' hu, hagg, run_sizeOf' hi]
  · rename_i hagg
    split at h <;> first | (cases h; done) | skip
    rename_i v0 rest hdrop
    cases h
    have hl := hd.drop off
    rw [hdrop] at hl
    cases hl' : cs'.drop off with
    | nil => rw [hl'] at hl; cases hl
    | cons v' rest' =>
      rw [hl'] at hl
      cases hl with
      | cons hv _ =>
        refine ⟨v', hv, ?_⟩
        have e : (Array.mk cs')[off]? = some v' := by
          have : cs'[off]? = some v' := by
            have := congrArg (fun l : List Value => l[0]?) hl'
            simpa using this
          simpa using this
        simp [part, run_isAgg' hu, hagg, e]

def opField (P : Program) (t : TypeId) (x : Operand) (f : Nat) (ρ : Operand → AVal) (H : Heap) (nx : Nat) : Option ARes :=
  match P.underlying t with
  | some (.struct fields) => match fields[f]? with
    | some fd => match ρ x with
      | .agg cs => match aPart P fd.type cs fd.offset with
        | some v => some (.val v H nx)
        | none => none
      | _ => none
    | none => none
  | _ => none

theorem opField_ok {P : Program} {o : Oper} {t : TypeId} {x : Operand} {f : Nat} {ρ : Operand → AVal} {H : Heap} {nx : Nat} {r : ARes} (ho : o.op = .field t x f)
    (h : opField P t x f ρ H nx = some r) : OpOK P o ρ H nx r := by
  unfold opField at h
  split at h <;> first | (cases h; done) | skip
  rename_i fields hu
  split at h <;> first | (cases h; done) | skip
  rename_i fd hf
  split at h <;> first | (cases h; done) | skip
  rename_i cs hx
  split at h <;> first | (cases h; done) | skip
  rename_i v hv
  cases h
  refine OpOK.pure fun σ w ρ' _ hd => ?_
  have d := hd x
  rw [hx] at d
  cases e : ρ' x <;> rw [e] at d <;> cases d
  rename_i cs' hl
  obtain ⟨v', dv, hrun⟩ := aPart_ok (w := w) hv hl
  exact ⟨v', dv, by simp [execOp, ho, Instr.field, run_underlying' hu, hf, e, asAgg, hrun]⟩

/-- A number from 0 on. -/
def asNat : Int → Option Nat
  | .ofNat n => some n
  | .negSucc _ => none

theorem asNat_ok {i : Int} {n : Nat} (h : asNat i = some n) : i = (n : Int) := by cases i <;> cases h; rfl

def opIndexAddr (P : Program) (t : TypeId) (x ix : Operand) (ρ : Operand → AVal) (H : Heap) (nx : Nat) : Option ARes :=
  match ρ ix with
  | .int _ i => match asNat i with
    | some n => match P.underlying t, ρ x with
      | some (.array len elem), .ptr b off => match Nat.ble (Nat.succ n) len, P.info? elem with
        | true, some e => some (.val (.ptr b (Nat.add off (Nat.mul n e.size))) H nx)
        | _, _ => none
      | some (.array len elem), .gptr g off => match Nat.ble (Nat.succ n) len, P.info? elem with
        | true, some e => some (.val (.gptr g (Nat.add off (Nat.mul n e.size))) H nx)
        | _, _ => none
      | some (.slice elem), .slice b off len _ _ => match Nat.ble (Nat.succ n) len, P.info? elem with
        | true, some e => some (.val (.ptr b (Nat.add off (Nat.mul n e.size))) H nx)
        | _, _ => none
      | _, _ => none
    | none => none
  | _ => none

theorem opIndexAddr_ok {P : Program} {o : Oper} {t : TypeId} {x ix : Operand} {ρ : Operand → AVal} {H : Heap} {nx : Nat} {r : ARes} (ho : o.op = .indexAddr t x ix)
    (h : opIndexAddr P t x ix ρ H nx = some r) : OpOK P o ρ H nx r := by
  unfold opIndexAddr at h
  split at h <;> first | (cases h; done) | skip
  rename_i k i hix
  split at h <;> first | (cases h; done) | skip
  rename_i n hn
  have hi := asNat_ok hn
  subst hi
  split at h
  · rename_i len elem b off hu hx
    split at h <;> first | (cases h; done) | skip
    rename_i ei hle he
    have hlt := Nat.le_of_ble_eq_true hle
    cases h
    refine OpOK.pure fun σ w ρ' _ hd => ?_
    have d := hd x; have d2 := hd ix
    rw [hx] at d; rw [hix] at d2
    cases e : ρ' x <;> rw [e] at d <;> cases d
    cases e2 : ρ' ix <;> rw [e2] at d2 <;> cases d2
    rename_i cb sz hb
    refine ⟨.pointer (some (at' cb (off + n * ei.size))), .ptr hb, ?_⟩
    have := addr_add cb off (n * ei.size)
    have h1 : n < len := by omega
    simp [execOp, ho, Instr.indexAt, e, e2, asIntOf, run_underlying' hu, Instr.sureAddr, h1, run_sizeOf' he, this]
  · rename_i len elem g off hu hx
    split at h <;> first | (cases h; done) | skip
    rename_i ei hle he
    have hlt := Nat.le_of_ble_eq_true hle
    cases h
    refine OpOK.pure fun σ w ρ' _ hd => ?_
    have d := hd x; have d2 := hd ix
    rw [hx] at d; rw [hix] at d2
    cases e : ρ' x <;> rw [e] at d <;> cases d
    cases e2 : ρ' ix <;> rw [e2] at d2 <;> cases d2
    refine ⟨.pointer (some (at' g (off + n * ei.size))), .gptr _ _, ?_⟩
    have := addr_add g off (n * ei.size)
    have h1 : n < len := by omega
    simp [execOp, ho, Instr.indexAt, e, e2, asIntOf, run_underlying' hu, Instr.sureAddr, h1, run_sizeOf' he, this]
  · rename_i elem b off len esz full hu hx
    split at h <;> first | (cases h; done) | skip
    rename_i ei hle he
    have hlt := Nat.le_of_ble_eq_true hle
    cases h
    refine OpOK.pure fun σ w ρ' _ hd => ?_
    have d := hd x; have d2 := hd ix
    rw [hx] at d; rw [hix] at d2
    cases e : ρ' x <;> rw [e] at d <;> cases d
    · cases e2 : ρ' ix <;> rw [e2] at d2 <;> cases d2
      rename_i cb sz hb h1 h2 h3
      refine ⟨.pointer (some (at' cb (off + n * ei.size))), .ptr hb, ?_⟩
      have := addr_add cb off (n * ei.size)
      have h1 : n < len := by omega
      simp [execOp, ho, Instr.indexAt, e, e2, asIntOf, run_underlying' hu, h1, run_sizeOf' he, this]
    · omega
  · cases h

def opIndex (P : Program) (t : TypeId) (x ix : Operand) (ρ : Operand → AVal) (H : Heap) (nx : Nat) : Option ARes :=
  match ρ ix with
  | .int _ i => match asNat i with
    | some n => match P.underlying t, ρ x with
      | some (.array len elem), .agg cs => match Nat.ble (Nat.succ n) len, P.info? elem with
        | true, some e => match aPart P elem cs (Nat.mul n e.size) with
          | some v => some (.val v H nx)
          | none => none
        | _, _ => none
      | some .string, .str l z => match Nat.ble (Nat.succ n) l with
        | true => forceN (cutX l z n (Nat.succ n)) fun c => some (.val (.int .u8 (.ofNat c)) H nx)
        | _ => none
      | _, _ => none
    | none => none
  | _ => none

theorem dec_get (l z n : Nat) (h : n < l) : (dec l z)[n]? = some (UInt8.ofNat (z / 256 ^ (l - 1 - n))) := by
  have hs : n < (dec l z).size := by rw [dec_size]; exact h
  rw [ByteArray.getElem?_lt' _ _ hs]
  have e := digs_getElem? l z n h
  have e2 : (dec l z)[n] = (digs l z)[n]'(by rw [digs_length]; exact h) := rfl
  rw [e2]
  rw [List.getElem?_eq_getElem (by rw [digs_length]; exact h)] at e
  exact e

theorem opIndex_ok {P : Program} {o : Oper} {t : TypeId} {x ix : Operand} {ρ : Operand → AVal} {H : Heap} {nx : Nat} {r : ARes} (ho : o.op = .index t x ix)
    (h : opIndex P t x ix ρ H nx = some r) : OpOK P o ρ H nx r := by
  unfold opIndex at h
  split at h <;> first | (cases h; done) | skip
  rename_i k i hix
  split at h <;> first | (cases h; done) | skip
  rename_i n hn
  have hi := asNat_ok hn
  subst hi
  split at h
  · rename_i len elem cs hu hx
    split at h <;> first | (cases h; done) | skip
    rename_i ei hle he
    have hlt := Nat.le_of_ble_eq_true hle
    split at h <;> first | (cases h; done) | skip
    rename_i v hv
    cases h
    refine OpOK.pure fun σ w ρ' _ hd => ?_
    have d := hd x; have d2 := hd ix
    rw [hx] at d; rw [hix] at d2
    cases e : ρ' x <;> rw [e] at d <;> cases d
    cases e2 : ρ' ix <;> rw [e2] at d2 <;> cases d2
    rename_i cs' hl
    obtain ⟨v', dv, hrun⟩ := aPart_ok (w := w) hv hl
    refine ⟨v', dv, ?_⟩
    have h1 : n < len := by omega
    have hrun' : (part elem ⟨cs'⟩ (n * ei.size)).run P w = .ok v' w := hrun
    simp [execOp, ho, Instr.index, e, e2, asIntOf, run_underlying' hu, h1, run_sizeOf' he, hrun']
  · rename_i l z hu hx
    split at h <;> first | (cases h; done) | skip
    rename_i hle
    have hlt := Nat.le_of_ble_eq_true hle
    rw [forceN_eq] at h
    cases h
    refine OpOK.pure fun σ w ρ' _ hd => ?_
    have d := hd x; have d2 := hd ix
    rw [hx] at d; rw [hix] at d2
    cases e : ρ' x <;> rw [e] at d <;> cases d
    cases e2 : ρ' ix <;> rw [e2] at d2 <;> cases d2
    refine ⟨_, .int _ _, ?_⟩
    have hg := dec_get l z n (by omega)
    have e3 : ((UInt8.ofNat (z / 256 ^ (l - 1 - n))).toNat : Int) = Int.ofNat (cutX l z n (n + 1)) := by
      rw [cutX_eq]
      have a1 : l - (n + 1) = l - 1 - n := by omega
      have a2 : n + 1 - n = 1 := by omega
      rw [a1, a2]
      simp [UInt8.toNat_ofNat']
    simp only [execOp, ho, Instr.index, e, e2, asIntOf, Sem.run_bind, Sem.run_pure, Result.andThen_ok, run_underlying' hu]
    have h0 : (0 : Int) ≤ (n : Int) := by omega
    rw [if_pos h0, Int.toNat_natCast, hg]
    simp only [Sem.run_pure, Result.andThen_ok, e3]
  · cases h

def opExtract (t : Operand) (i : Nat) (ρ : Operand → AVal) (H : Heap) (nx : Nat) : Option ARes :=
  match ρ t with
  | .tuple vs => match vs[i]? with
    | some v => some (.val v H nx)
    | none => none
  | _ => none

theorem opExtract_ok {P : Program} {o : Oper} {t : Operand} {i : Nat} {ρ : Operand → AVal} {H : Heap} {nx : Nat} {r : ARes} (ho : o.op = .extract t i)
    (h : opExtract t i ρ H nx = some r) : OpOK P o ρ H nx r := by
  unfold opExtract at h
  split at h <;> first | (cases h; done) | skip
  rename_i vs hx
  split at h <;> first | (cases h; done) | skip
  rename_i v hv
  cases h
  refine OpOK.pure fun σ w ρ' _ hd => ?_
  have d := hd t
  rw [hx] at d
  cases e : ρ' t <;> rw [e] at d <;> cases d
  rename_i vs' hl
  obtain ⟨v', hv', dv⟩ := hl.get i v hv
  exact ⟨v', dv, by simp [execOp, ho, Instr.extract, e, hv']⟩

def ifaceD : TypeDesc → Bool
  | .interface _ => true
  | _ => false

def opMakeInterface (P : Program) (t : TypeId) (x : Operand) (ρ : Operand → AVal) (H : Heap) (nx : Nat) : Option ARes :=
  match P.underlying t with
  | some d => match ifaceD d with
    | false => some (.val (.iface t (ρ x)) H nx)
    | true => none
  | none => none

theorem opMakeInterface_ok {P : Program} {o : Oper} {t : TypeId} {x : Operand} {ρ : Operand → AVal} {H : Heap} {nx : Nat} {r : ARes} (ho : o.op = .makeInterface t x)
    (h : opMakeInterface P t x ρ H nx = some r) : OpOK P o ρ H nx r := by
  unfold opMakeInterface at h
  split at h <;> first | (cases h; done) | skip
  rename_i d hu
  split at h <;> first | (cases h; done) | skip
  rename_i hd'
  cases h
  refine OpOK.pure fun σ w ρ' _ hd => ⟨.iface t (ρ' x), .iface (hd x), ?_⟩
  simp only [execOp, ho, Instr.makeInterface, Sem.run_bind, run_underlying' hu, Result.andThen_ok]
  cases d <;> first | rfl | (cases hd')

theorem denL_map {σ : Sg} {ρ : Operand → AVal} {ρ' : Operand → Value} (h : ∀ x, Den σ (ρ x) (ρ' x)) : ∀ l : List Operand, DenL σ (l.map ρ) (l.map ρ')
  | [] => .nil
  | x :: l => .cons (h x) (denL_map h l)

theorem arr_map {ρ' : Operand → Value} (xs : Array Operand) : xs.map ρ' = ⟨xs.toList.map ρ'⟩ := by
  apply Array.ext'
  simp

def opMakeFunc (fn : Fn) (first captured : Array Operand) (ρ : Operand → AVal) (H : Heap) (nx : Nat) : Option ARes :=
  some (.val (.func fn (first.toList.map ρ) (captured.toList.map ρ)) H nx)

theorem opMakeFunc_ok {P : Program} {o : Oper} {fn : Fn} {first captured : Array Operand} {ρ : Operand → AVal} {H : Heap} {nx : Nat} {r : ARes} (ho : o.op = .makeFunc fn first captured)
    (h : opMakeFunc fn first captured ρ H nx = some r) : OpOK P o ρ H nx r := by
  cases h
  refine OpOK.pure fun σ w ρ' _ hd => ⟨.func fn ⟨first.toList.map ρ'⟩ ⟨captured.toList.map ρ'⟩, .func (denL_map hd _) (denL_map hd _), ?_⟩
  simp only [execOp, ho, Instr.makeFunc, Sem.run_bind, Sem.run_pure, Result.andThen_ok, arr_map]

def opNilCheck (x : Operand) (ρ : Operand → AVal) (H : Heap) (nx : Nat) : Option ARes :=
  match ρ x with
  | .ptr b off => some (.val (.ptr b off) H nx)
  | .gptr g off => some (.val (.gptr g off) H nx)
  | .iface t v => some (.val (.iface t v) H nx)
  | .func (.func f) a b => some (.val (.func (.func f) a b) H nx)
  | _ => none

theorem opNilCheck_ok {P : Program} {o : Oper} {x : Operand} {ρ : Operand → AVal} {H : Heap} {nx : Nat} {r : ARes} (ho : o.op = .nilCheck x)
    (h : opNilCheck x ρ H nx = some r) : OpOK P o ρ H nx r := by
  unfold opNilCheck at h
  split at h <;> first | (cases h; done) | skip
  all_goals (rename_i hx; cases h; refine OpOK.pure fun σ w ρ' _ hd => ?_; have d := hd x; rw [hx] at d)
  all_goals (refine ⟨ρ' x, d, ?_⟩; cases e : ρ' x <;> rw [e] at d <;> cases d)
  all_goals (simp [execOp, ho, e])

def opUn (op : UnOp) (x : Operand) (ρ : Operand → AVal) (H : Heap) (nx : Nat) : Option ARes :=
  match op, ρ x with
  | .neg, .int k n => forceI (awrap k (Int.sub 0 n)) fun r => some (.val (.int k r) H nx)
  | .not, .bool b => some (.val (.bool (bnot b)) H nx)
  | .neg, .anyInt k m i => match symBin .sub (.int k 0) (.anyInt k m i) with
    | some v => some (.val v H nx)
    | none => none
  | _, _ => none

theorem opUn_ok {P : Program} {o : Oper} {op : UnOp} {t : TypeId} {x : Operand} {ρ : Operand → AVal} {H : Heap} {nx : Nat} {r : ARes} (ho : o.op = .unOp op t x)
    (h : opUn op x ρ H nx = some r) : OpOK P o ρ H nx r := by
  unfold opUn at h
  split at h <;> first | (cases h; done) | skip
  · rename_i k n hx
    rw [forceI_eq, awrap_eq] at h
    cases h
    refine OpOK.pure fun σ w ρ' _ hd => ?_
    have d := hd x; rw [hx] at d
    refine ⟨_, .int _ _, ?_⟩
    cases e : ρ' x <;> rw [e] at d <;> cases d
    simp only [execOp, ho, e, Op.unary, Op.intArith, Sem.run_bind, Sem.run_pure, Result.andThen_ok]
    rfl
  · rename_i b hx
    cases h
    refine OpOK.pure fun σ w ρ' _ hd => ?_
    have d := hd x; rw [hx] at d
    refine ⟨_, .bool _, ?_⟩
    cases e : ρ' x <;> rw [e] at d <;> cases d
    simp [execOp, ho, e, Op.unary, bnot_eq]
  · rename_i k m i hx
    split at h <;> first | (cases h; done) | skip
    rename_i v hv
    cases h
    refine OpOK.pure fun σ w ρ' _ hd => ?_
    have d := hd x; rw [hx] at d
    obtain ⟨k', p, q, v', e1, e2, dv, hrun⟩ := symBin_ok (P := P) (w := w) (t := t) hv (.int k 0) d
    cases e1
    refine ⟨v', dv, ?_⟩
    rw [execOp, ho]
    have hrun' : (Op.intArith .sub k 0 q).run P w = .ok v' w := by simpa [binOp] using hrun
    simp only [e2, Op.unary, Sem.run_bind, hrun', Result.andThen_ok, Sem.run_pure]

/-- The number of a list of bytes. -/
def bytesAcc (l : List AVal) : Nat → Option Nat :=
  List.rec (motive := fun _ => Nat → Option Nat) (fun acc => some acc)
    (fun v _ ih acc => match v with
      | .int .u8 (.ofNat n) => match Nat.ble n 255 with
        | true => forceN (Nat.add (Nat.mul acc 256) n) ih
        | false => none
      | _ => none) l

theorem bytesAcc_ok : ∀ {l : List AVal} {acc z : Nat}, bytesAcc l acc = some z → ∃ bs : List UInt8, l = bs.map (fun b => AVal.int .u8 (.ofNat b.toNat)) ∧ z = numL acc bs
  | [], acc, z, h => by
    have h' : some acc = some z := h
    cases h'
    exact ⟨[], rfl, rfl⟩
  | v :: l, acc, z, h => by
    have h' : (match (generalizing := false) v with
      | .int .u8 (.ofNat n) => match Nat.ble n 255 with
        | true => forceN (Nat.add (Nat.mul acc 256) n) (bytesAcc l)
        | false => none
      | _ => none) = some z := h
    split at h' <;> first | (cases h'; done) | skip
    rename_i n
    split at h' <;> first | (cases h'; done) | skip
    rename_i hn
    have hn' : n < 256 := Nat.lt_of_le_of_lt (Nat.le_of_ble_eq_true hn) (by decide)
    rw [forceN_eq] at h'
    obtain ⟨bs, e1, e2⟩ := bytesAcc_ok h'
    have hb : (UInt8.ofNat n).toNat = n := by simp [UInt8.toNat_ofNat', Nat.mod_eq_of_lt hn']
    refine ⟨UInt8.ofNat n :: bs, by rw [List.map_cons, hb, e1], ?_⟩
    rw [e2]
    show numL (acc * 256 + n) bs = numL (acc * 256 + (UInt8.ofNat n).toNat) bs
    rw [hb]

theorem denL_bytes {σ : Sg} : ∀ {bs : List UInt8} {l' : List Value}, DenL σ (bs.map fun b => AVal.int .u8 (.ofNat b.toNat)) l' → l' = (bs.map fun b => (b.toNat : Int)).map (Value.int .u8)
  | [], _, .nil => rfl
  | b :: bs, _, .cons h t => by
    cases h
    rw [denL_bytes t]
    rfl

theorem push_bytes : ∀ (bs : List UInt8) (s : ByteArray), (bs.map fun b => (b.toNat : Int)).foldl (fun r n => r.push (UInt8.ofNat n.toNat)) s = ⟨s.data ++ bs.toArray⟩
  | [], s => by simp
  | b :: bs, s => by
    rw [List.map_cons, List.foldl_cons, push_bytes bs]
    have : (s.push (UInt8.ofNat ((b.toNat : Int).toNat))).data = s.data.push b := by simp [ByteArray.push]
    rw [this]
    simp

/-- Conversions among numbers, of texts to texts, of bytes to a text. -/
def opConv (P : Program) (src dst : TypeId) (x : Operand) (ρ : Operand → AVal) (H : Heap) (nx : Nat) : Option ARes :=
  match P.underlying src, P.underlying dst, ρ x with
  | some _, some (.int k), .int _ n => forceI (awrap k n) fun r => some (.val (.int k r) H nx)
  | some _, some .string, .str n z => some (.val (.str n z) H nx)
  | some _, some (.int k), .anyInt j m i => match w64 k, w64 j, Nat.beq m 65536 with
    | true, true, true => some (.val (.anyInt k m i) H nx)
    | _, _, _ => none
  | some (.slice e), some .string, .slice b off n _ _ => match P.underlying e, get5 b H with
    | some (.int .u8), some (.cells cnt ct _ _) => match Nat.ble (Nat.add off n) cnt with
      | true => match bytesAcc (CT.slab ct n off) 0 with
        | some z => some (.val (.str n z) H nx)
        | none => none
      | false => none
    | _, _ => none
  | some (.slice e), some .string, .nilSlice => match P.underlying e with
    | some (.int .u8) => some (.val (.str 0 0) H nx)
    | _ => none
  | _, _, _ => none

theorem opConv_ok {P : Program} {o : Oper} {src dst : TypeId} {x : Operand} {ρ : Operand → AVal} {H : Heap} {nx : Nat} {r : ARes} (ho : o.op = .convert src dst x)
    (h : opConv P src dst x ρ H nx = some r) : OpOK P o ρ H nx r := by
  unfold opConv at h
  split at h <;> first | (cases h; done) | skip
  · rename_i d k k' n hs hdst hx
    rw [forceI_eq, awrap_eq] at h
    cases h
    refine OpOK.pure fun σ w ρ' _ hd => ?_
    have dx := hd x; rw [hx] at dx
    refine ⟨_, .int _ _, ?_⟩
    cases e : ρ' x <;> rw [e] at dx <;> cases dx
    simp [execOp, ho, e, convert, run_underlying' hs, run_underlying' hdst, Conv.intToInt]
  · rename_i d n z hs hdst hx
    cases h
    refine OpOK.pure fun σ w ρ' _ hd => ?_
    have dx := hd x; rw [hx] at dx
    refine ⟨ρ' x, dx, ?_⟩
    cases e : ρ' x <;> rw [e] at dx <;> cases dx
    simp [execOp, ho, e, convert, run_underlying' hs, run_underlying' hdst]
  · rename_i d k j m i hs hdst hx
    split at h <;> first | (cases h; done) | skip
    rename_i hk hj hm
    cases h
    have hm' := Nat.eq_of_beq_eq_true hm
    subst hm'
    refine OpOK.pure fun σ w ρ' _ hd => ?_
    have dx := hd x; rw [hx] at dx
    cases e : ρ' x <;> rw [e] at dx <;> cases dx
    rename_i n hn
    have hn' : n = j.wrap (GTab.val i) := by unfold AnyOK at hn; rwa [if_pos rfl] at hn
    subst hn'
    refine ⟨.int k (k.wrap (j.wrap (GTab.val i))), .anyInt _ _ _ _ (by unfold AnyOK; rw [if_pos rfl]; exact (same_wrap hj _).wrap hk), ?_⟩
    simp [execOp, ho, e, convert, run_underlying' hs, run_underlying' hdst, Conv.intToInt]
  · rename_i el b off n esz full hs hdst hx
    split at h <;> first | (cases h; done) | skip
    rename_i cnt ct olds s hel hob
    split at h <;> first | (cases h; done) | skip
    rename_i hle
    have hle' : off + n ≤ cnt := Nat.le_of_ble_eq_true hle
    split at h <;> first | (cases h; done) | skip
    rename_i z hz
    cases h
    obtain ⟨bs, e1, e2⟩ := bytesAcc_ok hz
    have hlen : bs.length = n := by have := CT.slab_length ct n off; rw [e1] at this; simpa using this
    subst e2
    refine OpOK.pure fun σ w ρ' hr hd => ?_
    have dx := hd x; rw [hx] at dx
    have key : ∀ (a : Addr) (cap : Nat), (loadCells a n).run P w = .ok ((bs.map fun b => (b.toNat : Int)).map (Value.int .u8)).toArray w → ∃ v', Den σ (.str n (numL 0 bs)) v' ∧ (convert src dst (.slice (some a) n cap)).run P w = .ok v' w := by
      intro a cap hl
      refine ⟨_, Den.str n (numL 0 bs) (by rw [← hlen]; exact numL_lt bs), ?_⟩
      rw [run_convert_bytes_string w src dst el _ _ cap hs hel hdst, run_bytesToString w a n cap _ hl, push_bytes]
      have : dec n (numL 0 bs) = ⟨bs.toArray⟩ := by rw [← hlen]; unfold dec; rw [digs_numL]
      rw [this]
      have e0 : (ByteArray.empty.data ++ bs.toArray) = bs.toArray := by
        show #[] ++ bs.toArray = bs.toArray
        simp
      rw [e0]
    cases e : ρ' x <;> rw [e] at dx <;> cases dx
    · rename_i cap cb sz hb h1 h2 h3
      obtain ⟨l', _, hl, _, hrun⟩ := load_slab hr hob hb P off n hle'
      rw [e1] at hl
      rw [denL_bytes hl] at hrun
      obtain ⟨v', dv, hv⟩ := key (at' cb off) cap hrun
      exact ⟨v', dv, by simp [execOp, ho, e, hv]⟩
    · rename_i off' cb sz hb
      have hbs : bs = [] := List.length_eq_zero_iff.1 hlen
      subst hbs
      obtain ⟨v', dv, hv⟩ := key (at' cb off') 0 (by simp [loadCells, loadCellsFrom])
      have hv' : (convert src dst (.slice (some { block := cb, off := off' }) 0 0)).run P w = .ok v' w := hv
      exact ⟨v', dv, by simp [execOp, ho, e, hv']⟩
  · rename_i el hs hdst hx
    split at h <;> first | (cases h; done) | skip
    rename_i hel
    cases h
    refine OpOK.pure fun σ w ρ' hr hd => ?_
    have dx := hd x; rw [hx] at dx
    cases e : ρ' x <;> rw [e] at dx <;> cases dx
    refine ⟨_, Den.str 0 0 (by decide), ?_⟩
    have := run_convert_bytes_string w src dst el none 0 0 hs hel hdst
    simp only [execOp, ho, e, Sem.run_bind, this]
    simp [Conv.bytesToString, dec, digs, ByteArray.empty, ByteArray.emptyWithCapacity]
    rfl

end
end Go.Ev

namespace Go.Ev
variable [GTab]
set_option linter.unusedSectionVars false
noncomputable section

/-! ### Pieces -/
def bnd (d : Nat) (x : Option Operand) (ρ : Operand → AVal) : Option Nat :=
  match x with
  | none => some d
  | some y => match ρ y with
    | .int _ i => asNat i
    | _ => none

theorem bnd_ok {d n : Nat} {x : Option Operand} {ρ : Operand → AVal} {ρ' : Operand → Value} {σ : Sg} (hd : ∀ x, Den σ (ρ x) (ρ' x)) (h : bnd d x ρ = some n) :
    (x.map ρ' = none ∧ n = d) ∨ ∃ k, x.map ρ' = some (.int k (n : Int)) := by
  unfold bnd at h
  split at h
  · cases h; exact .inl ⟨rfl, rfl⟩
  · rename_i y
    split at h <;> first | (cases h; done) | skip
    rename_i k i hy
    have hi := asNat_ok h
    subst hi
    have := hd y
    rw [hy] at this
    cases e : ρ' y <;> rw [e] at this <;> cases this
    exact .inr ⟨k, by simp [e]⟩

theorem run_sliceBound {P : Program} {w : World} {k : IntKind} {n y : Nat} {c : BoundsCode} (h : n ≤ y) : (Instr.sliceBound (.int k (n : Int)) y c).run P w = .ok n w := by
  simp [Instr.sliceBound, asIntOf, h]

theorem run_sliceBounds {P : Program} {w : World} {isS : Bool} {len cap l h : Nat} {lo hi : Option Value} (hh : (hi = none ∧ h = len) ∨ ∃ k, hi = some (.int k (h : Int))) (hle : h ≤ cap)
    (hl : (lo = none ∧ l = 0) ∨ ∃ k, lo = some (.int k (l : Int))) (hlh : l ≤ h) : (Instr.sliceBounds isS len cap lo hi none).run P w = .ok (l, h, cap) w := by
  rcases hh with ⟨rfl, rfl⟩ | ⟨k, rfl⟩ <;> rcases hl with ⟨rfl, rfl⟩ | ⟨k', rfl⟩
  · simp [Instr.sliceBounds]
  · simp [Instr.sliceBounds, run_sliceBound hlh]
  · simp [Instr.sliceBounds, run_sliceBound hle]
  · simp [Instr.sliceBounds, run_sliceBound hle, run_sliceBound hlh]

def opSlice (P : Program) (t : TypeId) (x : Operand) (lo hi mx : Option Operand) (ρ : Operand → AVal) (H : Heap) (nx : Nat) : Option ARes :=
  match mx with
  | some _ => none
  | none => match P.underlying t, ρ x with
    | some .string, .str n z => match bnd 0 lo ρ, bnd n hi ρ with
      | some l, some h => match Nat.ble h n, Nat.ble l h with
        | true, true => forceN (Nat.sub h l) fun m => forceN (cutX n z l h) fun y => some (.val (.str m y) H nx)
        | _, _ => none
      | _, _ => none
    | some (.slice elem), .slice b off len esz full => match bnd 0 lo ρ, bnd len hi ρ, P.info? elem with
      | some l, some h, some e => match Nat.ble h len, Nat.ble l h, Nat.beq e.size esz with
        | true, true, true => forceN (Nat.add off (Nat.mul l esz)) fun o => forceN (Nat.sub h l) fun m => some (.val (.slice b o m esz (Bool.rec false full (Nat.beq h len))) H nx)
        | _, _, _ => none
      | _, _, _ => none
    | some (.slice elem), .nilSlice => match bnd 0 lo ρ, bnd 0 hi ρ, P.info? elem with
      | some 0, some 0, some _ => some (.val .nilSlice H nx)
      | _, _, _ => none
    | some (.array n elem), .ptr b off => match bnd 0 lo ρ, bnd n hi ρ, P.info? elem, get5 b H with
      | some l, some h, some e, some (.cells cnt _ _ _) => match Nat.ble h n, Nat.ble l h, Nat.ble (Nat.add off (Nat.mul n e.size)) cnt with
        | true, true, true => forceN (Nat.add off (Nat.mul l e.size)) fun o => forceN (Nat.sub h l) fun m => some (.val (.slice b o m e.size (Nat.beq h n)) H nx)
        | _, _, _ => none
      | _, _, _, _ => none
    | _, _ => none

theorem lt_cut (n z l h : Nat) : cutX n z l h < 256 ^ (h - l) := by
  rw [cutX_eq]; exact Nat.mod_lt _ (pow_pos256 _)

theorem opSlice_ok {P : Program} {o : Oper} {t : TypeId} {x : Operand} {lo hi mx : Option Operand} {ρ : Operand → AVal} {H : Heap} {nx : Nat} {r : ARes} (ho : o.op = .slice t x lo hi mx)
    (h : opSlice P t x lo hi mx ρ H nx = some r) : OpOK P o ρ H nx r := by
  unfold opSlice at h
  split at h <;> first | (cases h; done) | skip
  split at h
  · rename_i n z hu hx
    split at h <;> first | (cases h; done) | skip
    rename_i l hh hl hhi
    split at h <;> first | (cases h; done) | skip
    rename_i h1 h2
    have h1' := Nat.le_of_ble_eq_true h1
    have h2' := Nat.le_of_ble_eq_true h2
    rw [forceN_eq, forceN_eq] at h
    cases h
    refine OpOK.pure fun σ w ρ' _ hd => ?_
    have d := hd x; rw [hx] at d
    cases e : ρ' x <;> rw [e] at d <;> cases d
    refine ⟨.string (dec (hh - l) (cutX n z l hh)), .str _ _ (lt_cut _ _ _ _), ?_⟩
    have hb := run_sliceBounds (P := P) (w := w) (isS := false) (len := n) (cap := n) (bnd_ok hd hhi) h1' (bnd_ok hd hl) h2'
    have hx2 := dec_extract n z l hh h1' h2'
    rw [← cutX_eq] at hx2
    have hsz := dec_size n z
    simp [execOp, ho, e, Instr.sliceAt, Instr.slice, run_underlying' hu, hsz, hb, hx2]
  · rename_i elem b off len esz full hu hx
    split at h <;> first | (cases h; done) | skip
    rename_i l hh ei hl hhi hei
    split at h <;> first | (cases h; done) | skip
    rename_i h1 h2 h3
    have h1' := Nat.le_of_ble_eq_true h1
    have h2' := Nat.le_of_ble_eq_true h2
    have h3' := Nat.eq_of_beq_eq_true h3
    rw [forceN_eq, forceN_eq] at h
    cases h
    refine OpOK.pure fun σ w ρ' _ hd => ?_
    have d := hd x; rw [hx] at d
    cases e : ρ' x <;> rw [e] at d <;> cases d
    · rename_i cap cb sz hb g1 g2 g3
      have hbd := run_sliceBounds (P := P) (w := w) (isS := true) (len := len) (cap := cap) (bnd_ok hd hhi) (by omega) (bnd_ok hd hl) h2'
      by_cases hm : cap = l
      · refine ⟨.slice (some (at' cb off)) (hh - l) (cap - l), ?_, ?_⟩
        · have e1 : hh - l = 0 := by omega
          have e2 : cap - l = 0 := by omega
          rw [e2]
          show Den σ (.slice b _ (hh - l) esz _) (.slice (some (at' cb off)) (hh - l) 0)
          rw [e1]
          exact .slice0 hb
        · simp only [execOp, ho, e, Instr.sliceAt, Instr.slice, Sem.run_bind, Sem.run_pure, Result.andThen_ok, run_underlying' hu, Option.map_none, hbd, run_sizeOf' hei, if_pos hm]
      · refine ⟨.slice (some (at' cb (off + l * esz))) (hh - l) (cap - l), .slice hb (show hh - l ≤ cap - l by omega) ?_ ?_, ?_⟩
        · have : off + l * esz + (cap - l) * esz = off + cap * esz := by
            rw [Nat.add_assoc, ← Nat.add_mul]
            congr 2
            omega
          show off + l * esz + (cap - l) * esz ≤ sz
          omega
        · intro hf
          cases hq : Nat.beq hh len with
          | true =>
            have := Nat.eq_of_beq_eq_true hq
            rw [hq] at hf
            have := g3 hf
            show cap - l = hh - l
            omega
          | false => rw [hq] at hf; cases hf
        · have := addr_add cb off (l * esz)
          simp [execOp, ho, e, Instr.sliceAt, Instr.slice, run_underlying' hu, hbd, run_sizeOf' hei, hm, h3', this]
    · rename_i off' cb sz hb
      have hl0 : l = 0 := by omega
      have hh0 : hh = 0 := by omega
      subst hl0
      subst hh0
      have hbd := run_sliceBounds (P := P) (w := w) (isS := true) (len := 0) (cap := 0) (bnd_ok hd hhi) (by omega) (bnd_ok hd hl) h2'
      refine ⟨.slice (some (at' cb off')) 0 0, .slice0 hb, ?_⟩
      simp [execOp, ho, e, Instr.sliceAt, Instr.slice, run_underlying' hu, hbd, run_sizeOf' hei]
  · rename_i elem hu hx
    split at h <;> first | (cases h; done) | skip
    rename_i ei hl hhi hei
    cases h
    refine OpOK.pure fun σ w ρ' _ hd => ?_
    have d := hd x; rw [hx] at d
    cases e : ρ' x <;> rw [e] at d <;> cases d
    have hbd := run_sliceBounds (P := P) (w := w) (isS := true) (len := 0) (cap := 0) (bnd_ok hd hhi) (by omega) (bnd_ok hd hl) (Nat.le_refl _)
    refine ⟨.slice none 0 0, .nilSlice, ?_⟩
    simp [execOp, ho, e, Instr.sliceAt, Instr.slice, run_underlying' hu, hbd, run_sizeOf' hei]
  · rename_i n elem b off hu hx
    split at h <;> first | (cases h; done) | skip
    rename_i l hh ei cnt ct olds sp hl hhi hei hblk
    split at h <;> first | (cases h; done) | skip
    rename_i h1 h2 h3
    have h1' := Nat.le_of_ble_eq_true h1
    have h2' := Nat.le_of_ble_eq_true h2
    have h3' := Nat.le_of_ble_eq_true h3
    rw [forceN_eq, forceN_eq] at h
    cases h
    refine OpOK.pure fun σ w ρ' hr hd => ?_
    have d := hd x; rw [hx] at d
    cases e : ρ' x <;> rw [e] at d <;> cases d
    rename_i cb sz hb
    obtain ⟨o1, _, _, _⟩ := hr.obj b _ cb sz hblk hb
    have hbd := run_sliceBounds (P := P) (w := w) (isS := false) (len := n) (cap := n) (bnd_ok hd hhi) h1' (bnd_ok hd hl) h2'
    by_cases hm : n = l
    · refine ⟨.slice (some (at' cb off)) (hh - l) (n - l), ?_, ?_⟩
      · have e1 : hh - l = 0 := by omega
        have e2 : n - l = 0 := by omega
        rw [e2]
        show Den σ (.slice b _ (hh - l) ei.size _) (.slice (some (at' cb off)) (hh - l) 0)
        rw [e1]
        exact .slice0 hb
      · simp only [execOp, ho, e, Instr.sliceAt, Instr.sureAddr, Sem.run_bind, Sem.run_pure, Result.andThen_ok, run_underlying' hu, Option.map_none, hbd, run_sizeOf' hei, if_pos hm]
    · refine ⟨.slice (some (at' cb (off + l * ei.size))) (hh - l) (n - l), .slice hb (show hh - l ≤ n - l by omega) ?_ ?_, ?_⟩
      · have : off + l * ei.size + (n - l) * ei.size = off + n * ei.size := by
          rw [Nat.add_assoc, ← Nat.add_mul]
          congr 2
          omega
        have h3'' : off + n * ei.size ≤ cnt := h3'
        show off + l * ei.size + (n - l) * ei.size ≤ sz
        omega
      · intro hf
        have := Nat.eq_of_beq_eq_true hf
        show n - l = hh - l
        omega
      · have := addr_add cb off (l * ei.size)
        simp [execOp, ho, e, Instr.sliceAt, Instr.sureAddr, run_underlying' hu, hbd, run_sizeOf' hei, hm, this]
  · cases h

/-! ### Assertions -/
def okTuple (ok : Bool) (v : AVal) : AVal := match ok with | true => .tuple [v, .bool true] | false => v

def aFails (P : Program) (asserted : TypeId) (ok : Bool) : Option AVal :=
  match ok with
  | true => match P.info? asserted with
    | some i => match i.zero with
      | some z => some (.tuple [ofVal z, .bool false])
      | none => none
    | none => none
  | false => none

def aAssert (P : Program) (v : AVal) (asserted : TypeId) (ok : Bool) : Option AVal :=
  match P.underlying asserted, v with
  | some (.interface _), .nilIface => aFails P asserted ok
  | some (.interface want), .iface t x => match P.info? t with
    | some i => match Instr.missingMethod want i.methods with
      | none => some (okTuple ok (.iface t x))
      | some _ => aFails P asserted ok
    | none => none
  | some d, .nilIface => match ifaceD d with
    | false => aFails P asserted ok
    | true => none
  | some d, .iface t x => match ifaceD d with
    | false => match Nat.beq t asserted with
      | true => some (okTuple ok x)
      | false => aFails P asserted ok
    | true => none
  | _, _ => none

theorem den_okTuple {σ : Sg} {v : AVal} {v' : Value} (ok : Bool) (h : Den σ v v') : Den σ (okTuple ok v) (if ok then .tuple #[v', .bool true] else v') := by
  cases ok with
  | true => exact .tuple (.cons h (.cons (.bool _) .nil))
  | false => exact h

def opAssert (P : Program) (x : Operand) (asserted : TypeId) (ok : Bool) (ρ : Operand → AVal) (H : Heap) (nx : Nat) : Option ARes :=
  match aAssert P (ρ x) asserted ok with
  | some v => some (.val v H nx)
  | none => none

theorem opAssert_ok {P : Program} {o : Oper} {x : Operand} {xt asserted : TypeId} {ok : Bool} {ρ : Operand → AVal} {H : Heap} {nx : Nat} {r : ARes} (ho : o.op = .typeAssert x xt asserted ok)
    (h : opAssert P x asserted ok ρ H nx = some r) : OpOK P o ρ H nx r := by
  unfold opAssert at h
  split at h <;> first | (cases h; done) | skip
  rename_i v hv
  cases h
  have fails : ∀ {u : AVal} {σ : Sg}, aFails P asserted ok = some u → ok = true ∧ ∃ i z, P.info? asserted = some i ∧ i.zero = some z ∧ u = .tuple [ofVal z, .bool false] ∧ Den σ u (.tuple #[z, .bool false]) := by
    intro u σ hu
    unfold aFails at hu
    split at hu <;> first | (cases hu; done) | skip
    split at hu <;> first | (cases hu; done) | skip
    rename_i i hi
    split at hu <;> first | (cases hu; done) | skip
    rename_i z hz
    cases hu
    exact ⟨rfl, i, z, hi, hz, rfl, .tuple (.cons (den_ofVal σ z) (.cons (.bool _) .nil))⟩
  refine OpOK.pure fun σ w ρ' _ hd => ?_
  have d := hd x
  unfold aAssert at hv
  split at hv
  · rename_i want hu hx
    rw [hx] at d
    cases e : ρ' x <;> rw [e] at d <;> cases d
    obtain ⟨hok, i, z, hi, hz, _, dz⟩ := fails (σ := σ) hv
    exact ⟨_, dz, by simp [execOp, ho, e, Instr.typeAssert, run_underlying' hu, hok, run_zeroValue' hi hz]⟩
  · rename_i want t y hu hx
    rw [hx] at d
    cases e : ρ' x <;> rw [e] at d <;> cases d
    rename_i y' dy
    split at hv <;> first | (cases hv; done) | skip
    rename_i i hi
    split at hv
    · rename_i hm
      cases hv
      exact ⟨_, den_okTuple ok (.iface dy), by simp [execOp, ho, e, Instr.typeAssert, run_underlying' hu, run_typeInfo' hi, hm]⟩
    · rename_i m hm
      obtain ⟨hok, j, z, hj, hz, _, dz⟩ := fails (σ := σ) hv
      exact ⟨_, dz, by simp [execOp, ho, e, Instr.typeAssert, run_underlying' hu, run_typeInfo' hi, hm, hok, run_zeroValue' hj hz]⟩
  · rename_i dd hni hu hx
    rw [hx] at d
    cases e : ρ' x <;> rw [e] at d <;> cases d
    split at hv <;> first | (cases hv; done) | skip
    rename_i hif
    obtain ⟨hok, j, z, hj, hz, _, dz⟩ := fails (σ := σ) hv
    refine ⟨_, dz, ?_⟩
    simp only [execOp, ho, e, Instr.typeAssert, Sem.run_bind, run_underlying' hu, Result.andThen_ok]
    cases dd <;> first | (cases hif; done) | (simp [hok, run_zeroValue' hj hz])
  · rename_i dd t y hni hu hx
    rw [hx] at d
    cases e : ρ' x <;> rw [e] at d <;> cases d
    rename_i y' dy
    split at hv <;> first | (cases hv; done) | skip
    rename_i hif
    split at hv
    · rename_i hq
      have hq' := Nat.eq_of_beq_eq_true hq
      cases hv
      refine ⟨_, den_okTuple ok dy, ?_⟩
      simp only [execOp, ho, e, Instr.typeAssert, Sem.run_bind, run_underlying' hu, Result.andThen_ok]
      cases dd <;> first | (cases hif; done) | (simp [hq'])
    · rename_i hq
      have hq' : ¬ t = asserted := fun e => by subst e; simp at hq
      obtain ⟨hok, j, z, hj, hz, _, dz⟩ := fails (σ := σ) hv
      refine ⟨_, dz, ?_⟩
      simp only [execOp, ho, e, Instr.typeAssert, Sem.run_bind, run_underlying' hu, Result.andThen_ok]
      cases dd <;> first | (cases hif; done) | (simp [hq', hok, run_zeroValue' hj hz])
  · cases hv

/-! ### Calls -/
/-- A function that has a body. -/
def hasBody (P : Program) (f : FuncId) : Bool :=
  match P.funcs[f]? with
  | some fn => match fn.body with
    | some _ => !(fn.name == "runtime.NumGoroutine")
    | none => false
  | none => false

theorem run_callFunc {P : Program} {f : FuncId} (h : hasBody P f = true) (args : Array Value) (w : World) : (callFunc f args).run P w = .ok (.enter f args) w := by
  unfold hasBody at h
  split at h <;> first | (cases h; done) | skip
  rename_i fn hf
  split at h <;> first | (cases h; done) | skip
  rename_i c hb
  have hn : ¬ fn.name = "runtime.NumGoroutine" := by simpa using h
  simp [callFunc, hf, hb, hn]

def callTo (P : Program) (v : AVal) (args : List AVal) : Option (FuncId × List AVal) :=
  match v with
  | .func (.func f) first captured => match hasBody P f with
    | true => some (f, first ++ args ++ captured)
    | false => none
  | _ => none

def lenOfA (P : Program) (t : TypeId) (v : AVal) : Option Nat :=
  match P.underlying t, v with
  | some .string, .str n _ => some n
  | some (.array n _), _ => some n
  | some (.slice _), .slice _ _ n _ _ => some n
  | some (.slice _), .nilSlice => some 0
  | _, _ => none

theorem lenOfA_ok {P : Program} {t : TypeId} {v : AVal} {v' : Value} {n : Nat} {σ : Sg} {w : World} {u : TypeId} (h : lenOfA P t v = some n) (hd : Den σ v v') :
    (Builtin.len_ #[t] u #[v']).run P w = .ok (.int .i64 (n : Int)) w := by
  unfold lenOfA at h
  split at h
  · rename_i hu; cases h; cases hd
    have := dec_size n ‹_›
    simp [Builtin.len_, run_underlying' hu, goInt, this]
  · rename_i hu; cases h; simp [Builtin.len_, run_underlying' hu, goInt]
  · rename_i hu; cases h; cases hd <;> simp [Builtin.len_, run_underlying' hu, goInt]
  · rename_i hu; cases h; cases hd; simp [Builtin.len_, run_underlying' hu, goInt]
  · cases h

def opCallV (P : Program) (f : Operand) (args : Array Operand) (ρ : Operand → AVal) (_H : Heap) (_nx : Nat) : Option ARes :=
  match callTo P (ρ f) (args.toList.map ρ) with
  | some (g, as) => some (.call g as)
  | none => none

theorem callTo_ok {P : Program} {v : AVal} {v' : Value} {args : List AVal} {args' : List Value} {f : FuncId} {as : List AVal} {σ : Sg} (h : callTo P v args = some (f, as)) (hv : Den σ v v') (ha : DenL σ args args') :
    hasBody P f = true ∧ ∃ first captured : List Value, v' = .func (.func f) ⟨first⟩ ⟨captured⟩ ∧ DenL σ as (first ++ args' ++ captured) := by
  unfold callTo at h
  split at h <;> first | (cases h; done) | skip
  split at h <;> first | (cases h; done) | skip
  rename_i hb
  cases h
  cases hv with
  | func h1 h2 => exact ⟨hb, _, _, rfl, (h1.append ha).append h2⟩

theorem opCallV_ok {P : Program} {o : Oper} {f : Operand} {c : Call} {ρ : Operand → AVal} {H : Heap} {nx : Nat} {r : ARes} (ho : o.op = .call c) (hc : c.callee = .value f)
    (h : opCallV P f c.args ρ H nx = some r) : OpOK P o ρ H nx r := by
  unfold opCallV at h
  split at h <;> first | (cases h; done) | skip
  rename_i g as hg
  cases h
  intro σ w ρ' hr hd
  obtain ⟨hb, first, captured, e, hl⟩ := callTo_ok hg (hd f) (denL_map hd c.args.toList)
  refine ⟨_, hl, ?_⟩
  simp only [execOp, ho, resolve, hc, e, Deferred.ofValue, Sem.run_bind, Sem.run_pure, Result.andThen_ok, invoke, run_callFunc hb, arr_map]
  simp

def opDefer (P : Program) (f : Operand) (args : Array Operand) (ρ : Operand → AVal) (_H : Heap) (_nx : Nat) : Option ARes :=
  match callTo P (ρ f) (args.toList.map ρ) with
  | some (g, as) => some (.dfr g as)
  | none => none

theorem opDefer_ok {P : Program} {o : Oper} {f : Operand} {c : Call} {ρ : Operand → AVal} {H : Heap} {nx : Nat} {r : ARes} (ho : o.op = .defer c) (hc : c.callee = .value f)
    (h : opDefer P f c.args ρ H nx = some r) : OpOK P o ρ H nx r := by
  unfold opDefer at h
  split at h <;> first | (cases h; done) | skip
  rename_i g as hg
  cases h
  intro σ w ρ' hr hd
  obtain ⟨hb, first, captured, e, hl⟩ := callTo_ok hg (hd f) (denL_map hd c.args.toList)
  refine ⟨{ target := .fn (.func g) ⟨captured⟩, args := ⟨first⟩ ++ c.args.map ρ' }, ⟨⟨captured⟩, rfl, ?_⟩, ?_⟩
  · have e2 : ((⟨first⟩ ++ c.args.map ρ' : Array Value) ++ ⟨captured⟩).toList = first ++ c.args.toList.map ρ' ++ captured := by simp
    rw [e2]; exact hl
  · simp [execOp, ho, resolve, hc, e, Deferred.ofValue]

def opPanic (x : Operand) (ρ : Operand → AVal) (_H : Heap) (_nx : Nat) : Option ARes :=
  match ρ x with
  | .iface t v => some (.pan (.iface t v))
  | _ => none

theorem opPanic_ok {P : Program} {o : Oper} {x : Operand} {ρ : Operand → AVal} {H : Heap} {nx : Nat} {r : ARes} (ho : o.op = .panic x)
    (h : opPanic x ρ H nx = some r) : OpOK P o ρ H nx r := by
  unfold opPanic at h
  split at h <;> first | (cases h; done) | skip
  rename_i t v hx
  cases h
  intro σ w ρ' hr hd
  have d := hd x; rw [hx] at d
  cases e : ρ' x <;> rw [e] at d <;> cases d
  rename_i v' dv
  exact ⟨_, .iface dv, by simp [execOp, ho, e, Instr.panic]⟩

/-- max and min of numbers. -/
def aMost (greatest : Bool) (k : IntKind) (n : Int) : List AVal → Option Int
  | [] => some n
  | .int _ m :: l => aMost greatest k (Bool.rec (Bool.rec n m (ilt m n)) (Bool.rec n m (ilt n m)) greatest) l
  | _ :: _ => none

theorem aMost_max {P : Program} {w : World} {σ : Sg} {k : IntKind} : ∀ {l : List AVal} {l' : List Value} {n m : Int}, aMost true k n l = some m → DenL σ l l' →
    (l'.foldlM Builtin.max2 (.int k n)).run P w = .ok (.int k m) w
  | [], _, n, m, h, .nil => by cases h; rfl
  | .int j q :: l, v' :: l', n, m, h, .cons hd ht => by
    cases hd
    have e : Bool.rec (motive := fun _ => Int) n q (ilt n q) = if q > n then q else n := by
      rw [ilt_eq]
      by_cases hq : n < q
      · simp [hq]
      · simp [hq]
    have := aMost_max (P := P) (w := w) (l := l) (n := Bool.rec (motive := fun _ => Int) n q (ilt n q)) h ht
    simp only [List.foldlM_cons, Builtin.max2, Sem.run_bind, Sem.run_pure, Result.andThen_ok]
    rw [← e]
    exact this

theorem aMost_min {P : Program} {w : World} {σ : Sg} {k : IntKind} : ∀ {l : List AVal} {l' : List Value} {n m : Int}, aMost false k n l = some m → DenL σ l l' →
    (l'.foldlM Builtin.min2 (.int k n)).run P w = .ok (.int k m) w
  | [], _, n, m, h, .nil => by cases h; rfl
  | .int j q :: l, v' :: l', n, m, h, .cons hd ht => by
    cases hd
    have e : Bool.rec (motive := fun _ => Int) n q (ilt q n) = if q < n then q else n := by
      rw [ilt_eq]
      by_cases hq : q < n
      · simp [hq]
      · simp [hq]
    have := aMost_min (P := P) (w := w) (l := l) (n := Bool.rec (motive := fun _ => Int) n q (ilt q n)) h ht
    simp only [List.foldlM_cons, Builtin.min2, Sem.run_bind, Sem.run_pure, Result.andThen_ok]
    rw [← e]
    exact this

/-- The builtin functions that touch nothing. -/
def opBuiltin0 (P : Program) (b : Builtin) (types : Array TypeId) (args : Array Operand) (ρ : Operand → AVal) (H : Heap) (nx : Nat) : Option ARes :=
  match b, types.toList, args.toList with
  | .len, [t], [x] => match lenOfA P t (ρ x) with
    | some n => some (.val (.int .i64 (.ofNat n)) H nx)
    | none => none
  | .max, _, x :: l => match ρ x with
    | .int k n => match aMost true k n (l.map ρ) with
      | some m => forceI m fun m => some (.val (.int k m) H nx)
      | none => none
    | _ => none
  | .min, _, x :: l => match ρ x with
    | .int k n => match aMost false k n (l.map ρ) with
      | some m => forceI m fun m => some (.val (.int k m) H nx)
      | none => none
    | _ => none
  | .recover, _, [] => some .rcv
  | _, _, _ => none

theorem opBuiltin0_ok {P : Program} {o : Oper} {b : Builtin} {c : Call} {ρ : Operand → AVal} {H : Heap} {nx : Nat} {r : ARes} (ho : o.op = .call c) (hc : c.callee = .builtin b)
    (h : opBuiltin0 P b c.argTypes c.args ρ H nx = some r) : OpOK P o ρ H nx r := by
  unfold opBuiltin0 at h
  split at h <;> first | (cases h; done) | skip
  · rename_i t x ht hx
    split at h <;> first | (cases h; done) | skip
    rename_i n hn
    cases h
    refine OpOK.pure fun σ w ρ' _ hd => ⟨.int .i64 (n : Int), .int _ _, ?_⟩
    have e1 : c.argTypes = #[t] := by apply Array.ext'; rw [ht]
    have e2 : c.args = #[x] := by apply Array.ext'; rw [hx]
    simp [execOp, ho, resolve, hc, invoke, builtin, e1, e2, lenOfA_ok (P := P) (w := w) hn (hd x)]
  · rename_i x l hx
    split at h <;> first | (cases h; done) | skip
    rename_i k n hk
    split at h <;> first | (cases h; done) | skip
    rename_i m hm
    rw [forceI_eq] at h
    cases h
    refine OpOK.pure fun σ w ρ' _ hd => ⟨.int k m, .int _ _, ?_⟩
    have d := hd x; rw [hk] at d
    cases e : ρ' x <;> rw [e] at d <;> cases d
    have e2 : c.args = ⟨x :: l⟩ := by apply Array.ext'; rw [hx]
    have := aMost_max (P := P) (w := w) hm (denL_map hd l)
    simp [execOp, ho, resolve, hc, invoke, builtin, e2, Builtin.max_, e, this]
  · rename_i x l hx
    split at h <;> first | (cases h; done) | skip
    rename_i k n hk
    split at h <;> first | (cases h; done) | skip
    rename_i m hm
    rw [forceI_eq] at h
    cases h
    refine OpOK.pure fun σ w ρ' _ hd => ⟨.int k m, .int _ _, ?_⟩
    have d := hd x; rw [hk] at d
    cases e : ρ' x <;> rw [e] at d <;> cases d
    have e2 : c.args = ⟨x :: l⟩ := by apply Array.ext'; rw [hx]
    have := aMost_min (P := P) (w := w) hm (denL_map hd l)
    simp [execOp, ho, resolve, hc, invoke, builtin, e2, Builtin.min_, e, this]
  · cases h
    intro σ w ρ' _ hd
    simp [execOp, ho, resolve, hc, invoke, builtin]

end
end Go.Ev
