/-
  Own work. Texts of a proof, laid together; no condition.
-/
import Derived.Laws.BytesString
import Derived.Laws.Append
import Derived.MapKept
import Derived.LoopN
import Derived.Tactics
import Derived.Test.YtnkeadjkckpknaaGreatDoorMem2
set_option linter.unusedSectionVars false
set_option linter.unusedVariables false
set_option linter.unusedSimpArgs false
set_option maxRecDepth 1000000
section
namespace Go.Ev
variable [GTab] {P : Program} {H : Heap} {nx : Nat} {w : World} {o : Oper}
noncomputable section
def opFieldAddr (P : Program) (s : TypeId) (x : Operand) (f : Nat) (ρ : Operand → AVal) (H : Heap) (nx : Nat) : Option ARes :=
 match P.underlying s with
 | some (.struct fields) => match fields[f]? with
  | some fd => match P.info? fd.type with
   | some i => match Nat.beq i.size 0 with
    | false => match ρ x with
     | .ptr b off => some (.val (.ptr b (Nat.add off fd.offset)) H nx)
     | .gptr g off => some (.val (.gptr g (Nat.add off fd.offset)) H nx)
     | _ => none
    | true => none
   | none => none
  | none => none
 | _ => none
theorem opFieldAddr_ok {s : TypeId} {x : Operand} {f : Nat} {ρ : Operand → AVal} {r : ARes} (ho : o.op = .fieldAddr s x f)
  (h : opFieldAddr P s x f ρ H nx = some r) : OpOK P o ρ H nx r := by
 unfold opFieldAddr at h
 split at h <;> try (cases h; done)
 rename_i fields hu
 split at h <;> try (cases h; done)
 rename_i fd hf
 split at h <;> try (cases h; done)
 rename_i i hi
 split at h <;> try (cases h; done)
 rename_i hz
 have hz' : ¬ i.size = 0 := fun e => by rw [e] at hz; cases hz
 split at h <;> try (cases h; done)
 ·rename_i b off hx
  cases h
  refine OpOK.pure fun σ w ρ' _ hd => ?_
  have d := hd x
  rw [hx] at d
  cases e : ρ' x <;> rw [e] at d <;> cases d
  rename_i cb sz hb
  refine ⟨.pointer (some (at' cb (off + fd.offset))), .ptr hb, ?_⟩
  have := addr_add cb off fd.offset
  simp [execOp, ho, Instr.fieldAt, run_underlying' hu, hf, e, Instr.sureAddr, fieldPlace, run_sizeOf' hi, hz', this]
 ·rename_i g off hx
  cases h
  refine OpOK.pure fun σ w ρ' _ hd => ?_
  have d := hd x
  rw [hx] at d
  cases e : ρ' x <;> rw [e] at d <;> cases d
  refine ⟨.pointer (some (at' g (off + fd.offset))), .gptr _ _, ?_⟩
  have := addr_add g off fd.offset
  simp [execOp, ho, Instr.fieldAt, run_underlying' hu, hf, e, Instr.sureAddr, fieldPlace, run_sizeOf' hi, hz', this]
def aPart (P : Program) (t : TypeId) (cs : List AVal) (off : Nat) : Option AVal :=
 match P.underlying t, P.info? t with
 | some d, some i => match aggD d with
  | true => some (.agg (List.take i.size (List.drop off cs)))
  | false => match List.drop off cs with
   | v :: _ => some v
   | [] => none
 | _, _ => none
theorem aPart_ok {t : TypeId} {cs : List AVal} {cs' : List Value} {off : Nat} {v : AVal} {σ : Sg} (h : aPart P t cs off = some v) (hd : DenL σ cs cs') :
  ∃ v', Den σ v v' ∧ (part t ⟨cs'⟩ off).run P w = .ok v' w := by
 unfold aPart at h
 split at h <;> try (cases h; done)
 rename_i d i hu hi
 split at h
 ·rename_i hagg
  cases h
  refine ⟨.agg ⟨(cs'.drop off).take i.size⟩, .agg ((hd.drop off).take i.size), ?_⟩
  have e : (Array.mk cs').extract off (off + i.size) = ⟨(cs'.drop off).take i.size⟩ := by
   apply Array.ext'
   simp [List.extract]
  simp [part, run_isAgg' hu, hagg, run_sizeOf' hi]
 ·rename_i hagg
  split at h <;> try (cases h; done)
  rename_i v0 rest hdrop
  cases h
  have hl := hd.drop off
  rw [hdrop] at hl
  cases hl' : cs'.drop off with
  | nil => rw [hl'] at hl; cases hl
  | cons v' rest' =>
   rw [hl'] at hl
   cases hl with
   | cons hv _ =>
    refine ⟨v', hv, ?_⟩
    have e : (Array.mk cs')[off]? = some v' := by
     have : cs'[off]? = some v' := by
      have := congrArg (fun l : List Value => l[0]?) hl'
      simpa using this
     simpa using this
    simp [part, run_isAgg' hu, hagg, e]
def opField (P : Program) (t : TypeId) (x : Operand) (f : Nat) (ρ : Operand → AVal) (H : Heap) (nx : Nat) : Option ARes :=
 match P.underlying t with
 | some (.struct fields) => match fields[f]? with
  | some fd => match ρ x with
   | .agg cs => match aPart P fd.type cs fd.offset with
    | some v => some (.val v H nx)
    | none => none
   | _ => none
  | none => none
 | _ => none
theorem opField_ok {t : TypeId} {x : Operand} {f : Nat} {ρ : Operand → AVal} {r : ARes} (ho : o.op = .field t x f)
  (h : opField P t x f ρ H nx = some r) : OpOK P o ρ H nx r := by
 unfold opField at h
 split at h <;> try (cases h; done)
 rename_i fields hu
 split at h <;> try (cases h; done)
 rename_i fd hf
 split at h <;> try (cases h; done)
 rename_i cs hx
 split at h <;> try (cases h; done)
 rename_i v hv
 cases h
 refine OpOK.pure fun σ w ρ' _ hd => ?_
 have d := hd x
 rw [hx] at d
 cases e : ρ' x <;> rw [e] at d <;> cases d
 rename_i cs' hl
 obtain ⟨v', dv, hrun⟩ := aPart_ok (w := w) hv hl
 exact ⟨v', dv, by simp [execOp, ho, Instr.field, run_underlying' hu, hf, e, asAgg, hrun]⟩
def asNat : Int → Option Nat
 | .ofNat n => some n
 | .negSucc _ => none
theorem asNat_ok {i : Int} {n : Nat} (h : asNat i = some n) : i = (n : Int) := by cases i <;> cases h; rfl
def opIndexAddr (P : Program) (t : TypeId) (x ix : Operand) (ρ : Operand → AVal) (H : Heap) (nx : Nat) : Option ARes :=
 match ρ ix with
 | .int _ i => match asNat i with
  | some n => match P.underlying t, ρ x with
   | some (.array len elem), .ptr b off => match Nat.ble (Nat.succ n) len, P.info? elem with
    | true, some e => some (.val (.ptr b (Nat.add off (Nat.mul n e.size))) H nx)
    | _, _ => none
   | some (.array len elem), .gptr g off => match Nat.ble (Nat.succ n) len, P.info? elem with
    | true, some e => some (.val (.gptr g (Nat.add off (Nat.mul n e.size))) H nx)
    | _, _ => none
   | some (.slice elem), .slice b off len _ _ => match Nat.ble (Nat.succ n) len, P.info? elem with
    | true, some e => some (.val (.ptr b (Nat.add off (Nat.mul n e.size))) H nx)
    | _, _ => none
   | _, _ => none
  | none => none
 | _ => none
theorem opIndexAddr_ok {t : TypeId} {x ix : Operand} {ρ : Operand → AVal} {r : ARes} (ho : o.op = .indexAddr t x ix)
  (h : opIndexAddr P t x ix ρ H nx = some r) : OpOK P o ρ H nx r := by
 unfold opIndexAddr at h
 split at h <;> try (cases h; done)
 rename_i k i hix
 split at h <;> try (cases h; done)
 rename_i n hn
 have hi := asNat_ok hn
 subst hi
 split at h
 ·rename_i len elem b off hu hx
  split at h <;> try (cases h; done)
  rename_i ei hle he
  have hlt := Nat.le_of_ble_eq_true hle
  cases h
  refine OpOK.pure fun σ w ρ' _ hd => ?_
  have d := hd x; have d2 := hd ix
  rw [hx] at d; rw [hix] at d2
  cases e : ρ' x <;> rw [e] at d <;> cases d
  cases e2 : ρ' ix <;> rw [e2] at d2 <;> cases d2
  rename_i cb sz hb
  refine ⟨.pointer (some (at' cb (off + n * ei.size))), .ptr hb, ?_⟩
  have := addr_add cb off (n * ei.size)
  have h1 : n < len := by omega
  simp [execOp, ho, Instr.indexAt, e, e2, asIntOf, run_underlying' hu, Instr.sureAddr, h1, run_sizeOf' he, this]
 ·rename_i len elem g off hu hx
  split at h <;> try (cases h; done)
  rename_i ei hle he
  have hlt := Nat.le_of_ble_eq_true hle
  cases h
  refine OpOK.pure fun σ w ρ' _ hd => ?_
  have d := hd x; have d2 := hd ix
  rw [hx] at d; rw [hix] at d2
  cases e : ρ' x <;> rw [e] at d <;> cases d
  cases e2 : ρ' ix <;> rw [e2] at d2 <;> cases d2
  refine ⟨.pointer (some (at' g (off + n * ei.size))), .gptr _ _, ?_⟩
  have := addr_add g off (n * ei.size)
  have h1 : n < len := by omega
  simp [execOp, ho, Instr.indexAt, e, e2, asIntOf, run_underlying' hu, Instr.sureAddr, h1, run_sizeOf' he, this]
 ·rename_i elem b off len esz full hu hx
  split at h <;> try (cases h; done)
  rename_i ei hle he
  have hlt := Nat.le_of_ble_eq_true hle
  cases h
  refine OpOK.pure fun σ w ρ' _ hd => ?_
  have d := hd x; have d2 := hd ix
  rw [hx] at d; rw [hix] at d2
  cases e : ρ' x <;> rw [e] at d <;> cases d
  ·cases e2 : ρ' ix <;> rw [e2] at d2 <;> cases d2
   rename_i cb sz hb h1 h2 h3
   refine ⟨.pointer (some (at' cb (off + n * ei.size))), .ptr hb, ?_⟩
   have := addr_add cb off (n * ei.size)
   have h1 : n < len := by omega
   simp [execOp, ho, Instr.indexAt, e, e2, asIntOf, run_underlying' hu, h1, run_sizeOf' he, this]
  ·omega
 ·cases h
def opIndex (P : Program) (t : TypeId) (x ix : Operand) (ρ : Operand → AVal) (H : Heap) (nx : Nat) : Option ARes :=
 match ρ ix with
 | .int _ i => match asNat i with
  | some n => match P.underlying t, ρ x with
   | some (.array len elem), .agg cs => match Nat.ble (Nat.succ n) len, P.info? elem with
    | true, some e => match aPart P elem cs (Nat.mul n e.size) with
     | some v => some (.val v H nx)
     | none => none
    | _, _ => none
   | some .string, .str l z => match Nat.ble (Nat.succ n) l with
    | true => forceN (cutX l z n (Nat.succ n)) fun c => some (.val (.int .u8 (.ofNat c)) H nx)
    | _ => none
   | _, _ => none
  | none => none
 | _ => none
theorem dec_get (l z n : Nat) (h : n < l) : (dec l z)[n]? = some (UInt8.ofNat (z / 256 ^ (l - 1 - n))) := by
 have hs : n < (dec l z).size := by rw [dec_size]; exact h
 rw [ByteArray.getElem?_lt' _ _ hs]
 have e := digs_getElem? l z n h
 have e2 : (dec l z)[n] = (digs l z)[n]'(by rw [digs_length]; exact h) := rfl
 rw [e2]
 rw [List.getElem?_eq_getElem (by rw [digs_length]; exact h)] at e
 exact e
theorem opIndex_ok {t : TypeId} {x ix : Operand} {ρ : Operand → AVal} {r : ARes} (ho : o.op = .index t x ix)
  (h : opIndex P t x ix ρ H nx = some r) : OpOK P o ρ H nx r := by
 unfold opIndex at h
 split at h <;> try (cases h; done)
 rename_i k i hix
 split at h <;> try (cases h; done)
 rename_i n hn
 have hi := asNat_ok hn
 subst hi
 split at h
 ·rename_i len elem cs hu hx
  split at h <;> try (cases h; done)
  rename_i ei hle he
  have hlt := Nat.le_of_ble_eq_true hle
  split at h <;> try (cases h; done)
  rename_i v hv
  cases h
  refine OpOK.pure fun σ w ρ' _ hd => ?_
  have d := hd x; have d2 := hd ix
  rw [hx] at d; rw [hix] at d2
  cases e : ρ' x <;> rw [e] at d <;> cases d
  cases e2 : ρ' ix <;> rw [e2] at d2 <;> cases d2
  rename_i cs' hl
  obtain ⟨v', dv, hrun⟩ := aPart_ok (w := w) hv hl
  refine ⟨v', dv, ?_⟩
  have h1 : n < len := by omega
  have hrun' : (part elem ⟨cs'⟩ (n * ei.size)).run P w = .ok v' w := hrun
  simp [execOp, ho, Instr.index, e, e2, asIntOf, run_underlying' hu, h1, run_sizeOf' he, hrun']
 ·rename_i l z hu hx
  split at h <;> try (cases h; done)
  rename_i hle
  have hlt := Nat.le_of_ble_eq_true hle
  rw [forceN_eq] at h
  cases h
  refine OpOK.pure fun σ w ρ' _ hd => ?_
  have d := hd x; have d2 := hd ix
  rw [hx] at d; rw [hix] at d2
  cases e : ρ' x <;> rw [e] at d <;> cases d
  cases e2 : ρ' ix <;> rw [e2] at d2 <;> cases d2
  refine ⟨_, .int _ _, ?_⟩
  have hg := dec_get l z n (by omega)
  have e3 : ((UInt8.ofNat (z / 256 ^ (l - 1 - n))).toNat : Int) = Int.ofNat (cutX l z n (n + 1)) := by
   rw [cutX_eq]
   have a1 : l - (n + 1) = l - 1 - n := by omega
   have a2 : n + 1 - n = 1 := by omega
   rw [a1, a2]
   simp [UInt8.toNat_ofNat']
  simp only [execOp, ho, Instr.index, e, e2, asIntOf, Sem.run_bind, Sem.run_pure, Result.andThen_ok, run_underlying' hu]
  have h0 : (0 : Int) ≤ (n : Int) := by omega
  rw [if_pos h0, Int.toNat_natCast, hg]
  simp only [Sem.run_pure, Result.andThen_ok, e3]
 ·cases h
def opExtract (t : Operand) (i : Nat) (ρ : Operand → AVal) (H : Heap) (nx : Nat) : Option ARes :=
 match ρ t with
 | .tuple vs => match vs[i]? with
  | some v => some (.val v H nx)
  | none => none
 | _ => none
theorem opExtract_ok {t : Operand} {i : Nat} {ρ : Operand → AVal} {r : ARes} (ho : o.op = .extract t i)
  (h : opExtract t i ρ H nx = some r) : OpOK P o ρ H nx r := by
 unfold opExtract at h
 split at h <;> try (cases h; done)
 rename_i vs hx
 split at h <;> try (cases h; done)
 rename_i v hv
 cases h
 refine OpOK.pure fun σ w ρ' _ hd => ?_
 have d := hd t
 rw [hx] at d
 cases e : ρ' t <;> rw [e] at d <;> cases d
 rename_i vs' hl
 obtain ⟨v', hv', dv⟩ := hl.get i v hv
 exact ⟨v', dv, by simp [execOp, ho, Instr.extract, e, hv']⟩
def ifaceD : TypeDesc → Bool
 | .interface _ => true
 | _ => false
def opMakeInterface (P : Program) (t : TypeId) (x : Operand) (ρ : Operand → AVal) (H : Heap) (nx : Nat) : Option ARes :=
 match P.underlying t with
 | some d => match ifaceD d with
  | false => some (.val (.iface t (ρ x)) H nx)
  | true => none
 | none => none
theorem opMakeInterface_ok {t : TypeId} {x : Operand} {ρ : Operand → AVal} {r : ARes} (ho : o.op = .makeInterface t x)
  (h : opMakeInterface P t x ρ H nx = some r) : OpOK P o ρ H nx r := by
 unfold opMakeInterface at h
 split at h <;> try (cases h; done)
 rename_i d hu
 split at h <;> try (cases h; done)
 rename_i hd'
 cases h
 refine OpOK.pure fun σ w ρ' _ hd => ⟨.iface t (ρ' x), .iface (hd x), ?_⟩
 simp only [execOp, ho, Instr.makeInterface, Sem.run_bind, run_underlying' hu, Result.andThen_ok]
 cases d <;> first | rfl | (cases hd')
theorem denL_map {σ : Sg} {ρ : Operand → AVal} {ρ' : Operand → Value} (h : ∀ x, Den σ (ρ x) (ρ' x)) : ∀ l : List Operand, DenL σ (l.map ρ) (l.map ρ')
 | [] => .nil
 | x :: l => .cons (h x) (denL_map h l)
theorem arr_map {ρ' : Operand → Value} (xs : Array Operand) : xs.map ρ' = ⟨xs.toList.map ρ'⟩ := by
 apply Array.ext'
 simp
def opMakeFunc (fn : Fn) (first captured : Array Operand) (ρ : Operand → AVal) (H : Heap) (nx : Nat) : Option ARes :=
 some (.val (.func fn (first.toList.map ρ) (captured.toList.map ρ)) H nx)
theorem opMakeFunc_ok {fn : Fn} {first captured : Array Operand} {ρ : Operand → AVal} {r : ARes} (ho : o.op = .makeFunc fn first captured)
  (h : opMakeFunc fn first captured ρ H nx = some r) : OpOK P o ρ H nx r := by
 cases h
 refine OpOK.pure fun σ w ρ' _ hd => ⟨.func fn ⟨first.toList.map ρ'⟩ ⟨captured.toList.map ρ'⟩, .func (denL_map hd _) (denL_map hd _), ?_⟩
 simp only [execOp, ho, Instr.makeFunc, Sem.run_bind, Sem.run_pure, Result.andThen_ok, arr_map]
def opNilCheck (x : Operand) (ρ : Operand → AVal) (H : Heap) (nx : Nat) : Option ARes :=
 match ρ x with
 | .ptr b off => some (.val (.ptr b off) H nx)
 | .gptr g off => some (.val (.gptr g off) H nx)
 | .iface t v => some (.val (.iface t v) H nx)
 | .func (.func f) a b => some (.val (.func (.func f) a b) H nx)
 | _ => none
theorem opNilCheck_ok {x : Operand} {ρ : Operand → AVal} {r : ARes} (ho : o.op = .nilCheck x)
  (h : opNilCheck x ρ H nx = some r) : OpOK P o ρ H nx r := by
 unfold opNilCheck at h
 split at h <;> try (cases h; done)
 all_goals (rename_i hx; cases h; refine OpOK.pure fun σ w ρ' _ hd => ?_; have d := hd x; rw [hx] at d)
 all_goals (refine ⟨ρ' x, d, ?_⟩; cases e : ρ' x <;> rw [e] at d <;> cases d)
 all_goals (simp [execOp, ho, e])
def opUn (op : UnOp) (x : Operand) (ρ : Operand → AVal) (H : Heap) (nx : Nat) : Option ARes :=
 match op, ρ x with
 | .neg, .int k n => forceI (awrap k (Int.sub 0 n)) fun r => some (.val (.int k r) H nx)
 | .not, .bool b => some (.val (.bool (bnot b)) H nx)
 | .neg, .anyInt k m i => match symBin .sub (.int k 0) (.anyInt k m i) with
  | some v => some (.val v H nx)
  | none => none
 | _, _ => none
theorem opUn_ok {op : UnOp} {t : TypeId} {x : Operand} {ρ : Operand → AVal} {r : ARes} (ho : o.op = .unOp op t x)
  (h : opUn op x ρ H nx = some r) : OpOK P o ρ H nx r := by
 unfold opUn at h
 split at h <;> try (cases h; done)
 ·rename_i k n hx
  rw [forceI_eq, awrap_eq] at h
  cases h
  refine OpOK.pure fun σ w ρ' _ hd => ?_
  have d := hd x; rw [hx] at d
  refine ⟨_, .int _ _, ?_⟩
  cases e : ρ' x <;> rw [e] at d <;> cases d
  simp only [execOp, ho, e, Op.unary, Op.intArith, Sem.run_bind, Sem.run_pure, Result.andThen_ok]
  rfl
 ·rename_i b hx
  cases h
  refine OpOK.pure fun σ w ρ' _ hd => ?_
  have d := hd x; rw [hx] at d
  refine ⟨_, .bool _, ?_⟩
  cases e : ρ' x <;> rw [e] at d <;> cases d
  simp [execOp, ho, e, Op.unary, bnot_eq]
 ·rename_i k m i hx
  split at h <;> try (cases h; done)
  rename_i v hv
  cases h
  refine OpOK.pure fun σ w ρ' _ hd => ?_
  have d := hd x; rw [hx] at d
  obtain ⟨k', p, q, v', e1, e2, dv, hrun⟩ := symBin_ok (P := P) (w := w) (t := t) hv (.int k 0) d
  cases e1
  refine ⟨v', dv, ?_⟩
  rw [execOp, ho]
  have hrun' : (Op.intArith .sub k 0 q).run P w = .ok v' w := by simpa [binOp] using hrun
  simp only [e2, Op.unary, Sem.run_bind, hrun', Result.andThen_ok, Sem.run_pure]
def bytesAcc (l : List AVal) : Nat → Option Nat :=
 List.rec (motive := fun _ => Nat → Option Nat) (fun acc => some acc)
  (fun v _ ih acc => match v with
   | .int .u8 (.ofNat n) => match Nat.ble n 255 with
    | true => forceN (Nat.add (Nat.mul acc 256) n) ih
    | false => none
   | _ => none) l
theorem bytesAcc_ok : ∀ {l : List AVal} {acc z : Nat}, bytesAcc l acc = some z → ∃ bs : List UInt8, l = bs.map (fun b => AVal.int .u8 (.ofNat b.toNat)) ∧ z = numL acc bs
 | [], acc, z, h => by
  have h' : some acc = some z := h
  cases h'
  exact ⟨[], rfl, rfl⟩
 | v :: l, acc, z, h => by
  have h' : (match (generalizing := false) v with
   | .int .u8 (.ofNat n) => match Nat.ble n 255 with
    | true => forceN (Nat.add (Nat.mul acc 256) n) (bytesAcc l)
    | false => none
   | _ => none) = some z := h
  split at h' <;> first | (cases h'; done) | skip
  rename_i n
  split at h' <;> first | (cases h'; done) | skip
  rename_i hn
  have hn' : n < 256 := Nat.lt_of_le_of_lt (Nat.le_of_ble_eq_true hn) (by decide)
  rw [forceN_eq] at h'
  obtain ⟨bs, e1, e2⟩ := bytesAcc_ok h'
  have hb : (UInt8.ofNat n).toNat = n := by simp [UInt8.toNat_ofNat', Nat.mod_eq_of_lt hn']
  refine ⟨UInt8.ofNat n :: bs, by rw [List.map_cons, hb, e1], ?_⟩
  rw [e2]
  show numL (acc * 256 + n) bs = numL (acc * 256 + (UInt8.ofNat n).toNat) bs
  rw [hb]
theorem denL_bytes {σ : Sg} : ∀ {bs : List UInt8} {l' : List Value}, DenL σ (bs.map fun b => AVal.int .u8 (.ofNat b.toNat)) l' → l' = (bs.map fun b => (b.toNat : Int)).map (Value.int .u8)
 | [], _, .nil => rfl
 | b :: bs, _, .cons h t => by
  cases h
  rw [denL_bytes t]
  rfl
theorem push_bytes : ∀ (bs : List UInt8) (s : ByteArray), (bs.map fun b => (b.toNat : Int)).foldl (fun r n => r.push (UInt8.ofNat n.toNat)) s = ⟨s.data ++ bs.toArray⟩
 | [], s => by simp
 | b :: bs, s => by
  rw [List.map_cons, List.foldl_cons, push_bytes bs]
  have : (s.push (UInt8.ofNat ((b.toNat : Int).toNat))).data = s.data.push b := by simp [ByteArray.push]
  rw [this]
  simp
def opConv (P : Program) (src dst : TypeId) (x : Operand) (ρ : Operand → AVal) (H : Heap) (nx : Nat) : Option ARes :=
 match P.underlying src, P.underlying dst, ρ x with
 | some _, some (.int k), .int _ n => forceI (awrap k n) fun r => some (.val (.int k r) H nx)
 | some _, some .string, .str n z => some (.val (.str n z) H nx)
 | some _, some (.int k), .anyInt j m i => match w64 k, w64 j, Nat.beq m 65536 with
  | true, true, true => some (.val (.anyInt k m i) H nx)
  | _, _, _ => none
 | some (.slice e), some .string, .slice b off n _ _ => match P.underlying e, get5 b H with
  | some (.int .u8), some (.cells cnt ct _ _) => match Nat.ble (Nat.add off n) cnt with
   | true => match bytesAcc (CT.slab ct n off) 0 with
    | some z => some (.val (.str n z) H nx)
    | none => none
   | false => none
  | _, _ => none
 | some (.slice e), some .string, .nilSlice => match P.underlying e with
  | some (.int .u8) => some (.val (.str 0 0) H nx)
  | _ => none
 | _, _, _ => none
theorem opConv_ok {src dst : TypeId} {x : Operand} {ρ : Operand → AVal} {r : ARes} (ho : o.op = .convert src dst x)
  (h : opConv P src dst x ρ H nx = some r) : OpOK P o ρ H nx r := by
 unfold opConv at h
 split at h <;> try (cases h; done)
 ·rename_i d k k' n hs hdst hx
  rw [forceI_eq, awrap_eq] at h
  cases h
  refine OpOK.pure fun σ w ρ' _ hd => ?_
  have dx := hd x; rw [hx] at dx
  refine ⟨_, .int _ _, ?_⟩
  cases e : ρ' x <;> rw [e] at dx <;> cases dx
  simp [execOp, ho, e, convert, run_underlying' hs, run_underlying' hdst, Conv.intToInt]
 ·rename_i d n z hs hdst hx
  cases h
  refine OpOK.pure fun σ w ρ' _ hd => ?_
  have dx := hd x; rw [hx] at dx
  refine ⟨ρ' x, dx, ?_⟩
  cases e : ρ' x <;> rw [e] at dx <;> cases dx
  simp [execOp, ho, e, convert, run_underlying' hs, run_underlying' hdst]
 ·rename_i d k j m i hs hdst hx
  split at h <;> try (cases h; done)
  rename_i hk hj hm
  cases h
  have hm' := Nat.eq_of_beq_eq_true hm
  subst hm'
  refine OpOK.pure fun σ w ρ' _ hd => ?_
  have dx := hd x; rw [hx] at dx
  cases e : ρ' x <;> rw [e] at dx <;> cases dx
  rename_i n hn
  have hn' : n = j.wrap (GTab.val i) := by unfold AnyOK at hn; rwa [if_pos rfl] at hn
  subst hn'
  refine ⟨.int k (k.wrap (j.wrap (GTab.val i))), .anyInt _ _ _ _ (by unfold AnyOK; rw [if_pos rfl]; exact (same_wrap hj _).wrap hk), ?_⟩
  simp [execOp, ho, e, convert, run_underlying' hs, run_underlying' hdst, Conv.intToInt]
 ·rename_i el b off n esz full hs hdst hx
  split at h <;> try (cases h; done)
  rename_i cnt ct olds s hel hob
  split at h <;> try (cases h; done)
  rename_i hle
  have hle' : off + n ≤ cnt := Nat.le_of_ble_eq_true hle
  split at h <;> try (cases h; done)
  rename_i z hz
  cases h
  obtain ⟨bs, e1, e2⟩ := bytesAcc_ok hz
  have hlen : bs.length = n := by have := CT.slab_length ct n off; rw [e1] at this; simpa using this
  subst e2
  refine OpOK.pure fun σ w ρ' hr hd => ?_
  have dx := hd x; rw [hx] at dx
  have key : ∀ (a : Addr) (cap : Nat), (loadCells a n).run P w = .ok ((bs.map fun b => (b.toNat : Int)).map (Value.int .u8)).toArray w → ∃ v', Den σ (.str n (numL 0 bs)) v' ∧ (convert src dst (.slice (some a) n cap)).run P w = .ok v' w := by
   intro a cap hl
   refine ⟨_, Den.str n (numL 0 bs) (by rw [← hlen]; exact numL_lt bs), ?_⟩
   rw [run_convert_bytes_string w src dst el _ _ cap hs hel hdst, run_bytesToString w a n cap _ hl, push_bytes]
   have : dec n (numL 0 bs) = ⟨bs.toArray⟩ := by rw [← hlen]; unfold dec; rw [digs_numL]
   rw [this]
   have e0 : (ByteArray.empty.data ++ bs.toArray) = bs.toArray := by
    show #[] ++ bs.toArray = bs.toArray
    simp
   rw [e0]
  cases e : ρ' x <;> rw [e] at dx <;> cases dx
  ·rename_i cap cb sz hb h1 h2 h3
   obtain ⟨l', _, hl, _, hrun⟩ := load_slab hr hob hb P off n hle'
   rw [e1] at hl
   rw [denL_bytes hl] at hrun
   obtain ⟨v', dv, hv⟩ := key (at' cb off) cap hrun
   exact ⟨v', dv, by simp [execOp, ho, e, hv]⟩
  ·rename_i off' cb sz hb
   have hbs : bs = [] := List.length_eq_zero_iff.1 hlen
   subst hbs
   obtain ⟨v', dv, hv⟩ := key (at' cb off') 0 (by simp [loadCells, loadCellsFrom])
   have hv' : (convert src dst (.slice (some { block := cb, off := off' }) 0 0)).run P w = .ok v' w := hv
   exact ⟨v', dv, by simp [execOp, ho, e, hv']⟩
 ·rename_i el hs hdst hx
  split at h <;> try (cases h; done)
  rename_i hel
  cases h
  refine OpOK.pure fun σ w ρ' hr hd => ?_
  have dx := hd x; rw [hx] at dx
  cases e : ρ' x <;> rw [e] at dx <;> cases dx
  refine ⟨_, Den.str 0 0 (by decide), ?_⟩
  have := run_convert_bytes_string w src dst el none 0 0 hs hel hdst
  simp only [execOp, ho, e, Sem.run_bind, this]
  simp [Conv.bytesToString, dec, digs, ByteArray.empty, ByteArray.emptyWithCapacity]
  rfl
end
end Go.Ev
namespace Go.Ev
variable [GTab] {P : Program} {H : Heap} {nx : Nat} {w : World} {o : Oper}
noncomputable section
def bnd (d : Nat) (x : Option Operand) (ρ : Operand → AVal) : Option Nat :=
 match x with
 | none => some d
 | some y => match ρ y with
  | .int _ i => asNat i
  | _ => none
theorem bnd_ok {d n : Nat} {x : Option Operand} {ρ : Operand → AVal} {ρ' : Operand → Value} {σ : Sg} (hd : ∀ x, Den σ (ρ x) (ρ' x)) (h : bnd d x ρ = some n) :
  (x.map ρ' = none ∧ n = d) ∨ ∃ k, x.map ρ' = some (.int k (n : Int)) := by
 unfold bnd at h
 split at h
 ·cases h; exact .inl ⟨rfl, rfl⟩
 ·rename_i y
  split at h <;> try (cases h; done)
  rename_i k i hy
  have hi := asNat_ok h
  subst hi
  have := hd y
  rw [hy] at this
  cases e : ρ' y <;> rw [e] at this <;> cases this
  exact .inr ⟨k, by simp [e]⟩
theorem run_sliceBound {k : IntKind} {n y : Nat} {c : BoundsCode} (h : n ≤ y) : (Instr.sliceBound (.int k (n : Int)) y c).run P w = .ok n w := by
 simp [Instr.sliceBound, asIntOf, h]
theorem run_sliceBounds {isS : Bool} {len cap l h : Nat} {lo hi : Option Value} (hh : (hi = none ∧ h = len) ∨ ∃ k, hi = some (.int k (h : Int))) (hle : h ≤ cap)
  (hl : (lo = none ∧ l = 0) ∨ ∃ k, lo = some (.int k (l : Int))) (hlh : l ≤ h) : (Instr.sliceBounds isS len cap lo hi none).run P w = .ok (l, h, cap) w := by
 rcases hh with ⟨rfl, rfl⟩ | ⟨k, rfl⟩ <;> rcases hl with ⟨rfl, rfl⟩ | ⟨k', rfl⟩
 ·simp [Instr.sliceBounds]
 ·simp [Instr.sliceBounds, run_sliceBound hlh]
 ·simp [Instr.sliceBounds, run_sliceBound hle]
 ·simp [Instr.sliceBounds, run_sliceBound hle, run_sliceBound hlh]
def opSlice (P : Program) (t : TypeId) (x : Operand) (lo hi mx : Option Operand) (ρ : Operand → AVal) (H : Heap) (nx : Nat) : Option ARes :=
 match mx with
 | some _ => none
 | none => match P.underlying t, ρ x with
  | some .string, .str n z => match bnd 0 lo ρ, bnd n hi ρ with
   | some l, some h => match Nat.ble h n, Nat.ble l h with
    | true, true => forceN (Nat.sub h l) fun m => forceN (cutX n z l h) fun y => some (.val (.str m y) H nx)
    | _, _ => none
   | _, _ => none
  | some (.slice elem), .slice b off len esz full => match bnd 0 lo ρ, bnd len hi ρ, P.info? elem with
   | some l, some h, some e => match Nat.ble h len, Nat.ble l h, Nat.beq e.size esz with
    | true, true, true => forceN (Nat.add off (Nat.mul l esz)) fun o => forceN (Nat.sub h l) fun m => some (.val (.slice b o m esz (Bool.rec false full (Nat.beq h len))) H nx)
    | _, _, _ => none
   | _, _, _ => none
  | some (.slice elem), .nilSlice => match bnd 0 lo ρ, bnd 0 hi ρ, P.info? elem with
   | some 0, some 0, some _ => some (.val .nilSlice H nx)
   | _, _, _ => none
  | some (.array n elem), .ptr b off => match bnd 0 lo ρ, bnd n hi ρ, P.info? elem, get5 b H with
   | some l, some h, some e, some (.cells cnt _ _ _) => match Nat.ble h n, Nat.ble l h, Nat.ble (Nat.add off (Nat.mul n e.size)) cnt with
    | true, true, true => forceN (Nat.add off (Nat.mul l e.size)) fun o => forceN (Nat.sub h l) fun m => some (.val (.slice b o m e.size (Nat.beq h n)) H nx)
    | _, _, _ => none
   | _, _, _, _ => none
  | _, _ => none
theorem lt_cut (n z l h : Nat) : cutX n z l h < 256 ^ (h - l) := by
 rw [cutX_eq]; exact Nat.mod_lt _ (pow_pos256 _)
theorem opSlice_ok {t : TypeId} {x : Operand} {lo hi mx : Option Operand} {ρ : Operand → AVal} {r : ARes} (ho : o.op = .slice t x lo hi mx)
  (h : opSlice P t x lo hi mx ρ H nx = some r) : OpOK P o ρ H nx r := by
 unfold opSlice at h
 split at h <;> try (cases h; done)
 split at h
 ·rename_i n z hu hx
  split at h <;> try (cases h; done)
  rename_i l hh hl hhi
  split at h <;> try (cases h; done)
  rename_i h1 h2
  have h1' := Nat.le_of_ble_eq_true h1
  have h2' := Nat.le_of_ble_eq_true h2
  rw [forceN_eq, forceN_eq] at h
  cases h
  refine OpOK.pure fun σ w ρ' _ hd => ?_
  have d := hd x; rw [hx] at d
  cases e : ρ' x <;> rw [e] at d <;> cases d
  refine ⟨.string (dec (hh - l) (cutX n z l hh)), .str _ _ (lt_cut _ _ _ _), ?_⟩
  have hb := run_sliceBounds (P := P) (w := w) (isS := false) (len := n) (cap := n) (bnd_ok hd hhi) h1' (bnd_ok hd hl) h2'
  have hx2 := dec_extract n z l hh h1' h2'
  rw [← cutX_eq] at hx2
  have hsz := dec_size n z
  simp [execOp, ho, e, Instr.sliceAt, Instr.slice, run_underlying' hu, hsz, hb, hx2]
 ·rename_i elem b off len esz full hu hx
  split at h <;> try (cases h; done)
  rename_i l hh ei hl hhi hei
  split at h <;> try (cases h; done)
  rename_i h1 h2 h3
  have h1' := Nat.le_of_ble_eq_true h1
  have h2' := Nat.le_of_ble_eq_true h2
  have h3' := Nat.eq_of_beq_eq_true h3
  rw [forceN_eq, forceN_eq] at h
  cases h
  refine OpOK.pure fun σ w ρ' _ hd => ?_
  have d := hd x; rw [hx] at d
  cases e : ρ' x <;> rw [e] at d <;> cases d
  ·rename_i cap cb sz hb g1 g2 g3
   have hbd := run_sliceBounds (P := P) (w := w) (isS := true) (len := len) (cap := cap) (bnd_ok hd hhi) (by omega) (bnd_ok hd hl) h2'
   by_cases hm : cap = l
   ·refine ⟨.slice (some (at' cb off)) (hh - l) (cap - l), ?_, ?_⟩
    ·have e1 : hh - l = 0 := by omega
     have e2 : cap - l = 0 := by omega
     rw [e2]
     show Den σ (.slice b _ (hh - l) esz _) (.slice (some (at' cb off)) (hh - l) 0)
     rw [e1]
     exact .slice0 hb
    ·simp only [execOp, ho, e, Instr.sliceAt, Instr.slice, Sem.run_bind, Sem.run_pure, Result.andThen_ok, run_underlying' hu, Option.map_none, hbd, run_sizeOf' hei, if_pos hm]
   ·refine ⟨.slice (some (at' cb (off + l * esz))) (hh - l) (cap - l), .slice hb (show hh - l ≤ cap - l by omega) ?_ ?_, ?_⟩
    ·have : off + l * esz + (cap - l) * esz = off + cap * esz := by
      rw [Nat.add_assoc, ← Nat.add_mul]
      congr 2
      omega
     show off + l * esz + (cap - l) * esz ≤ sz
     omega
    ·intro hf
     cases hq : Nat.beq hh len with
     | true =>
      have := Nat.eq_of_beq_eq_true hq
      rw [hq] at hf
      have := g3 hf
      show cap - l = hh - l
      omega
     | false => rw [hq] at hf; cases hf
    ·have := addr_add cb off (l * esz)
     simp [execOp, ho, e, Instr.sliceAt, Instr.slice, run_underlying' hu, hbd, run_sizeOf' hei, hm, h3', this]
  ·rename_i off' cb sz hb
   have hl0 : l = 0 := by omega
   have hh0 : hh = 0 := by omega
   subst hl0
   subst hh0
   have hbd := run_sliceBounds (P := P) (w := w) (isS := true) (len := 0) (cap := 0) (bnd_ok hd hhi) (by omega) (bnd_ok hd hl) h2'
   refine ⟨.slice (some (at' cb off')) 0 0, .slice0 hb, ?_⟩
   simp [execOp, ho, e, Instr.sliceAt, Instr.slice, run_underlying' hu, hbd, run_sizeOf' hei]
 ·rename_i elem hu hx
  split at h <;> try (cases h; done)
  rename_i ei hl hhi hei
  cases h
  refine OpOK.pure fun σ w ρ' _ hd => ?_
  have d := hd x; rw [hx] at d
  cases e : ρ' x <;> rw [e] at d <;> cases d
  have hbd := run_sliceBounds (P := P) (w := w) (isS := true) (len := 0) (cap := 0) (bnd_ok hd hhi) (by omega) (bnd_ok hd hl) (Nat.le_refl _)
  refine ⟨.slice none 0 0, .nilSlice, ?_⟩
  simp [execOp, ho, e, Instr.sliceAt, Instr.slice, run_underlying' hu, hbd, run_sizeOf' hei]
 ·rename_i n elem b off hu hx
  split at h <;> try (cases h; done)
  rename_i l hh ei cnt ct olds sp hl hhi hei hblk
  split at h <;> try (cases h; done)
  rename_i h1 h2 h3
  have h1' := Nat.le_of_ble_eq_true h1
  have h2' := Nat.le_of_ble_eq_true h2
  have h3' := Nat.le_of_ble_eq_true h3
  rw [forceN_eq, forceN_eq] at h
  cases h
  refine OpOK.pure fun σ w ρ' hr hd => ?_
  have d := hd x; rw [hx] at d
  cases e : ρ' x <;> rw [e] at d <;> cases d
  rename_i cb sz hb
  obtain ⟨o1, _, _, _⟩ := hr.obj b _ cb sz hblk hb
  have hbd := run_sliceBounds (P := P) (w := w) (isS := false) (len := n) (cap := n) (bnd_ok hd hhi) h1' (bnd_ok hd hl) h2'
  by_cases hm : n = l
  ·refine ⟨.slice (some (at' cb off)) (hh - l) (n - l), ?_, ?_⟩
   ·have e1 : hh - l = 0 := by omega
    have e2 : n - l = 0 := by omega
    rw [e2]
    show Den σ (.slice b _ (hh - l) ei.size _) (.slice (some (at' cb off)) (hh - l) 0)
    rw [e1]
    exact .slice0 hb
   ·simp only [execOp, ho, e, Instr.sliceAt, Instr.sureAddr, Sem.run_bind, Sem.run_pure, Result.andThen_ok, run_underlying' hu, Option.map_none, hbd, run_sizeOf' hei, if_pos hm]
  ·refine ⟨.slice (some (at' cb (off + l * ei.size))) (hh - l) (n - l), .slice hb (show hh - l ≤ n - l by omega) ?_ ?_, ?_⟩
   ·have : off + l * ei.size + (n - l) * ei.size = off + n * ei.size := by
     rw [Nat.add_assoc, ← Nat.add_mul]
     congr 2
     omega
    have h3'' : off + n * ei.size ≤ cnt := h3'
    show off + l * ei.size + (n - l) * ei.size ≤ sz
    omega
   ·intro hf
    have := Nat.eq_of_beq_eq_true hf
    show n - l = hh - l
    omega
   ·have := addr_add cb off (l * ei.size)
    simp [execOp, ho, e, Instr.sliceAt, Instr.sureAddr, run_underlying' hu, hbd, run_sizeOf' hei, hm, this]
 ·cases h
def okTuple (ok : Bool) (v : AVal) : AVal := match ok with | true => .tuple [v, .bool true] | false => v
def aFails (P : Program) (asserted : TypeId) (ok : Bool) : Option AVal :=
 match ok with
 | true => match P.info? asserted with
  | some i => match i.zero with
   | some z => some (.tuple [ofVal z, .bool false])
   | none => none
  | none => none
 | false => none
def aAssert (P : Program) (v : AVal) (asserted : TypeId) (ok : Bool) : Option AVal :=
 match P.underlying asserted, v with
 | some (.interface _), .nilIface => aFails P asserted ok
 | some (.interface want), .iface t x => match P.info? t with
  | some i => match Instr.missingMethod want i.methods with
   | none => some (okTuple ok (.iface t x))
   | some _ => aFails P asserted ok
  | none => none
 | some d, .nilIface => match ifaceD d with
  | false => aFails P asserted ok
  | true => none
 | some d, .iface t x => match ifaceD d with
  | false => match Nat.beq t asserted with
   | true => some (okTuple ok x)
   | false => aFails P asserted ok
  | true => none
 | _, _ => none
theorem den_okTuple {σ : Sg} {v : AVal} {v' : Value} (ok : Bool) (h : Den σ v v') : Den σ (okTuple ok v) (if ok then .tuple #[v', .bool true] else v') := by
 cases ok with
 | true => exact .tuple (.cons h (.cons (.bool _) .nil))
 | false => exact h
def opAssert (P : Program) (x : Operand) (asserted : TypeId) (ok : Bool) (ρ : Operand → AVal) (H : Heap) (nx : Nat) : Option ARes :=
 match aAssert P (ρ x) asserted ok with
 | some v => some (.val v H nx)
 | none => none
theorem opAssert_ok {x : Operand} {xt asserted : TypeId} {ok : Bool} {ρ : Operand → AVal} {r : ARes} (ho : o.op = .typeAssert x xt asserted ok)
  (h : opAssert P x asserted ok ρ H nx = some r) : OpOK P o ρ H nx r := by
 unfold opAssert at h
 split at h <;> try (cases h; done)
 rename_i v hv
 cases h
 have fails : ∀ {u : AVal} {σ : Sg}, aFails P asserted ok = some u → ok = true ∧ ∃ i z, P.info? asserted = some i ∧ i.zero = some z ∧ u = .tuple [ofVal z, .bool false] ∧ Den σ u (.tuple #[z, .bool false]) := by
  intro u σ hu
  unfold aFails at hu
  split at hu <;> try (cases hu; done)
  split at hu <;> try (cases hu; done)
  rename_i i hi
  split at hu <;> try (cases hu; done)
  rename_i z hz
  cases hu
  exact ⟨rfl, i, z, hi, hz, rfl, .tuple (.cons (den_ofVal σ z) (.cons (.bool _) .nil))⟩
 refine OpOK.pure fun σ w ρ' _ hd => ?_
 have d := hd x
 unfold aAssert at hv
 split at hv
 ·rename_i want hu hx
  rw [hx] at d
  cases e : ρ' x <;> rw [e] at d <;> cases d
  obtain ⟨hok, i, z, hi, hz, _, dz⟩ := fails (σ := σ) hv
  exact ⟨_, dz, by simp [execOp, ho, e, Instr.typeAssert, run_underlying' hu, hok, run_zeroValue' hi hz]⟩
 ·rename_i want t y hu hx
  rw [hx] at d
  cases e : ρ' x <;> rw [e] at d <;> cases d
  rename_i y' dy
  split at hv <;> try (cases hv; done)
  rename_i i hi
  split at hv
  ·rename_i hm
   cases hv
   exact ⟨_, den_okTuple ok (.iface dy), by simp [execOp, ho, e, Instr.typeAssert, run_underlying' hu, run_typeInfo' hi, hm]⟩
  ·rename_i m hm
   obtain ⟨hok, j, z, hj, hz, _, dz⟩ := fails (σ := σ) hv
   exact ⟨_, dz, by simp [execOp, ho, e, Instr.typeAssert, run_underlying' hu, run_typeInfo' hi, hm, hok, run_zeroValue' hj hz]⟩
 ·rename_i dd hni hu hx
  rw [hx] at d
  cases e : ρ' x <;> rw [e] at d <;> cases d
  split at hv <;> try (cases hv; done)
  rename_i hif
  obtain ⟨hok, j, z, hj, hz, _, dz⟩ := fails (σ := σ) hv
  refine ⟨_, dz, ?_⟩
  simp only [execOp, ho, e, Instr.typeAssert, Sem.run_bind, run_underlying' hu, Result.andThen_ok]
  cases dd <;> first | (cases hif; done) | (simp [hok, run_zeroValue' hj hz])
 ·rename_i dd t y hni hu hx
  rw [hx] at d
  cases e : ρ' x <;> rw [e] at d <;> cases d
  rename_i y' dy
  split at hv <;> try (cases hv; done)
  rename_i hif
  split at hv
  ·rename_i hq
   have hq' := Nat.eq_of_beq_eq_true hq
   cases hv
   refine ⟨_, den_okTuple ok dy, ?_⟩
   simp only [execOp, ho, e, Instr.typeAssert, Sem.run_bind, run_underlying' hu, Result.andThen_ok]
   cases dd <;> first | (cases hif; done) | (simp [hq'])
  ·rename_i hq
   have hq' : ¬ t = asserted := fun e => by subst e; simp at hq
   obtain ⟨hok, j, z, hj, hz, _, dz⟩ := fails (σ := σ) hv
   refine ⟨_, dz, ?_⟩
   simp only [execOp, ho, e, Instr.typeAssert, Sem.run_bind, run_underlying' hu, Result.andThen_ok]
   cases dd <;> first | (cases hif; done) | (simp [hq', hok, run_zeroValue' hj hz])
 ·cases hv
def hasBody (P : Program) (f : FuncId) : Bool :=
 match P.funcs[f]? with
 | some fn => match fn.body with
  | some _ => !(fn.name == "runtime.NumGoroutine")
  | none => false
 | none => false
theorem run_callFunc {f : FuncId} (h : hasBody P f = true) (args : Array Value) (w : World) : (callFunc f args).run P w = .ok (.enter f args) w := by
 unfold hasBody at h
 split at h <;> try (cases h; done)
 rename_i fn hf
 split at h <;> try (cases h; done)
 rename_i c hb
 have hn : ¬ fn.name = "runtime.NumGoroutine" := by simpa using h
 simp [callFunc, hf, hb, hn]
def callTo (P : Program) (v : AVal) (args : List AVal) : Option (FuncId × List AVal) :=
 match v with
 | .func (.func f) first captured => match hasBody P f with
  | true => some (f, first ++ args ++ captured)
  | false => none
 | _ => none
def lenOfA (P : Program) (t : TypeId) (v : AVal) : Option Nat :=
 match P.underlying t, v with
 | some .string, .str n _ => some n
 | some (.array n _), _ => some n
 | some (.slice _), .slice _ _ n _ _ => some n
 | some (.slice _), .nilSlice => some 0
 | _, _ => none
theorem lenOfA_ok {t : TypeId} {v : AVal} {v' : Value} {n : Nat} {σ : Sg} {u : TypeId} (h : lenOfA P t v = some n) (hd : Den σ v v') :
  (Builtin.len_ #[t] u #[v']).run P w = .ok (.int .i64 (n : Int)) w := by
 unfold lenOfA at h
 split at h
 ·rename_i hu; cases h; cases hd
  have := dec_size n ‹_›
  simp [Builtin.len_, run_underlying' hu, goInt, this]
 ·rename_i hu; cases h; simp [Builtin.len_, run_underlying' hu, goInt]
 ·rename_i hu; cases h; cases hd <;> simp [Builtin.len_, run_underlying' hu, goInt]
 ·rename_i hu; cases h; cases hd; simp [Builtin.len_, run_underlying' hu, goInt]
 ·cases h
def opCallV (P : Program) (f : Operand) (args : Array Operand) (ρ : Operand → AVal) (_H : Heap) (_nx : Nat) : Option ARes :=
 match callTo P (ρ f) (args.toList.map ρ) with
 | some (g, as) => some (.call g as)
 | none => none
theorem callTo_ok {v : AVal} {v' : Value} {args : List AVal} {args' : List Value} {f : FuncId} {as : List AVal} {σ : Sg} (h : callTo P v args = some (f, as)) (hv : Den σ v v') (ha : DenL σ args args') :
  hasBody P f = true ∧ ∃ first captured : List Value, v' = .func (.func f) ⟨first⟩ ⟨captured⟩ ∧ DenL σ as (first ++ args' ++ captured) := by
 unfold callTo at h
 split at h <;> try (cases h; done)
 split at h <;> try (cases h; done)
 rename_i hb
 cases h
 cases hv with
 | func h1 h2 => exact ⟨hb, _, _, rfl, (h1.append ha).append h2⟩
theorem opCallV_ok {f : Operand} {c : Call} {ρ : Operand → AVal} {r : ARes} (ho : o.op = .call c) (hc : c.callee = .value f)
  (h : opCallV P f c.args ρ H nx = some r) : OpOK P o ρ H nx r := by
 unfold opCallV at h
 split at h <;> try (cases h; done)
 rename_i g as hg
 cases h
 intro σ w ρ' hr hd
 obtain ⟨hb, first, captured, e, hl⟩ := callTo_ok hg (hd f) (denL_map hd c.args.toList)
 refine ⟨_, hl, ?_⟩
 simp only [execOp, ho, resolve, hc, e, Deferred.ofValue, Sem.run_bind, Sem.run_pure, Result.andThen_ok, invoke, run_callFunc hb, arr_map]
 simp
def opDefer (P : Program) (f : Operand) (args : Array Operand) (ρ : Operand → AVal) (_H : Heap) (_nx : Nat) : Option ARes :=
 match callTo P (ρ f) (args.toList.map ρ) with
 | some (g, as) => some (.dfr g as)
 | none => none
theorem opDefer_ok {f : Operand} {c : Call} {ρ : Operand → AVal} {r : ARes} (ho : o.op = .defer c) (hc : c.callee = .value f)
  (h : opDefer P f c.args ρ H nx = some r) : OpOK P o ρ H nx r := by
 unfold opDefer at h
 split at h <;> try (cases h; done)
 rename_i g as hg
 cases h
 intro σ w ρ' hr hd
 obtain ⟨hb, first, captured, e, hl⟩ := callTo_ok hg (hd f) (denL_map hd c.args.toList)
 refine ⟨{ target := .fn (.func g) ⟨captured⟩, args := ⟨first⟩ ++ c.args.map ρ' }, ⟨⟨captured⟩, rfl, ?_⟩, ?_⟩
 ·have e2 : ((⟨first⟩ ++ c.args.map ρ' : Array Value) ++ ⟨captured⟩).toList = first ++ c.args.toList.map ρ' ++ captured := by simp
  rw [e2]; exact hl
 ·simp [execOp, ho, resolve, hc, e, Deferred.ofValue]
def opPanic (x : Operand) (ρ : Operand → AVal) (_H : Heap) (_nx : Nat) : Option ARes :=
 match ρ x with
 | .iface t v => some (.pan (.iface t v))
 | _ => none
theorem opPanic_ok {x : Operand} {ρ : Operand → AVal} {r : ARes} (ho : o.op = .panic x)
  (h : opPanic x ρ H nx = some r) : OpOK P o ρ H nx r := by
 unfold opPanic at h
 split at h <;> try (cases h; done)
 rename_i t v hx
 cases h
 intro σ w ρ' hr hd
 have d := hd x; rw [hx] at d
 cases e : ρ' x <;> rw [e] at d <;> cases d
 rename_i v' dv
 exact ⟨_, .iface dv, by simp [execOp, ho, e, Instr.panic]⟩
def aMost (greatest : Bool) (k : IntKind) (n : Int) : List AVal → Option Int
 | [] => some n
 | .int _ m :: l => aMost greatest k (Bool.rec (Bool.rec n m (ilt m n)) (Bool.rec n m (ilt n m)) greatest) l
 | _ :: _ => none
theorem aMost_max {P : Program} {w : World} {σ : Sg} {k : IntKind} : ∀ {l : List AVal} {l' : List Value} {n m : Int}, aMost true k n l = some m → DenL σ l l' →
  (l'.foldlM Builtin.max2 (.int k n)).run P w = .ok (.int k m) w
 | [], _, n, m, h, .nil => by cases h; rfl
 | .int j q :: l, v' :: l', n, m, h, .cons hd ht => by
  cases hd
  have e : Bool.rec (motive := fun _ => Int) n q (ilt n q) = if q > n then q else n := by
   rw [ilt_eq]
   by_cases hq : n < q
   ·simp [hq]
   ·simp [hq]
  have := aMost_max (P := P) (w := w) (l := l) (n := Bool.rec (motive := fun _ => Int) n q (ilt n q)) h ht
  simp only [List.foldlM_cons, Builtin.max2, Sem.run_bind, Sem.run_pure, Result.andThen_ok]
  rw [← e]
  exact this
theorem aMost_min {P : Program} {w : World} {σ : Sg} {k : IntKind} : ∀ {l : List AVal} {l' : List Value} {n m : Int}, aMost false k n l = some m → DenL σ l l' →
  (l'.foldlM Builtin.min2 (.int k n)).run P w = .ok (.int k m) w
 | [], _, n, m, h, .nil => by cases h; rfl
 | .int j q :: l, v' :: l', n, m, h, .cons hd ht => by
  cases hd
  have e : Bool.rec (motive := fun _ => Int) n q (ilt q n) = if q < n then q else n := by
   rw [ilt_eq]
   by_cases hq : q < n
   ·simp [hq]
   ·simp [hq]
  have := aMost_min (P := P) (w := w) (l := l) (n := Bool.rec (motive := fun _ => Int) n q (ilt q n)) h ht
  simp only [List.foldlM_cons, Builtin.min2, Sem.run_bind, Sem.run_pure, Result.andThen_ok]
  rw [← e]
  exact this
def opBuiltin0 (P : Program) (b : Builtin) (types : Array TypeId) (args : Array Operand) (ρ : Operand → AVal) (H : Heap) (nx : Nat) : Option ARes :=
 match b, types.toList, args.toList with
 | .len, [t], [x] => match lenOfA P t (ρ x) with
  | some n => some (.val (.int .i64 (.ofNat n)) H nx)
  | none => none
 | .max, _, x :: l => match ρ x with
  | .int k n => match aMost true k n (l.map ρ) with
   | some m => forceI m fun m => some (.val (.int k m) H nx)
   | none => none
  | _ => none
 | .min, _, x :: l => match ρ x with
  | .int k n => match aMost false k n (l.map ρ) with
   | some m => forceI m fun m => some (.val (.int k m) H nx)
   | none => none
  | _ => none
 | .recover, _, [] => some .rcv
 | _, _, _ => none
theorem opBuiltin0_ok {b : Builtin} {c : Call} {ρ : Operand → AVal} {r : ARes} (ho : o.op = .call c) (hc : c.callee = .builtin b)
  (h : opBuiltin0 P b c.argTypes c.args ρ H nx = some r) : OpOK P o ρ H nx r := by
 unfold opBuiltin0 at h
 split at h <;> try (cases h; done)
 ·rename_i t x ht hx
  split at h <;> try (cases h; done)
  rename_i n hn
  cases h
  refine OpOK.pure fun σ w ρ' _ hd => ⟨.int .i64 (n : Int), .int _ _, ?_⟩
  have e1 : c.argTypes = #[t] := by apply Array.ext'; rw [ht]
  have e2 : c.args = #[x] := by apply Array.ext'; rw [hx]
  simp [execOp, ho, resolve, hc, invoke, builtin, e1, e2, lenOfA_ok (P := P) (w := w) hn (hd x)]
 ·rename_i x l hx
  split at h <;> try (cases h; done)
  rename_i k n hk
  split at h <;> try (cases h; done)
  rename_i m hm
  rw [forceI_eq] at h
  cases h
  refine OpOK.pure fun σ w ρ' _ hd => ⟨.int k m, .int _ _, ?_⟩
  have d := hd x; rw [hk] at d
  cases e : ρ' x <;> rw [e] at d <;> cases d
  have e2 : c.args = ⟨x :: l⟩ := by apply Array.ext'; rw [hx]
  have := aMost_max (P := P) (w := w) hm (denL_map hd l)
  simp [execOp, ho, resolve, hc, invoke, builtin, e2, Builtin.max_, e, this]
 ·rename_i x l hx
  split at h <;> try (cases h; done)
  rename_i k n hk
  split at h <;> try (cases h; done)
  rename_i m hm
  rw [forceI_eq] at h
  cases h
  refine OpOK.pure fun σ w ρ' _ hd => ⟨.int k m, .int _ _, ?_⟩
  have d := hd x; rw [hk] at d
  cases e : ρ' x <;> rw [e] at d <;> cases d
  have e2 : c.args = ⟨x :: l⟩ := by apply Array.ext'; rw [hx]
  have := aMost_min (P := P) (w := w) hm (denL_map hd l)
  simp [execOp, ho, resolve, hc, invoke, builtin, e2, Builtin.min_, e, this]
 ·cases h
  intro σ w ρ' _ hd
  simp [execOp, ho, resolve, hc, invoke, builtin]
end
end Go.Ev
end
section
namespace Go.Ev
variable [GTab] {P : Program} {H : Heap} {nx : Nat} {w : World} {o : Oper}
noncomputable section
def seg (off : Nat) (cs l : List AVal) : List AVal := l.take off ++ cs ++ l.drop (off + cs.length)
def aFill (place : Nat → Option (Nat × Nat)) (ρ : Operand → AVal) (cells : List AVal) : List (Nat × Operand) → Option (List AVal)
 | [] => some cells
 | (i, x) :: rest =>
  match place i, acells (ρ x) with
  | some (off, size), some cs => match Nat.beq cs.length size, Nat.ble (Nat.add off size) cells.length with
   | true, true => aFill place ρ (seg off cs cells) rest
   | _, _ => none
  | _, _ => none
theorem set_fold : ∀ (xs : List Value) (k off : Nat) (A : Array Value), off + k + xs.length ≤ A.size →
  ((xs.zipIdx k).foldl (fun (cs : Array Value) (p : Value × Nat) => cs.setIfInBounds (off + p.2) p.1) A).toList = A.toList.take (off + k) ++ xs ++ A.toList.drop (off + k + xs.length)
 | [], k, off, A, h => by simp
 | x :: xs, k, off, A, h => by
  simp only [List.zipIdx_cons, List.foldl_cons, List.length_cons] at h ⊢
  rw [set_fold xs (k + 1) off _ (by simp; omega)]
  simp only [Array.toList_setIfInBounds]
  have hlt : off + k < A.toList.length := by simp; omega
  rw [List.set_eq_take_append_cons_drop, if_pos hlt]
  have e1 : (List.take (off + k) A.toList ++ x :: List.drop (off + k + 1) A.toList).take (off + (k + 1)) = List.take (off + k) A.toList ++ [x] := by
   rw [List.take_append]
   have : (List.take (off + k) A.toList).length = off + k := by simp; omega
   rw [this, List.take_of_length_le (by simp; omega)]
   have : off + (k + 1) - (off + k) = 1 := by omega
   rw [this]; simp
  have e2 : (List.take (off + k) A.toList ++ x :: List.drop (off + k + 1) A.toList).drop (off + (k + 1) + xs.length) = List.drop (off + k + (xs.length + 1)) A.toList := by
   rw [List.drop_append]
   have : (List.take (off + k) A.toList).length = off + k := by simp; omega
   rw [this, List.drop_of_length_le (by simp; omega)]
   have : off + (k + 1) + xs.length - (off + k) = xs.length + 1 := by omega
   rw [this]
   simp [List.drop_drop]
   congr 1
   omega
  rw [e1, e2]
  simp
theorem fill_ok {σ : Sg} {ρ : Operand → AVal} {ρ' : Operand → Value} (hd : ∀ x, Den σ (ρ x) (ρ' x)) (place : Nat → Option (Nat × Nat)) :
  ∀ (parts : List (Nat × Operand)) (zs cs : List AVal) (zs' : List Value), aFill place ρ zs parts = some cs → DenL σ zs zs' →
   ∃ cs', Instr.fill place ⟨zs'⟩ (parts.map fun p => (p.1, ρ' p.2)) = some ⟨cs'⟩ ∧ DenL σ cs cs' ∧ cs.length = zs.length
 | [], zs, cs, zs', h, hz => by cases h; exact ⟨zs', rfl, hz, rfl⟩
 | (i, x) :: rest, zs, cs, zs', h, hz => by
  unfold aFill at h
  split at h <;> try (cases h; done)
  rename_i off size xs hp hxs
  split at h <;> try (cases h; done)
  rename_i h1 h2
  have h1' := Nat.eq_of_beq_eq_true h1
  have h2' := Nat.le_of_ble_eq_true h2
  have hx := acells_ok hxs (hd x)
  have hlz := hz.length
  have hlx := hx.length
  have hsz : (ρ' x).cells.size = size := by rw [← h1', hlx]; simp
  have hadd : off + size ≤ zs'.length := by simp at h2'; omega
  have hs : DenL σ (seg off xs zs) (zs'.take off ++ (ρ' x).cells.toList ++ zs'.drop (off + (ρ' x).cells.toList.length)) := by
   unfold seg
   rw [← hlx]
   exact ((hz.take off).append hx).append (hz.drop _)
  have hseg : (seg off xs zs).length = zs.length := by unfold seg; simp; omega
  obtain ⟨cs', e, hc, hlen⟩ := fill_ok hd place rest _ cs _ h hs
  refine ⟨cs', ?_, hc, hlen.trans hseg⟩
  have hfold : (ρ' x).cells.zipIdx.foldl (fun (cs : Array Value) (p : Value × Nat) => cs.setIfInBounds (off + p.2) p.1) ⟨zs'⟩ = ⟨zs'.take off ++ (ρ' x).cells.toList ++ zs'.drop (off + (ρ' x).cells.toList.length)⟩ := by
   apply Array.ext'
   rw [← Array.foldl_toList, Array.toList_zipIdx]
   have := set_fold (ρ' x).cells.toList 0 off ⟨zs'⟩ (by simp; omega)
   simpa using this
  simp only [List.map_cons, Instr.fill, hp]
  have hcond : ¬ ((decide ((ρ' x).cells.size ≠ size) || decide (off + (ρ' x).cells.size > (Array.mk zs').size)) = true) := by
   simp
   omega
  rw [if_neg hcond]
  rw [← e]
  congr 1
theorem parts_map {ρ' : Operand → Value} (ps : Array (Nat × Operand)) : (ps.map fun (i, x) => (i, ρ' x)).toList = ps.toList.map fun p => (p.1, ρ' p.2) := by
 simp
def places (P : Program) : List Field → Option (List (Nat × Nat))
 | [] => some []
 | f :: l => match P.info? f.type, places P l with
  | some i, some r => some ((f.offset, i.size) :: r)
  | _, _ => none
theorem places_run {P : Program} {w : World} : ∀ (l : List Field) (r : List (Nat × Nat)), places P l = some r →
  (l.mapM fun f => do pure (f.offset, ← sizeOf f.type) : Sem (List (Nat × Nat))).run P w = .ok r w
 | [], r, h => by cases h; rfl
 | f :: l, r, h => by
  unfold places at h
  split at h <;> try (cases h; done)
  rename_i i r' hi hr
  cases h
  have ih := places_run (P := P) (w := w) l r' hr
  simp only [List.mapM_cons, Sem.run_bind, run_sizeOf' hi, Result.andThen_ok, Sem.run_pure, ih]
def zeroL (P : Program) (t : TypeId) : Option (List AVal) :=
 match P.info? t with
 | some i => match i.zero with
  | some z => match Nat.beq z.cells.toList.length i.size with
   | true => some (z.cells.toList.map ofCell)
   | false => none
  | none => none
 | none => none
theorem zeroL_ok {t : TypeId} {l : List AVal} (h : zeroL P t = some l) : ∃ i z, P.info? t = some i ∧ i.zero = some z ∧ l = z.cells.toList.map ofCell ∧ z.cells.size = i.size := by
 unfold zeroL at h
 split at h <;> try (cases h; done)
 rename_i i hi
 split at h <;> try (cases h; done)
 rename_i z hz
 split at h <;> try (cases h; done)
 rename_i hq
 cases h
 exact ⟨i, z, hi, hz, rfl, by have := Nat.eq_of_beq_eq_true hq; simpa using this⟩
def aBuild (P : Program) (t : TypeId) (parts : Array (Nat × Operand)) (ρ : Operand → AVal) : Option (List AVal) :=
 match zeroL P t, P.underlying t with
 | some z, some (.struct fields) => match places P fields.toList with
  | some pl => aFill (fun i => pl[i]?) ρ z parts.toList
  | none => none
 | some z, some (.array _ elem) => match P.info? elem with
  | some e => aFill (fun i => some (Nat.mul i e.size, e.size)) ρ z parts.toList
  | none => none
 | _, _ => none
def opBuild (P : Program) (t : TypeId) (parts : Array (Nat × Operand)) (ρ : Operand → AVal) (H : Heap) (nx : Nat) : Option ARes :=
 match aBuild P t parts ρ with
 | some cs => some (.val (.agg cs) H nx)
 | none => none
theorem opBuild_ok {t : TypeId} {parts : Array (Nat × Operand)} {ρ : Operand → AVal} {r : ARes} (ho : o.op = .build t parts)
  (h : opBuild P t parts ρ H nx = some r) : OpOK P o ρ H nx r := by
 unfold opBuild at h
 split at h <;> try (cases h; done)
 rename_i cs hcs
 cases h
 refine OpOK.pure fun σ w ρ' _ hd => ?_
 unfold aBuild at hcs
 split at hcs <;> try (cases hcs; done)
 ·rename_i z fields hz hu
  split at hcs <;> try (cases hcs; done)
  rename_i pl hpl
  obtain ⟨i, zv, hi, hzv, rfl, hsz⟩ := zeroL_ok hz
  obtain ⟨cs', e, hc, _⟩ := fill_ok hd (fun i => pl[i]?) parts.toList _ cs zv.cells.toList hcs (denL_ofCell σ _)
  refine ⟨.agg ⟨cs'⟩, .agg hc, ?_⟩
  have hm : (fields.mapM fun f => do pure (f.offset, ← sizeOf f.type) : Sem (Array (Nat × Nat))).run P w = .ok ⟨pl⟩ w := by
   rw [Array.mapM_eq_mapM_toList]
   have := places_run (P := P) (w := w) fields.toList pl hpl
   simp only [Sem.run_map]
   rw [this]
   rfl
  have e' : Instr.fill (fun x => (Array.mk pl)[x]?) zv.cells (parts.map fun (i, x) => (i, ρ' x)).toList = some ⟨cs'⟩ := by
   rw [parts_map, ← e]
   congr 1
   funext x
   simp
  simp only [execOp, ho, Instr.build, Sem.run_bind, Sem.run_pure, Result.andThen_ok, run_zeroValue' hi hzv, run_underlying' hu, hm, e']
 ·rename_i z len elem hz hu
  split at hcs <;> try (cases hcs; done)
  rename_i ei hei
  obtain ⟨i, zv, hi, hzv, rfl, hsz⟩ := zeroL_ok hz
  obtain ⟨cs', e, hc, _⟩ := fill_ok hd (fun i => some (Nat.mul i ei.size, ei.size)) parts.toList _ cs zv.cells.toList hcs (denL_ofCell σ _)
  refine ⟨.agg ⟨cs'⟩, .agg hc, ?_⟩
  have e' : Instr.fill (fun i => some (i * ei.size, ei.size)) zv.cells (parts.map fun (i, x) => (i, ρ' x)).toList = some ⟨cs'⟩ := by
   rw [parts_map, ← e]
   congr 1
  simp only [execOp, ho, Instr.build, Sem.run_bind, Sem.run_pure, Result.andThen_ok, run_zeroValue' hi hzv, run_underlying' hu, run_sizeOf' hei, e']
structure Made where
 n : Nat
 l : List AVal
 v : Nat → AVal
def MadeOK (P : Program) (o : Oper) (ρ : Operand → AVal) (m : Made) : Prop :=
 ∀ (σ : Sg) (w : World) (ρ' : Operand → Value), (∀ x, Den σ (ρ x) (ρ' x)) →
  ∃ (l' : List Value) (t : TypeId) (v' : Value), DenL σ m.l l' ∧ m.l.length = m.n ∧ (∀ (σ' : Sg) (b : Nat), σ' b = some (w.heap.size, m.n) → Den σ' (m.v b) v') ∧
   (execOp ρ' o).run P w = .ok (.value v') (w.alloc (.cells ⟨l'⟩ t))
def madeAlloc (P : Program) (t : TypeId) : Option Made :=
 match zeroL P t with
 | some z => some ⟨z.length, z, fun b => .ptr b 0⟩
 | none => none
theorem madeAlloc_ok {t : TypeId} {ρ : Operand → AVal} {m : Made} (ho : o.op = .alloc t) (h : madeAlloc P t = some m) : MadeOK P o ρ m := by
 unfold madeAlloc at h
 split at h <;> try (cases h; done)
 rename_i z hz
 cases h
 obtain ⟨i, zv, hi, hzv, rfl, hsz⟩ := zeroL_ok hz
 intro σ w ρ' hd
 refine ⟨zv.cells.toList, t, .pointer (some (at' w.heap.size 0)), denL_ofCell σ _, rfl, fun σ' b hb => .ptr hb, ?_⟩
 simp [execOp, ho, Instr.alloc, run_zeroValue' hi hzv, newVar, newRow]
def madeBox (x : Operand) (ρ : Operand → AVal) : Option Made :=
 match acells (ρ x) with
 | some cs => forceN cs.length fun n => some ⟨n, cs, fun b => .ptr b 0⟩
 | none => none
theorem madeBox_ok {t : TypeId} {x : Operand} {ρ : Operand → AVal} {m : Made} (ho : o.op = .box t x) (h : madeBox x ρ = some m) : MadeOK P o ρ m := by
 unfold madeBox at h
 split at h <;> try (cases h; done)
 rename_i cs hcs
 rw [forceN_eq] at h
 cases h
 intro σ w ρ' hd
 refine ⟨(ρ' x).cells.toList, t, .pointer (some (at' w.heap.size 0)), acells_ok hcs (hd x), rfl, fun σ' b hb => .ptr hb, ?_⟩
 simp [execOp, ho, Instr.box, newVar, newRow]
def repL (l : List AVal) (k : Nat) : List AVal := Nat.rec [] (fun _ ih => l ++ ih) k
theorem repL_succ (l : List AVal) (k : Nat) : repL l (k + 1) = l ++ repL l k := rfl
def repV (l : List Value) : Nat → List Value
 | 0 => []
 | k + 1 => l ++ repV l k
theorem repL_den {σ : Sg} {l : List AVal} {l' : List Value} (h : DenL σ l l') : ∀ k, DenL σ (repL l k) (repV l' k)
 | 0 => .nil
 | k + 1 => by rw [repL_succ]; exact h.append (repL_den h k)
theorem repL_length (l : List AVal) : ∀ k, (repL l k).length = k * l.length
 | 0 => by show ([] : List AVal).length = _; simp
 | k + 1 => by rw [repL_succ, List.length_append, repL_length l k, Nat.succ_mul]; omega
theorem repV_eq (z : Array Value) : ∀ k : Nat, ((Array.range (k * z.size)).map (z[· % z.size]!)).toList = repV z.toList k := by
 intro k
 induction k with
 | zero => simp [repV]
 | succ k ih =>
  rw [repV, ← ih]
  simp only [Array.toList_map, Array.toList_range]
  have e : (k + 1) * z.size = z.size + k * z.size := by rw [Nat.succ_mul]; omega
  rw [e, List.range_add, List.map_append]
  congr 1
  ·apply List.ext_getElem
   ·simp
   ·intro i h1 h2
    simp at h1 h2
    simp [Nat.mod_eq_of_lt h1, getElem!_pos z i h1]
  ·rw [List.map_map]
   apply List.map_congr_left
   intro i _
   simp
def madeSliceLit (P : Program) (t : TypeId) (len : Nat) (parts : Array (Nat × Operand)) (ρ : Operand → AVal) : Option Made :=
 match P.underlying t with
 | some (.slice elem) => match zeroL P elem, P.info? elem with
  | some z, some e => match Nat.ble (Nat.mul len e.size) 4096, Nat.beq e.size 0 with
   | true, false => match aFill (fun i => some (Nat.mul i e.size, e.size)) ρ (repL z len) parts.toList with
    | some cs => some ⟨Nat.mul len e.size, cs, fun b => .slice b 0 len e.size true⟩
    | none => none
   | _, _ => none
  | _, _ => none
 | _ => none
theorem madeSliceLit_ok {t : TypeId} {len : Nat} {parts : Array (Nat × Operand)} {ρ : Operand → AVal} {m : Made} (ho : o.op = .buildSlice t len parts)
  (h : madeSliceLit P t len parts ρ = some m) : MadeOK P o ρ m := by
 unfold madeSliceLit at h
 split at h <;> try (cases h; done)
 rename_i elem hu
 split at h <;> try (cases h; done)
 rename_i z e hz he
 split at h <;> try (cases h; done)
 rename_i h1 h2
 have h1' : len * e.size ≤ 4096 := Nat.le_of_ble_eq_true h1
 have h2' : e.size ≠ 0 := fun q => by rw [q] at h2; cases h2
 split at h <;> try (cases h; done)
 rename_i cs hcs
 cases h
 obtain ⟨i, zv, hi, hzv, rfl, hsz⟩ := zeroL_ok hz
 rw [he] at hi
 cases hi
 intro σ w ρ' hd
 obtain ⟨cs', ef, hc, hlen⟩ := fill_ok hd (fun i => some (Nat.mul i e.size, e.size)) parts.toList _ cs _ hcs (repL_den (denL_ofCell σ zv.cells.toList) len)
 have hlen' : cs.length = len * e.size := by rw [hlen, repL_length]; simp [hsz]
 refine ⟨cs', elem, .slice (some (at' w.heap.size 0)) len len, hc, hlen', fun σ' b hb => .slice hb (Nat.le_refl _) (by simp) (fun _ => rfl), ?_⟩
 have ez : (Array.range (len * e.size)).map (fun x => zv.cells[x % zv.cells.size]!) = ⟨repV zv.cells.toList len⟩ := by
  apply Array.ext'
  rw [← hsz]
  exact repV_eq zv.cells len
 have e' : Instr.fill (fun i => some (i * e.size, e.size)) ⟨repV zv.cells.toList len⟩ (parts.map fun (i, x) => (i, ρ' x)).toList = some ⟨cs'⟩ := by
  rw [parts_map, ← ef]
  congr 1
 have hbig : ¬ len * e.size > 2 ^ 24 := by omega
 simp only [execOp, ho, Instr.buildSlice, Sem.run_bind, Sem.run_pure, Result.andThen_ok, run_underlying' hu, run_sizeOf' he, Sem.run_ite, if_neg hbig]
 by_cases hl0 : len * e.size = 0
 ·have hlen0 : len = 0 := by
   rcases Nat.mul_eq_zero.1 hl0 with h | h
   ·exact h
   ·exact (h2' h).elim
  subst hlen0
  have ez' : (Array.range (0 * e.size)).map (fun x => (#[] : Array Value)[x % (#[] : Array Value).size]!) = ⟨repV zv.cells.toList 0⟩ := by simp [repV]
  simp only [if_pos hl0, Result.andThen_ok, ez', e', newRow, Sem.run_bind, run_newObj, Sem.run_pure]
  rfl
 ·simp only [if_neg hl0, run_zeroValue' he hzv, Sem.run_bind, Sem.run_pure, Result.andThen_ok, ez, e', newRow, run_newObj]
  rfl
def madeMake (P : Program) (t : TypeId) (l c : Operand) (ρ : Operand → AVal) : Option Made :=
 match P.underlying t, ρ l, ρ c with
 | some (.slice elem), .int _ li, .int _ ci => match zeroL P elem, P.info? elem, asNat li, asNat ci with
  | some z, some e, some n, some m => match Nat.beq n m, Nat.ble (Nat.mul n e.size) 4096, Nat.ble (Nat.mul n e.bytes) 140737488355328, Nat.beq e.size 0, Nat.ble n 9223372036854775807 with
   | true, true, true, false, true => forceN (Nat.mul n e.size) fun k => some ⟨k, repL z n, fun b => .slice b 0 n e.size true⟩
   | _, _, _, _, _ => none
  | _, _, _, _ => none
 | _, _, _ => none
theorem madeMake_ok {t : TypeId} {l c : Operand} {ρ : Operand → AVal} {m : Made} (ho : o.op = .makeSlice t l c)
  (h : madeMake P t l c ρ = some m) : MadeOK P o ρ m := by
 unfold madeMake at h
 split at h <;> try (cases h; done)
 rename_i elem k1 li k2 ci hu hl hc
 split at h <;> try (cases h; done)
 rename_i z e n n2 hz he hn hn2
 split at h <;> try (cases h; done)
 rename_i h1 h2 h3 h4 h5
 have h1' := Nat.eq_of_beq_eq_true h1
 subst h1'
 have h2' : n * e.size ≤ 4096 := Nat.le_of_ble_eq_true h2
 have h3' : n * e.bytes ≤ 140737488355328 := Nat.le_of_ble_eq_true h3
 have h4' : e.size ≠ 0 := fun q => by rw [q] at h4; cases h4
 have h5' : n ≤ 9223372036854775807 := Nat.le_of_ble_eq_true h5
 have e1 := asNat_ok hn
 have e2 := asNat_ok hn2
 subst e1
 subst e2
 rw [forceN_eq] at h
 cases h
 obtain ⟨i, zv, hi, hzv, rfl, hsz⟩ := zeroL_ok hz
 rw [he] at hi
 cases hi
 intro σ w ρ' hd
 have d1 := hd l; rw [hl] at d1
 have d2 := hd c; rw [hc] at d2
 cases q1 : ρ' l <;> rw [q1] at d1 <;> cases d1
 cases q2 : ρ' c <;> rw [q2] at d2 <;> cases d2
 refine ⟨repV zv.cells.toList n, elem, .slice (some (at' w.heap.size 0)) n n, repL_den (denL_ofCell σ _) n, (by show _ = n * e.size; rw [repL_length, List.length_map, Array.length_toList, hsz]), fun σ' b hb => .slice hb (Nat.le_refl _) (by simp) (fun _ => rfl), ?_⟩
 have ez : (Array.range (n * e.size)).map (fun x => zv.cells[x % zv.cells.size]!) = ⟨repV zv.cells.toList n⟩ := by
  apply Array.ext'
  rw [← hsz]
  exact repV_eq zv.cells n
 have w1 : IntKind.i64.wrap (n : Int) = (n : Int) := IntWalk.i64_in _ (by omega)
 have t1 : ¬ ((n : Int) < 0) := by omega
 have hb : ((e.bytes : Int) * (n : Int)) = ((n * e.bytes : Nat) : Int) := by rw [Int.natCast_mul, Int.mul_comm]
 have t2 : ¬ ((e.bytes : Int) * (n : Int) > 2 ^ 48) := by rw [hb]; omega
 have t3 : ¬ ((n : Int) > (n : Int)) := by omega
 simp only [execOp, ho, Instr.makeSlice, q1, q2, Sem.run_bind, Sem.run_pure, Result.andThen_ok, run_underlying' hu, asInt, asIntOf, run_typeInfo' he, w1]
 have tl : (decide ((n : Int) < 0) || decide ((e.bytes : Int) * (n : Int) > 2 ^ 48)) = false := by rw [decide_eq_false t1, decide_eq_false t2]; rfl
 have cond : ¬ ((((decide ((n : Int) < 0) || decide ((e.bytes : Int) * (n : Int) > 2 ^ 48)) || decide ((n : Int) < 0)) || decide ((n : Int) > (n : Int))) = true) := by
  rw [tl]
  have : decide ((n : Int) < 0) = false := decide_eq_false t1
  rw [this]
  simp
 rw [Sem.run_ite, if_neg cond]
 simp only [Sem.run_bind, Sem.run_pure, Result.andThen_ok, run_askRoom, Int.toNat_natCast, run_sizeOf' he, Sem.run_ite]
 by_cases hl0 : n * e.size = 0
 ·have hn0 : n = 0 := by
   rcases Nat.mul_eq_zero.1 hl0 with h | h
   ·exact h
   ·exact (h4' h).elim
  subst hn0
  have ez' : (Array.range (0 * e.size)).map (fun x => (#[] : Array Value)[x % (#[] : Array Value).size]!) = ⟨repV zv.cells.toList 0⟩ := by simp [repV]
  simp only [if_pos hl0, Sem.run_pure, Result.andThen_ok, ez', newRow, Sem.run_bind, run_newObj]
  rfl
 ·simp only [if_neg hl0, run_zeroValue' he hzv, Sem.run_bind, Sem.run_pure, Result.andThen_ok, ez, newRow, run_newObj]
  rfl
def made (P : Program) (op : Op) (ρ : Operand → AVal) : Option Made :=
 match op with
 | .alloc t => madeAlloc P t
 | .box _ x => madeBox x ρ
 | .buildSlice t len parts => madeSliceLit P t len parts ρ
 | .makeSlice t l c => madeMake P t l c ρ
 | _ => none
theorem made_ok {ρ : Operand → AVal} {m : Made} (h : made P o.op ρ = some m) : MadeOK P o ρ m := by
 unfold made at h
 split at h <;> try (cases h; done)
 ·exact madeAlloc_ok ‹_› h
 ·exact madeBox_ok ‹_› h
 ·exact madeSliceLit_ok ‹_› h
 ·exact madeMake_ok ‹_› h
theorem made_cells {σ : Sg} {n : Nat} {l : List AVal} {l' : List Value} (hl : DenL σ l l') (hn : l.length = n) (h4 : n ≤ 4096) :
  n ≤ (CT.ofL n l).cap ∧ n = (Array.mk l').size ∧ ∀ i, i < n → ∃ v', (Array.mk l')[i]? = some v' ∧ Den σ ((CT.ofL n l).get i) v' := by
 refine ⟨CT.ofL_cap n l h4, by rw [← hn, hl.length]; rfl, fun i hi => ?_⟩
 have hlt : i < l.length := by omega
 obtain ⟨v', e, d⟩ := hl.get i l[i] (by simp [List.getElem?_eq_getElem hlt])
 refine ⟨v', by simpa using e, ?_⟩
 rw [CT.get_ofL n l i h4 hi]
 simpa [List.getD, List.getElem?_eq_getElem hlt] using d
def opMade (m : Made) (H : Heap) (nx : Nat) : Option ARes :=
 match Nat.ble m.n 4096, Nat.ble (Nat.succ nx) 1048576 with
 | true, true => forceN nx fun b => some (.val (m.v b) (set5 b (some (.cells m.n (CT.ofL m.n m.l) [] false)) H) (Nat.succ b))
 | _, _ => none
theorem opMade_ok {ρ : Operand → AVal} {m : Made} {r : ARes} (hm : MadeOK P o ρ m) (h : opMade m H nx = some r) : OpOK P o ρ H nx r := by
 unfold opMade at h
 split at h <;> try (cases h; done)
 rename_i h1 h2
 have h1' := Nat.le_of_ble_eq_true h1
 have h2' := Nat.le_of_ble_eq_true h2
 rw [forceN_eq] at h
 cases h
 intro σ w ρ' hr hd
 obtain ⟨l', t, v', hl, hn, hv, hrun⟩ := hm σ w ρ' hd
 obtain ⟨c1, c2, c3⟩ := made_cells hl hn h1'
 obtain ⟨r1, r2⟩ := hr.alloc (t := t) (fz := (0, 0)) (by omega) c1 c2 (Nat.le_refl _) (fun i _ h => by omega) c3
 refine ⟨_, _, v', r1, r2, hv _ nx (by simp [upd]), .inl hrun⟩
end
end Go.Ev
namespace Go.Ev
variable [GTab] {P : Program} {H : Heap} {nx : Nat} {w : World} {o : Oper}
noncomputable section
theorem Rel.demote {σ : Sg} {nx b n cb sz : Nat} {ct : CT} {olds : List Nat} (h : Rel σ H nx w) (hb : σ b = some (cb, sz)) (ho : get5 b H = some (.cells n ct olds false)) :
  Rel σ (set5 b (some (.cells n ct [] true)) (dels olds H)) nx w ∧ (∀ c, c < nx → σ c = none → get5 c (set5 b (some (.cells n ct [] true)) (dels olds H)) = get5 c H) ∧
  (∀ c o s, get5 c (set5 b (some (.cells n ct [] true)) (dels olds H)) = some o → σ c = some (cb, s) → c = b) := by
 have hlim := h.lim
 have lt : ∀ {c p}, σ c = some p → c < 1048576 := fun {c p} hc => by obtain ⟨cb, sz⟩ := p; have := (h.dom c cb sz hc).1; omega
 have hold : ∀ c, c ∈ olds → ∃ p', σ c = some p' := fun c hc => h.old b _ _ ho hb c hc
 have holt : ∀ c, c ∈ olds → c < 1048576 := fun c hc => let ⟨_, e⟩ := hold c hc; lt e
 have bn : b < 1048576 := lt hb
 have key : ∀ c o, c ≠ b → c < 1048576 → get5 c (set5 b (some (.cells n ct [] true)) (dels olds H)) = some o → get5 c H = some o ∧ c ∉ olds := by
  intro c o hcb hc e
  rw [get5_ne (fun e => hcb e.symm) bn hc, get5_dels olds H c holt hc] at e
  by_cases hm : c ∈ olds
  ·rw [if_pos hm] at e; cases e
  ·rw [if_neg hm] at e; exact ⟨e, hm⟩
 have keyb : get5 b (set5 b (some (.cells n ct [] true)) (dels olds H)) = some (.cells n ct [] true) := get5_set5_same _ _ _
 have alone : ∀ c o s, c ≠ b → c ∉ olds → get5 c H = some o → σ c = some (cb, s) → False := by
  intro c o s hcb hno hc hs
  rcases h.sep c b o _ cb s sz hc ho hs hb with e | e | e
  ·exact hcb e
  ·exact hno e
  ·have := h.sup b c _ o _ ho hc hs e
   simp [AObj.sup] at this
 refine ⟨⟨hlim, h.dom, ?_, ?_, ?_, ?_, h.glob⟩, ?_, ?_⟩
 ·intro c o x s e1 e2
  by_cases hcb : c = b
  ·subst hcb; rw [keyb] at e1; cases e1
   have := h.obj c _ x s ho e2
   exact this
  ·exact h.obj c o x s (key c o hcb (lt e2) e1).1 e2
 ·intro c c' o o' x s s' e1 e2 e3 e4
  by_cases h1 : c = b
  ·subst h1
   by_cases h2 : c' = c
   ·exact .inl h2.symm
   ·obtain ⟨e2', hno⟩ := key c' o' h2 (lt e4) e2
    rw [hb] at e3; cases e3
    exact (alone c' o' s' h2 hno e2' e4).elim
  ·obtain ⟨e1', hno⟩ := key c o h1 (lt e3) e1
   by_cases h2 : c' = b
   ·subst h2
    rw [hb] at e4; cases e4
    exact (alone c o s h1 hno e1' e3).elim
   ·exact h.sep c c' o o' x s s' e1' (key c' o' h2 (lt e4) e2).1 e3 e4
 ·intro c c' o o' p e1 e2 e3 e4
  by_cases h2 : c' = b
  ·subst h2; rw [keyb] at e2; cases e2; simp [AObj.olds] at e4
  ·obtain ⟨e2', _⟩ := key c' o' h2 (lt e3) e2
   obtain ⟨p', hp'⟩ := h.old c' o' p e2' e3 c e4
   by_cases h1 : c = b
   ·subst h1; rw [keyb] at e1; cases e1; rfl
   ·exact h.sup c c' o o' p (key c o h1 (lt hp') e1).1 e2' e3 e4
 ·intro c o p e1 e2 c' e3
  by_cases h1 : c = b
  ·subst h1; rw [keyb] at e1; cases e1; simp [AObj.olds] at e3
  ·exact h.old c o p (key c o h1 (lt e2) e1).1 e2 c' e3
 ·intro c hc hn
  have hcb : b ≠ c := fun e => by subst e; rw [hb] at hn; cases hn
  have hno : c ∉ olds := fun hm => by obtain ⟨_, e⟩ := hold c hm; rw [hn] at e; cases e
  rw [get5_ne hcb bn (by omega), get5_dels olds H c holt (by omega), if_neg hno]
 ·intro c o s e1 e2
  by_cases hcb : c = b
  ·exact hcb
  ·obtain ⟨e1', hno⟩ := key c o hcb (lt e2) e1
   exact (alone c o s hcb hno e1' e2).elim
theorem Rel.share {σ : Sg} {nx cb sz n : Nat} {w w' : World} {ct : CT} {os : List Nat} (h : Rel σ H nx w) (hx : nx < 1048576) (hcb : cb < w'.heap.size)
  (hsize : w.heap.size ≤ w'.heap.size) (hblk : ∀ i, i < w.heap.size → i ≠ cb → w'.heap[i]? = w.heap[i]?)
  (hos : ∀ c, c ∈ os → (∃ p, σ c = some p) ∧ ∀ o, get5 c H = some o → o.sup = true)
  (hal : ∀ c o s, get5 c H = some o → σ c = some (cb, s) → c ∈ os ∧ ORel σ o cb s w')
  (hnew : ORel (upd σ nx (cb, sz)) (.cells n ct os false) cb sz w') (hrng : cb < w.heap.size → ∃ b' sz', σ b' = some (cb, sz')) :
  Rel (upd σ nx (cb, sz)) (set5 nx (some (.cells n ct os false)) H) (nx + 1) w' := by
 have hb : σ nx = none := by
  cases e : σ nx with
  | none => rfl
  | some p => obtain ⟨cb, s⟩ := p; have := (h.dom nx cb s e).1; omega
 have sub := upd_sub (p := (cb, sz)) hb
 have hlim := h.lim
 have lt : ∀ {c p}, σ c = some p → c < nx := fun {c p} hc => by obtain ⟨cb, sz⟩ := p; exact (h.dom c cb sz hc).1
 have ne : ∀ {c p}, σ c = some p → get5 c (set5 nx (some (.cells n ct os false)) H) = get5 c H := by
  intro c p hc
  have := lt hc
  exact get5_ne (by omega) hx (by omega)
 have hglob : Glob (upd σ nx (cb, sz)) w' := by
  refine h.glob.of hsize (fun i hi hno => hblk i hi fun e => ?_) fun x c s e hlt => ?_
  ·subst e
   obtain ⟨b', sz', e'⟩ := hrng hi
   exact hno b' sz' e'
  ·rcases upd_inv e with ⟨rfl, q⟩ | ⟨_, q⟩
   ·cases q; exact hrng hlt
   ·exact ⟨x, s, q⟩
 refine ⟨by omega, ?_, ?_, ?_, ?_, ?_, hglob⟩
 ·intro c x s e
  rcases upd_inv e with ⟨rfl, q⟩ | ⟨_, q⟩
  ·cases q; exact ⟨by omega, hcb⟩
  ·have := h.dom c x s q; exact ⟨by omega, by omega⟩
 ·intro c o x s e1 e2
  rcases upd_inv e2 with ⟨rfl, q⟩ | ⟨hne, q⟩
  ·cases q; rw [get5_set5_same] at e1; cases e1; exact hnew
  ·rw [ne q] at e1
   by_cases hx' : x = cb
   ·subst hx'; exact ORel.mono sub (hal c o s e1 q).2
   ·exact (ORel.mono sub (h.obj c o x s e1 q)).of_block (hblk x (h.dom c x s q).2 hx')
 ·intro c c' o o' x s s' e1 e2 e3 e4
  rcases upd_inv e3 with ⟨rfl, q⟩ | ⟨_, q⟩
  ·cases q
   rcases upd_inv e4 with ⟨rfl, _⟩ | ⟨_, q'⟩
   ·exact .inl rfl
   ·rw [ne q'] at e2
    rw [get5_set5_same] at e1
    cases e1
    exact .inr (.inr (hal c' o' s' e2 q').1)
  ·rw [ne q] at e1
   rcases upd_inv e4 with ⟨rfl, q'⟩ | ⟨_, q'⟩
   ·cases q'
    rw [get5_set5_same] at e2
    cases e2
    exact .inr (.inl (hal c o s e1 q).1)
   ·rw [ne q'] at e2
    exact h.sep c c' o o' x s s' e1 e2 q q'
 ·intro c c' o o' p e1 e2 e3 e4
  rcases upd_inv e3 with ⟨rfl, _⟩ | ⟨_, q⟩
  ·rw [get5_set5_same] at e2
   cases e2
   obtain ⟨⟨p', hp'⟩, hs⟩ := hos c e4
   rw [ne hp'] at e1
   exact hs o e1
  ·rw [ne q] at e2
   obtain ⟨p', hp'⟩ := h.old c' o' p e2 q c e4
   rw [ne hp'] at e1
   exact h.sup c c' o o' p e1 e2 q e4
 ·intro c o p e1 e2 c' e3
  rcases upd_inv e2 with ⟨rfl, _⟩ | ⟨_, q⟩
  ·rw [get5_set5_same] at e1
   cases e1
   obtain ⟨⟨p', hp'⟩, _⟩ := hos c' e3
   exact ⟨p', sub _ _ hp'⟩
  ·rw [ne q] at e1
   obtain ⟨p', hp'⟩ := h.old c o p e1 q c' e3
   exact ⟨p', sub _ _ hp'⟩
def bytesL (x : Nat) (n : Nat) : List AVal := Nat.rec [] (fun m ih => .int .u8 (.ofNat (Nat.mod (Nat.shiftRight x (Nat.mul 8 m)) 256)) :: ih) n
theorem bytesL_succ (x n : Nat) : bytesL x (n + 1) = .int .u8 (.ofNat (Nat.mod (Nat.shiftRight x (Nat.mul 8 n)) 256)) :: bytesL x n := rfl
theorem bytesL_length (x : Nat) : ∀ n, (bytesL x n).length = n
 | 0 => rfl
 | n + 1 => by rw [bytesL_succ, List.length_cons, bytesL_length x n]
theorem bytesL_den {σ : Sg} (x : Nat) : ∀ n, DenL σ (bytesL x n) ((digs n x).map fun b => Value.int .u8 b.toNat)
 | 0 => .nil
 | n + 1 => by
  rw [bytesL_succ, digs, List.map_cons]
  refine .cons ?_ (bytesL_den x n)
  have e : ((UInt8.ofNat (x / 256 ^ n)).toNat : Int) = Int.ofNat (Nat.mod (Nat.shiftRight x (Nat.mul 8 n)) 256) := by
   have e1 : Nat.mod (Nat.shiftRight x (Nat.mul 8 n)) 256 = x / 256 ^ n % 256 := by
    show (x >>> (8 * n)) % 256 = _
    rw [Nat.shiftRight_eq_div_pow, pow256]
   rw [e1]
   simp [UInt8.toNat_ofNat']
  rw [e]
  exact .int _ _
def aSrc (size : Nat) (H : Heap) (x : AVal) : Option (Nat × List AVal) :=
 match x with
 | .slice b off n _ _ => match get5 b H with
  | some (.cells cnt ct _ _) => match Nat.ble (Nat.add off (Nat.mul n size)) cnt with
   | true => some (n, CT.slab ct (Nat.mul n size) off)
   | false => none
  | _ => none
 | .nilSlice => some (0, [])
 | .str n z => match Nat.beq size 1 with
  | true => some (n, bytesL z n)
  | false => none
 | _ => none
theorem aSrc_ok {σ : Sg} {size n : Nat} {x : AVal} {x' : Value} {l : List AVal} (hr : Rel σ H nx w) (hd : Den σ x x') (h : aSrc size H x = some (n, l)) :
  l.length = n * size ∧ ∃ l', DenL σ l l' ∧ (Builtin.lenOf x').run P w = .ok n w ∧ (Builtin.firstCells size n x').run P w = .ok ⟨l'⟩ w := by
 unfold aSrc at h
 split at h
 ·rename_i b off m esz full
  split at h <;> try (cases h; done)
  rename_i cnt ct olds s ho
  split at h <;> try (cases h; done)
  rename_i hle
  have hle' : off + m * size ≤ cnt := Nat.le_of_ble_eq_true hle
  cases h
  refine ⟨CT.slab_length _ _ _, ?_⟩
  cases hd with
  | @slice _ _ _ _ cb sz cap _ hb h1 h2 h3 =>
   obtain ⟨l', _, hl, _, hrun⟩ := load_slab hr ho hb P off (n * size) hle'
   exact ⟨l', hl, rfl, hrun⟩
  | slice0 hb =>
   have e : Nat.mul 0 size = 0 := Nat.zero_mul _
   rw [e]
   refine ⟨[], .nil, rfl, ?_⟩
   simp [Builtin.firstCells, loadCells, loadCellsFrom]
 ·cases h
  cases hd
  exact ⟨by simp, [], .nil, rfl, rfl⟩
 ·rename_i m z
  split at h <;> try (cases h; done)
  rename_i hs
  have hs' := Nat.eq_of_beq_eq_true hs
  cases h
  cases hd
  refine ⟨by rw [bytesL_length, hs', Nat.mul_one], _, bytesL_den z n, ?_, ?_⟩
  ·show Result.ok (dec n z).size w = _
   rw [dec_size]
  ·simp only [Builtin.firstCells, Sem.run_pure]
   congr 1
   apply Array.ext'
   rw [Lib.extract_eq, dec_data]
   simp only [List.drop_zero, Nat.sub_zero]
   rw [List.take_of_length_le (by rw [digs_length]; exact Nat.le_refl _)]
   simp
 ·cases h
def srcD : TypeDesc → Bool
 | .slice _ | .string => true
 | _ => false
def grown (b cnt : Nat) (ct : CT) (olds : List Nat) (k : Nat) (H : Heap) (b' total : Nat) (ct' : CT) : Heap :=
 match Nat.beq k cnt with
 | true => set5 b' (some (.cells total ct' [b] false)) (set5 b (some (.cells cnt ct [] true)) (dels olds H))
 | false => set5 b' (some (.cells total ct' [] false)) (set5 b none (set5 b (some (.cells cnt ct [] true)) (dels olds H)))
def aZeros (P : Program) (elem : TypeId) (size : Nat) (x : AVal) : Option (Nat × List AVal) :=
 match x, zeroL P elem with
 | .int .i64 (.ofNat n), some z => match Nat.ble (Nat.mul n size) 4096, Nat.ble n 4096 with
  | true, true => some (n, repL z n)
  | _, _ => none
 | _, _ => none
def isInt : TypeDesc → Bool
 | .int _ => true
 | _ => false
def aAppend (P : Program) (elem : TypeId) (H : Heap) (nx : Nat) (s : AVal) (src : Nat → Option (Nat × List AVal)) : Option ARes :=
 match zeroL P elem, P.info? elem with
 | some _, some e =>
  match src e.size, Nat.beq e.size 0, Nat.ble (Nat.succ nx) 1048576 with
  | some (0, _), false, true => match s with
   | .nilSlice => some (.val .nilSlice H nx)
   | .slice b off len esz full => some (.val (.slice b off len esz full) H nx)
   | _ => none
  | some (Nat.succ n', new), false, true => match s with
   | .nilSlice => match Nat.ble (Nat.mul (Nat.succ n') e.size) 4096, Nat.ble (Nat.mul (Nat.succ n') e.bytes) 140737488355328 with
    | true, true => forceN nx fun b' => forceN (Nat.mul (Nat.succ n') e.size) fun total =>
      some (.val (.slice b' 0 (Nat.succ n') e.size false) (set5 b' (some (.cells total (CT.ofL total new) [] false)) H) (Nat.succ b'))
    | _, _ => none
   | .slice b off len esz full => match get5 b H, Nat.beq esz e.size, Nat.ble (Nat.mul (Nat.add len (Nat.succ n')) e.size) 4096, Nat.ble (Nat.mul (Nat.add len (Nat.succ n')) e.bytes) 140737488355328 with
    | some (.cells cnt ct olds sup), true, true, true => match Nat.ble (Nat.add off (Nat.mul len e.size)) cnt, full with
     | true, true => forceN nx fun b' => forceN (Nat.mul (Nat.add len (Nat.succ n')) e.size) fun total => forceN (Nat.add len (Nat.succ n')) fun m =>
       some (.val (.slice b' 0 m e.size false) (set5 b' (some (.cells total (CT.ofL total (CT.slab ct (Nat.mul len e.size) off ++ new)) [] false)) H) (Nat.succ b'))
     | true, false => match off, sup with
      | 0, false => forceN nx fun b' => forceN (Nat.mul (Nat.add len (Nat.succ n')) e.size) fun total => forceN (Nat.add len (Nat.succ n')) fun m =>
        some (.val (.slice b' 0 m e.size false) (grown b cnt ct olds (Nat.mul len e.size) H b' total (CT.lay new (Nat.mul len e.size) (CT.widen total ct))) (Nat.succ b'))
      | _, _ => none
     | _, _ => none
    | _, _, _, _ => none
   | _ => none
  | _, _, _ => none
 | _, _ => none
theorem run_append_room {sT xT u elem : TypeId} {e : TypeInfo} {d : TypeDesc} {base : Option Addr} {len cap n : Nat} {x' : Value} {l' : List Value}
  (hu : P.underlying sT = some (.slice elem)) (hx : P.underlying xT = some d) (hd : srcD d = true) (he : P.info? elem = some e)
  (hlen : (Builtin.lenOf x').run P w = .ok n w) (hfc : (Builtin.firstCells e.size n x').run P w = .ok ⟨l'⟩ w) (hroom : len + n ≤ cap) :
  (Builtin.append_ #[sT, xT] u #[.slice base len cap, x']).run P w =
   (match base with | some a => (storeCells (a.add (len * e.size)) l').run P w | none => .ok () w).andThen fun _ w' => .ok (.slice base (len + n) cap) w' := by
 cases d <;> try (cases hd; done)
 all_goals (cases base <;> simp [Builtin.append_, run_underlying' hu, run_underlying' hx, run_sizeOf' he, hlen, hroom, hfc])
theorem run_append_grow' {sT xT u elem : TypeId} {e : TypeInfo} {z : Value} {d : TypeDesc} {base : Option Addr} {len cap n : Nat} {x' : Value} {l' o' : List Value}
  (hu : P.underlying sT = some (.slice elem)) (hx : P.underlying xT = some d) (hd : srcD d = true) (he : P.info? elem = some e) (hz : e.zero = some z)
  (hlen : (Builtin.lenOf x').run P w = .ok n w) (hfc : (Builtin.firstCells e.size n x').run P w.drew = .ok ⟨l'⟩ w.drew)
  (hold : (Builtin.firstCells e.size len (.slice base len cap)).run P w.drew = .ok ⟨o'⟩ w.drew) (hroom : cap < len + n) (hb : (len + n) * e.bytes ≤ 140737488355328) (h4 : len + n ≤ 4096) :
  ∃ c, len + n ≤ c ∧ (Builtin.append_ #[sT, xT] u #[.slice base len cap, x']).run P w =
   .ok (.slice (some (at' w.heap.size 0)) (len + n) c) (w.drew.alloc (.cells (⟨o'⟩ ++ ⟨l'⟩ ++ Builtin.zeroCells z.cells (c - (len + n))) elem)) := by
 have hn : ¬ (len + n ≤ cap) := by omega
 have h63 : ¬ (9223372036854775807 < ((len : Int) + (n : Int))) := by omega
 have h48 : ¬ (281474976710656 < Builtin.nextslicecap (len + n) cap * e.bytes) := by have := growslice_fits hroom hb; omega
 refine ⟨(Question.appendCap (len + n) cap elem).cut (w.tape w.drawn (.appendCap (len + n) cap elem)), by simp [Question.cut], ?_⟩
 cases d <;> try (cases hd; done)
 all_goals (simp [Builtin.append_, run_underlying' hu, run_underlying' hx, run_sizeOf' he, run_typeInfo' he, run_zeroValue' he hz, hlen, hn, h63, h48, Question.forced, hfc, hold, newRow]; congr 2; apply Array.ext'; simp)
def RoomRun (P : Program) (w : World) (sT xT : TypeId) (e : TypeInfo) (x' : Value) (n : Nat) (l' : List Value) : Prop :=
 n * e.bytes ≤ 140737488355328 → ∀ (u : TypeId) (base : Option Addr) (len cap : Nat), len + n ≤ cap →
  (Builtin.append_ #[sT, xT] u #[.slice base len cap, x']).run P w =
   (match base with | some a => (storeCells (a.add (len * e.size)) l').run P w | none => .ok () w).andThen fun _ w' => .ok (.slice base (len + n) cap) w'
def GrowRun (P : Program) (w : World) (sT xT elem : TypeId) (e : TypeInfo) (z : Value) (x' : Value) (n : Nat) (l' : List Value) : Prop :=
 ∀ (u : TypeId) (base : Option Addr) (len cap : Nat) (o' : List Value), (Builtin.firstCells e.size len (.slice base len cap)).run P w.drew = .ok ⟨o'⟩ w.drew → cap < len + n → (len + n) * e.bytes ≤ 140737488355328 → len + n ≤ 4096 →
  ∃ c, len + n ≤ c ∧ (Builtin.append_ #[sT, xT] u #[.slice base len cap, x']).run P w =
   .ok (.slice (some (at' w.heap.size 0)) (len + n) c) (w.drew.alloc (.cells (⟨o'⟩ ++ ⟨l'⟩ ++ Builtin.zeroCells z.cells (c - (len + n))) elem))
theorem room_src {sT xT elem : TypeId} {e : TypeInfo} {d : TypeDesc} {n : Nat} {x' : Value} {l' : List Value}
  (hu : P.underlying sT = some (.slice elem)) (hx : P.underlying xT = some d) (hd : srcD d = true) (he : P.info? elem = some e)
  (hlen : (Builtin.lenOf x').run P w = .ok n w) (hfc : (Builtin.firstCells e.size n x').run P w = .ok ⟨l'⟩ w) : RoomRun P w sT xT e x' n l' :=
 fun _ _ _ _ _ hroom => run_append_room hu hx hd he hlen hfc hroom
theorem grow_src {sT xT elem : TypeId} {e : TypeInfo} {z : Value} {d : TypeDesc} {n : Nat} {x' : Value} {l' : List Value}
  (hu : P.underlying sT = some (.slice elem)) (hx : P.underlying xT = some d) (hd : srcD d = true) (he : P.info? elem = some e) (hz : e.zero = some z)
  (hlen : (Builtin.lenOf x').run P w = .ok n w) (hfc : (Builtin.firstCells e.size n x').run P w.drew = .ok ⟨l'⟩ w.drew) : GrowRun P w sT xT elem e z x' n l' :=
 fun _ _ _ _ _ hold hroom hb h4 => run_append_grow' hu hx hd he hz hlen hfc hold hroom hb h4
theorem wrap_small {n : Nat} (h : n ≤ 4096) : IntKind.i64.wrap (n : Int) = (n : Int) := by
 have h1 : ((n : Int) % 2 ^ 64) = (n : Int) := by omega
 simp only [IntKind.wrap, IntKind.signed, IntKind.bits, h1]
 rw [if_neg (by simp; omega)]
theorem run_small {n : Nat} : (asIntOf (.int .i64 (n : Int))).run P w = .ok (.i64, (n : Int)) w := rfl
theorem room_zeros {sT xT elem : TypeId} {e : TypeInfo} {z : Value} {k : IntKind} {n : Nat}
  (hu : P.underlying sT = some (.slice elem)) (hx : P.underlying xT = some (.int k)) (he : P.info? elem = some e) (hz : e.zero = some z) (hzs : z.cells.size = e.size) (hn : n ≤ 4096) :
  RoomRun P w sT xT e (.int .i64 (n : Int)) n (Builtin.zeroCells z.cells n).toList := by
 intro hb u base len cap hroom
 have hwr := wrap_small hn
 have h1 : ¬ ((n : Int) < 0) := by omega
 have h2 : ¬ (281474976710656 < (n : Int) * (e.bytes : Int)) := by omega
 by_cases h0 : n * e.size = 0
 ·have e0 : Builtin.zeroCells z.cells n = #[] := by apply Array.eq_empty_of_size_eq_zero; simp [Builtin.zeroCells, hzs, h0]
  cases base <;> simp [Builtin.append_, run_underlying' hu, run_underlying' hx, run_sizeOf' he, run_typeInfo' he, asInt, run_small, hwr, h1, h2, hroom, h0, e0]
 ·cases base <;> simp [Builtin.append_, run_underlying' hu, run_underlying' hx, run_sizeOf' he, run_typeInfo' he, run_zeroValue' he hz, asInt, run_small, hwr, h1, h2, hroom, h0]
theorem grow_zeros {sT xT elem : TypeId} {e : TypeInfo} {z : Value} {k : IntKind} {n : Nat}
  (hu : P.underlying sT = some (.slice elem)) (hx : P.underlying xT = some (.int k)) (he : P.info? elem = some e) (hz : e.zero = some z) (hzs : z.cells.size = e.size) (hn : n ≤ 4096) :
  GrowRun P w sT xT elem e z (.int .i64 (n : Int)) n (Builtin.zeroCells z.cells n).toList := by
 intro u base len cap o' hold hroom hb h4
 have hwr := wrap_small hn
 have h1 : ¬ ((n : Int) < 0) := by omega
 have h2 : ¬ (281474976710656 < (n : Int) * (e.bytes : Int)) := by
  have : n * e.bytes ≤ (len + n) * e.bytes := Nat.mul_le_mul_right _ (by omega)
  omega
 have hn' : ¬ (len + n ≤ cap) := by omega
 have h63 : ¬ (9223372036854775807 < ((len : Int) + (n : Int))) := by omega
 have h48 : ¬ (281474976710656 < Builtin.nextslicecap (len + n) cap * e.bytes) := by have := growslice_fits hroom hb; omega
 refine ⟨(Question.appendCap (len + n) cap elem).cut (w.tape w.drawn (.appendCap (len + n) cap elem)), by simp [Question.cut], ?_⟩
 by_cases h0 : n * e.size = 0
 ·have e0 : Builtin.zeroCells z.cells n = #[] := by apply Array.eq_empty_of_size_eq_zero; simp [Builtin.zeroCells, hzs, h0]
  simp [Builtin.append_, run_underlying' hu, run_underlying' hx, run_sizeOf' he, run_typeInfo' he, run_zeroValue' he hz, asInt, run_small, hwr, h1, h2, hn', h63, h48, Question.forced, hold, newRow, e0]
 ·simp [Builtin.append_, run_underlying' hu, run_underlying' hx, run_sizeOf' he, run_typeInfo' he, run_zeroValue' he hz, asInt, run_small, hwr, h1, h2, hn', h63, h48, Question.forced, hold, newRow, h0]
theorem aZeros_ok {σ : Sg} {elem : TypeId} {e : TypeInfo} {z : Value} {x : AVal} {n : Nat} {l : List AVal} (he : P.info? elem = some e) (hz : e.zero = some z) (h : aZeros P elem e.size x = some (n, l)) :
  ∃ m : Nat, x = .int .i64 (.ofNat m) ∧ m = n ∧ n ≤ 4096 ∧ DenL σ l (Builtin.zeroCells z.cells n).toList ∧ l.length = n * e.size := by
 unfold aZeros at h
 split at h <;> try (cases h; done)
 rename_i m zl hzl
 split at h <;> try (cases h; done)
 rename_i h1 h2
 cases h
 obtain ⟨i, zv, hi, hzv, rfl, hsz⟩ := zeroL_ok hzl
 rw [he] at hi
 cases hi
 rw [hz] at hzv
 cases hzv
 have hd : DenL σ (repL (z.cells.toList.map ofCell) n) (repV z.cells.toList n) := repL_den (denL_ofCell σ _) n
 refine ⟨n, rfl, rfl, Nat.le_of_ble_eq_true h2, ?_, ?_⟩
 ·show DenL σ _ ((Array.range (n * z.cells.size)).map (z.cells[· % z.cells.size]!)).toList
  rw [repV_eq]
  exact hd
 ·rw [repL_length, List.length_map, Array.length_toList, hsz]
theorem aAppend_val {elem : TypeId} {s : AVal} {src : Nat → Option (Nat × List AVal)} {r : ARes} (h : aAppend P elem H nx s src = some r) : ∃ v H' nx', r = .val v H' nx' := by
 unfold aAppend at h
 split at h <;> try (cases h; done)
 split at h <;> try (cases h; done)
 ·split at h <;> first | (cases h; done) | (cases h; exact ⟨_, _, _, rfl⟩)
 ·split at h <;> try (cases h; done)
  ·split at h <;> first | (cases h; done) | (rw [forceN_eq, forceN_eq] at h; cases h; exact ⟨_, _, _, rfl⟩)
  ·split at h <;> try (cases h; done)
   split at h <;> try (cases h; done)
   ·rw [forceN_eq, forceN_eq, forceN_eq] at h; cases h; exact ⟨_, _, _, rfl⟩
   ·split at h <;> first | (cases h; done) | (rw [forceN_eq, forceN_eq, forceN_eq] at h; cases h; exact ⟨_, _, _, rfl⟩)
theorem Ext.more {σ : Sg} {H H' : Heap} {nx cb sz : Nat} {w w' : World} (h : Rel σ H nx w) (hp : ∀ c, c < nx → σ c = none → get5 c H' = get5 c H) (hr : w.heap.size ≤ cb ∨ ∃ b s, σ b = some (cb, s))
  (h1 : w'.os = w.os) (h2 : w'.tape = w.tape) (h3 : w'.output = w.output) (h4 : w.heap.size ≤ w'.heap.size) (h5 : ∀ i, i < w.heap.size → (∀ b s, σ b ≠ some (i, s)) → w'.heap[i]? = w.heap[i]?) :
  Ext σ (upd σ nx (cb, sz)) H H' nx (nx + 1) w w' := by
 have hb : σ nx = none := by
  cases e : σ nx with
  | none => rfl
  | some p => obtain ⟨cb, s⟩ := p; have := (h.dom nx cb s e).1; omega
 refine ⟨upd_sub hb, ?_, ?_, by omega, h1, h2, h3, h4, h5⟩
 ·intro c x s e hlt
  rcases upd_inv e with ⟨rfl, q⟩ | ⟨_, q⟩
  ·cases q
   rcases hr with hr | ⟨b, s', hr⟩
   ·omega
   ·exact ⟨b, s', hr⟩
  ·exact ⟨c, s, q⟩
 ·intro c hc hn
  refine ⟨?_, hp c hc hn⟩
  unfold upd
  rw [if_neg (by omega)]
  exact hn
theorem Rel.realloc {σ : Sg} {nx total : Nat} {ct : CT} {os : List Nat} {l : List AVal} {l' : List Value} {rest : Array Value} {t : TypeId} (h : Rel σ H nx w) (hx : nx < 1048576)
  (hos : ∀ c, c ∈ os → (∃ p, σ c = some p) ∧ ∀ o, get5 c H = some o → o.sup = true) (hl : DenL σ l l') (hlen : l.length = total) (hcap : total ≤ ct.cap) (hg : ∀ i, i < total → ct.get i = l.getD i .und) :
  Rel (upd σ nx (w.heap.size, total + rest.size)) (set5 nx (some (.cells total ct os false)) H) (nx + 1) (w.drew.alloc (.cells (⟨l'⟩ ++ rest) t)) := by
 have hb : σ nx = none := by
  cases e : σ nx with
  | none => rfl
  | some p => obtain ⟨cb, s⟩ := p; have := (h.dom nx cb s e).1; omega
 have newb : (w.drew.alloc (.cells (⟨l'⟩ ++ rest) t)).heap[w.heap.size]? = some (.cells (⟨l'⟩ ++ rest) t) := by
  show (w.heap.push _)[w.heap.size]? = _
  simp
 have newc : ∀ i, (w.drew.alloc (.cells (⟨l'⟩ ++ rest) t)).cell? (at' w.heap.size i) = ((⟨l'⟩ : Array Value) ++ rest)[i]? := by
  intro i
  unfold World.cell?
  rw [newb]
  rfl
 have hll := hl.length
 refine h.share hx (w' := w.drew.alloc (.cells (⟨l'⟩ ++ rest) t)) (cb := w.heap.size) (sz := total + rest.size) (by simp) (by simp) ?_ hos ?_ ⟨Nat.le_add_right _ _, hcap, ?_, ?_⟩ (fun h => absurd h (Nat.lt_irrefl _))
 ·intro i hi _
  show (w.heap.push _)[i]? = _
  rw [Array.getElem?_push, if_neg (by omega)]
 ·intro c o s _ e
  have := (h.dom c _ s e).2
  omega
 ·intro i hi
  refine ⟨?_, ?_⟩
  ·unfold World.frozen?
   rw [newb]
   simp
  ·rw [newc]
   exact ⟨_, Array.getElem?_eq_getElem (by simp; omega)⟩
 ·intro i hi
  have hlt : i < l.length := by omega
  obtain ⟨v', e, d⟩ := hl.get i l[i] (by simp [List.getElem?_eq_getElem hlt])
  refine ⟨v', ?_, ?_⟩
  ·rw [newc, Array.getElem?_append_left (by simp; omega)]
   simpa using e
  ·rw [hg i hi]
   have := d.mono (upd_sub (p := (w.heap.size, total + rest.size)) hb)
   simpa [List.getD, List.getElem?_eq_getElem hlt] using this
theorem Ext.realloc {σ : Sg} {H H' : Heap} {nx sz : Nat} {o : Obj} (h : Rel σ H nx w) (hp : ∀ c, c < nx → σ c = none → get5 c H' = get5 c H) :
  Ext σ (upd σ nx (w.heap.size, sz)) H H' nx (nx + 1) w (w.drew.alloc o) :=
 Ext.more h hp (.inl (Nat.le_refl _)) rfl rfl rfl (by simp) (fun i hi _ => by
  show (w.heap.push _)[i]? = _
  rw [Array.getElem?_push, if_neg (by omega)])
theorem Rel.inplace {σ : Sg} {nx total cb sz k : Nat} {ct : CT} {os : List Nat} {l : List AVal} {l' : List Value} (h : Rel σ H nx w) (hx : nx < 1048576) (hcb : cb < w.heap.size) (hrng : ∃ b' sz', σ b' = some (cb, sz'))
  (hos : ∀ c, c ∈ os → (∃ p, σ c = some p) ∧ ∀ o, get5 c H = some o → o.sup = true)
  (hal : ∀ c o s, get5 c H = some o → σ c = some (cb, s) → c ∈ os ∧ ∃ n cc oo sp, o = .cells n cc oo sp ∧ n ≤ k)
  (hl : DenL σ l l') (hlen : k + l.length = total) (hsz : total ≤ sz) (hcap : total ≤ ct.cap)
  (hfz : ∀ i, i < sz → w.frozen? (at' cb i) = false ∧ ∃ v, w.cell? (at' cb i) = some v)
  (hold : ∀ i, i < k → ∃ v', w.cell? (at' cb i) = some v' ∧ Den σ (ct.get i) v') (hnew : ∀ i, i < l.length → ct.get (k + i) = l.getD i .und) :
  Rel (upd σ nx (cb, sz)) (set5 nx (some (.cells total ct os false)) H) (nx + 1) (setCells w cb k l') := by
 have hb : σ nx = none := by
  cases e : σ nx with
  | none => rfl
  | some p => obtain ⟨cb, s⟩ := p; have := (h.dom nx cb s e).1; omega
 have hll := hl.length
 obtain ⟨r1, r2, r3, r4⟩ := setCells_rest l' w cb k
 have hcell := setCells_cell l' w cb k
 have hex : ∀ j, k ≤ j → j < k + l'.length → ∃ v, w.cell? (at' cb j) = some v := fun j _ hj => (hfz j (by omega)).2
 have sub := upd_sub (p := (cb, sz)) hb
 refine h.share hx (w' := setCells w cb k l') (by rw [r4]; exact hcb) (by rw [r4]; exact Nat.le_refl _) (fun i _ hne => setCells_block l' w cb k i hne) hos ?_ ⟨hsz, hcap, ?_, ?_⟩ (fun _ => hrng)
 ·intro c o s e1 e2
  obtain ⟨hm, n, cc, oo, sp, rfl, hn⟩ := hal c o s e1 e2
  refine ⟨hm, ?_⟩
  obtain ⟨a1, a2, a3, a4⟩ := h.obj c _ cb s e1 e2
  refine ⟨a1, a2, ?_, ?_⟩
  ·intro i hi
   rw [setCells_frozen, hcell i hex]
   refine ⟨(a3 i hi).1, ?_⟩
   by_cases hin : k ≤ i ∧ i < k + l'.length
   ·rw [if_pos hin]; exact ⟨_, List.getElem?_eq_getElem (show i - k < l'.length by omega)⟩
   ·rw [if_neg hin]; exact (a3 i hi).2
  ·intro i hi
   rw [hcell i hex, if_neg (by omega)]
   exact a4 i hi
 ·intro i hi
  rw [setCells_frozen, hcell i hex]
  refine ⟨(hfz i hi).1, ?_⟩
  by_cases hin : k ≤ i ∧ i < k + l'.length
  ·rw [if_pos hin]; exact ⟨_, List.getElem?_eq_getElem (show i - k < l'.length by omega)⟩
  ·rw [if_neg hin]; exact (hfz i hi).2
 ·intro i hi
  rw [hcell i hex]
  by_cases hin : k ≤ i ∧ i < k + l'.length
  ·rw [if_pos hin]
   have hlt : i - k < l.length := by omega
   obtain ⟨v', e, d⟩ := hl.get (i - k) l[i - k] (by simp [List.getElem?_eq_getElem hlt])
   refine ⟨v', e, ?_⟩
   have hg := hnew (i - k) hlt
   rw [show k + (i - k) = i by omega] at hg
   rw [hg]
   have := d.mono sub
   simpa [List.getD, List.getElem?_eq_getElem hlt] using this
  ·rw [if_neg hin]
   obtain ⟨v', e, d⟩ := hold i (by omega)
   exact ⟨v', e, d.mono sub⟩
theorem zero_size {z : Array Value} {n : Nat} : (Builtin.zeroCells z n).size = n * z.size := by simp [Builtin.zeroCells]
set_option maxHeartbeats 2000000 in
theorem aAppend_ok {σ : Sg} {H H' : Heap} {nx nx' : Nat} {sT xT u elem : TypeId} {s v : AVal} {s' x' : Value} {src : Nat → Option (Nat × List AVal)} (hr : Rel σ H nx w) (ds : Den σ s s')
  (hs : ∀ n l e z, P.info? elem = some e → e.zero = some z → z.cells.size = e.size → src e.size = some (n, l) → l.length = n * e.size ∧ allCell l = true ∧ (∃ l', DenL σ l l' ∧ RoomRun P w sT xT e x' n l') ∧ ∃ l', DenL σ l l' ∧ GrowRun P w sT xT elem e z x' n l')
  (h : aAppend P elem H nx s src = some (.val v H' nx')) :
  ∃ σ' w' v', Rel σ' H' nx' w' ∧ Ext σ σ' H H' nx nx' w w' ∧ Den σ' v v' ∧ (Builtin.append_ #[sT, xT] u #[s', x']).run P w = .ok v' w' := by
 unfold aAppend at h
 split at h <;> try (cases h; done)
 rename_i zl e hzl he
 obtain ⟨e0, z, he0, hz, _, hzs⟩ := zeroL_ok hzl
 rw [he] at he0
 cases he0
 split at h <;> try (cases h; done)
 ·
  rename_i l hsrc h0 hn
  obtain ⟨hll, _, ⟨l', hl, hroomr⟩, _⟩ := hs _ _ _ _ he hz hzs hsrc
  have l0 : l' = [] := by
   have := hl.length
   rw [hll, Nat.zero_mul] at this
   cases l' with
   | nil => rfl
   | cons _ _ => simp at this
  subst l0
  split at h <;> try (cases h; done)
  ·cases h
   cases ds
   have hrun := hroomr (by simp) u none 0 0 (by omega)
   exact ⟨σ, w, _, hr, Ext.refl _ _ _ _, .nilSlice, hrun⟩
  ·rename_i b off len esz full
   cases h
   refine ⟨σ, w, s', hr, Ext.refl _ _ _ _, ds, ?_⟩
   cases ds with
   | @slice _ _ _ _ cb sz cap _ hb h1 h2 h3 => exact hroomr (by simp) u (some _) len cap (by omega)
   | slice0 hb => exact hroomr (by simp) u (some _) 0 0 (by omega)
 ·rename_i n' new hsrc h0 hn
  have hn' := Nat.le_of_ble_eq_true hn
  have hnx : nx < 1048576 := by omega
  obtain ⟨hll, hcell, ⟨l', hl, hroomr⟩, l2, hl2, hgrow⟩ := hs _ _ _ _ he hz hzs hsrc
  have hone := allCell_ok hcell hl
  have hnone : ∀ c, c < nx → σ c = none → ∀ o, get5 c (set5 nx o H) = get5 c H := fun c hc _ o => get5_ne (by omega) hnx (by omega)
  split at h <;> try (cases h; done)
  ·
   split at h <;> try (cases h; done)
   rename_i h1 h2
   have h1' : (n' + 1) * e.size ≤ 4096 := Nat.le_of_ble_eq_true h1
   have h2' : (n' + 1) * e.bytes ≤ 140737488355328 := Nat.le_of_ble_eq_true h2
   have hsz0 : e.size ≠ 0 := fun q => by rw [q] at h0; cases h0
   have hn4 : n' + 1 ≤ 4096 := Nat.le_trans (Nat.le_mul_of_pos_right _ (by omega)) h1'
   rw [forceN_eq, forceN_eq] at h
   cases h
   cases ds
   obtain ⟨c, hc, hrun⟩ := hgrow u none 0 0 [] (by simp [Builtin.firstCells]) (by omega) (by simpa using h2') (by omega)
   simp only [Nat.zero_add] at hc hrun
   have hll' : new.length = (n' + 1) * e.size := hll
   have R := hr.realloc (os := []) (rest := Builtin.zeroCells z.cells (c - (n' + 1))) (t := elem) hnx (fun c hc => by cases hc) hl2 hll' (CT.ofL_cap _ _ h1') (fun i hi => CT.get_ofL _ _ i h1' hi)
   refine ⟨_, _, .slice (some (at' w.heap.size 0)) (n' + 1) c, R, Ext.realloc hr (fun c hc hcn => hnone c hc hcn _), ?_, ?_⟩
   ·refine Den.slice (cap := c) (sz := (n' + 1) * e.size + (Builtin.zeroCells z.cells (c - (n' + 1))).size) (by simp [upd]) (by omega) ?_ (fun q => by cases q)
    rw [zero_size, hzs, ← Nat.add_mul, Nat.zero_add]
    exact Nat.mul_le_mul_right _ (by omega)
   ·rw [hrun]
    simp
  ·rename_i b off len esz full
   split at h <;> try (cases h; done)
   rename_i cnt ct olds sup hblk hesz h1 h2
   have hesz' := Nat.eq_of_beq_eq_true hesz
   subst hesz'
   have h1' : (len + (n' + 1)) * e.size ≤ 4096 := Nat.le_of_ble_eq_true h1
   have h2' : (len + (n' + 1)) * e.bytes ≤ 140737488355328 := Nat.le_of_ble_eq_true h2
   have hsz0 : e.size ≠ 0 := fun q => by rw [q] at h0; cases h0
   have hn4 : len + (n' + 1) ≤ 4096 := Nat.le_trans (Nat.le_mul_of_pos_right _ (by omega)) h1'
   have hll' : new.length = (n' + 1) * e.size := hll
   split at h <;> try (cases h; done)
   ·
    rename_i hk
    have hk' : off + len * e.size ≤ cnt := Nat.le_of_ble_eq_true hk
    rw [forceN_eq, forceN_eq, forceN_eq] at h
    cases h
    have key : ∀ cb sz o', σ b = some (cb, sz) → DenL σ (CT.slab ct (len * e.size) off) o' →
      (Builtin.firstCells e.size len (s')).run P w.drew = .ok ⟨o'⟩ w.drew → s' = .slice (some (at' cb off)) len len ∨ (len = 0 ∧ ∃ off', s' = .slice (some (at' cb off')) 0 0) →
      ∃ σ' w' v', Rel σ' (set5 nx (some (.cells (Nat.mul (Nat.add len (Nat.succ n')) e.size) (CT.ofL (Nat.mul (Nat.add len (Nat.succ n')) e.size) (CT.slab ct (Nat.mul len e.size) off ++ new)) [] false)) H) (nx + 1) w' ∧
       Ext σ σ' H (set5 nx (some (.cells (Nat.mul (Nat.add len (Nat.succ n')) e.size) (CT.ofL (Nat.mul (Nat.add len (Nat.succ n')) e.size) (CT.slab ct (Nat.mul len e.size) off ++ new)) [] false)) H) nx (nx + 1) w w' ∧
       Den σ' (.slice nx 0 (Nat.add len (Nat.succ n')) e.size false) v' ∧ (Builtin.append_ #[sT, xT] u #[s', x']).run P w = .ok v' w' := by
     intro cb sz o' hb ho hfo hs
     have hall : DenL σ (CT.slab ct (len * e.size) off ++ new) (o' ++ l2) := ho.append hl2
     have hlen2 : (CT.slab ct (len * e.size) off ++ new).length = (len + (n' + 1)) * e.size := by rw [List.length_append, CT.slab_length, hll', Nat.add_mul len (n' + 1) e.size]
     have fin : ∀ base cap, s' = .slice base len cap → cap = len → ∃ c, len + (n' + 1) ≤ c ∧ (Builtin.append_ #[sT, xT] u #[s', x']).run P w =
       .ok (.slice (some (at' w.heap.size 0)) (len + (n' + 1)) c) (w.drew.alloc (.cells (⟨o'⟩ ++ ⟨l2⟩ ++ Builtin.zeroCells z.cells (c - (len + (n' + 1)))) elem)) := by
      intro base cap hs hc
      rw [hs] at hfo ⊢
      exact hgrow u base len cap _ hfo (by omega) h2' hn4
     obtain ⟨c, hc, hrun⟩ : ∃ c, len + (n' + 1) ≤ c ∧ (Builtin.append_ #[sT, xT] u #[s', x']).run P w =
       .ok (.slice (some (at' w.heap.size 0)) (len + (n' + 1)) c) (w.drew.alloc (.cells (⟨o'⟩ ++ ⟨l2⟩ ++ Builtin.zeroCells z.cells (c - (len + (n' + 1)))) elem)) := by
      rcases hs with hs | ⟨h0, off', hs⟩
      ·exact fin _ _ hs rfl
      ·subst h0; exact fin _ _ hs rfl
     have R := hr.realloc (os := []) (rest := Builtin.zeroCells z.cells (c - (len + (n' + 1)))) (t := elem) hnx (fun c hc => by cases hc) hall hlen2 (CT.ofL_cap _ _ h1') (fun i hi => CT.get_ofL _ _ i h1' hi)
     refine ⟨_, _, .slice (some (at' w.heap.size 0)) (len + (n' + 1)) c, R, Ext.realloc hr (fun c hc hcn => hnone c hc hcn _), ?_, ?_⟩
     ·refine Den.slice (cap := c) (sz := (len + (n' + 1)) * e.size + (Builtin.zeroCells z.cells (c - (len + (n' + 1)))).size) (by simp [upd]) hc ?_ (fun q => by cases q)
      rw [zero_size, hzs, ← Nat.add_mul, Nat.zero_add]
      exact Nat.mul_le_mul_right _ (by omega)
     ·rw [hrun]
      simp
    cases ds with
    | @slice _ _ _ _ cb sz cap _ hb g1 g2 g3 =>
     have hcl := g3 rfl
     obtain ⟨o', _, ho, _, hfo⟩ := load_slab hr.drew hblk hb P off (len * e.size) hk'
     exact key cb sz o' hb ho hfo (.inl (by rw [hcl]))
    | @slice0 _ _ off' _ cb sz _ hb =>
     obtain ⟨o', hol, ho, _, _⟩ := load_slab hr.drew hblk hb P off (0 * e.size) hk'
     have o0 : o' = [] := by
      cases o' with
      | nil => rfl
      | cons _ _ => simp at hol
     subst o0
     exact key cb sz [] hb ho (by simp [Builtin.firstCells, loadCells, loadCellsFrom]) (.inr ⟨rfl, off', rfl⟩)
   ·
    rename_i hk
    split at h <;> try (cases h; done)
    have hk' : 0 + len * e.size ≤ cnt := Nat.le_of_ble_eq_true hk
    rw [forceN_eq, forceN_eq, forceN_eq] at h
    have hk2 : len * e.size ≤ cnt := by omega
    cases hbb : σ b with
    | none =>
     exfalso
     cases ds with
     | slice hb _ _ _ => rw [hbb] at hb; cases hb
     | slice0 hb => rw [hbb] at hb; cases hb
    | some p =>
    obtain ⟨cb, sz⟩ := p
    obtain ⟨D1, D2, D3⟩ := hr.demote hbb hblk
    have bn : b < 1048576 := by have := (hr.dom b cb sz hbb).1; have := hr.lim; omega
    have blt : b < nx := (hr.dom b cb sz hbb).1
    have cbl := (hr.dom b cb sz hbb).2
    obtain ⟨o1, o2, o3, o4⟩ := hr.obj b _ cb sz hblk hbb
    have htot : len * e.size + new.length = (len + (n' + 1)) * e.size := by rw [hll', Nat.add_mul len (n' + 1) e.size]
    have hwc := CT.widen_cap ((len + (n' + 1)) * e.size) ct h1'
    have hget1 : ∀ i, i < len * e.size → CT.get i (CT.lay new (len * e.size) (CT.widen ((len + (n' + 1)) * e.size) ct)) = CT.get i ct := by
     intro i hi
     rw [CT.lay_get _ _ _ i (by omega) (by omega), if_neg (by omega), CT.widen_get _ _ i (by omega)]
    have hget2 : ∀ i, i < new.length → CT.get (len * e.size + i) (CT.lay new (len * e.size) (CT.widen ((len + (n' + 1)) * e.size) ct)) = new.getD i .und := by
     intro i hi
     rw [CT.lay_get _ _ _ _ (by omega) (by omega), if_pos (by omega)]
     congr 1
     omega
    have hcap' : (len + (n' + 1)) * e.size ≤ (CT.lay new (len * e.size) (CT.widen ((len + (n' + 1)) * e.size) ct)).cap := by rw [CT.lay_cap]; exact hwc
    have both : ∃ (H2 : Heap) (os : List Nat), H' = set5 nx (some (.cells ((len + (n' + 1)) * e.size) (CT.lay new (len * e.size) (CT.widen ((len + (n' + 1)) * e.size) ct)) os false)) H2 ∧ nx' = nx + 1 ∧ v = .slice nx 0 (len + (n' + 1)) e.size false ∧
      Rel σ H2 nx w ∧ (∀ c, c < nx → σ c = none → get5 c H2 = get5 c H) ∧ (∀ c, c ∈ os → (∃ p, σ c = some p) ∧ ∀ o, get5 c H2 = some o → o.sup = true) ∧
      (∀ c o s, get5 c H2 = some o → σ c = some (cb, s) → c ∈ os ∧ ∃ n cc oo sp, o = .cells n cc oo sp ∧ n ≤ len * e.size) := by
     unfold grown at h
     cases hq : Nat.beq (Nat.mul len e.size) cnt with
     | true =>
      rw [hq] at h
      cases h
      have hq' : len * e.size = cnt := Nat.eq_of_beq_eq_true hq
      refine ⟨_, [b], rfl, rfl, rfl, D1, D2, ?_, ?_⟩
      ·intro c hc
       simp at hc
       subst hc
       refine ⟨⟨_, hbb⟩, fun o ho => ?_⟩
       rw [get5_set5_same] at ho
       cases ho
       rfl
      ·intro c o s e1 e2
       have := D3 c o s e1 e2
       subst this
       rw [get5_set5_same] at e1
       cases e1
       exact ⟨by simp, _, _, _, _, rfl, by omega⟩
     | false =>
      rw [hq] at h
      cases h
      refine ⟨_, [], rfl, rfl, rfl, D1.forget bn, ?_, (fun c hc => by cases hc), ?_⟩
      ·intro c hc hcn
       rw [get5_ne (fun q => by subst q; rw [hbb] at hcn; cases hcn) bn (by omega)]
       exact D2 c hc hcn
      ·intro c o s e1 e2
       by_cases hcb : b = c
       ·subst hcb; rw [get5_set5_same] at e1; cases e1
       ·have hcn : c < 1048576 := by have := (hr.dom c cb s e2).1; omega
        rw [get5_ne hcb bn hcn] at e1
        exact absurd (D3 c o s e1 e2).symm hcb
    obtain ⟨H2, os, rfl, rfl, rfl, R2, hp2, hos, hal⟩ := both
    have hpend : ∀ c, c < nx → σ c = none → get5 c (set5 nx (some (.cells ((len + (n' + 1)) * e.size) (CT.lay new (len * e.size) (CT.widen ((len + (n' + 1)) * e.size) ct)) os false)) H2) = get5 c H := by
     intro c hc hcn
     rw [get5_ne (by omega) hnx (by omega)]
     exact hp2 c hc hcn
    have grow : ∀ base cap, s' = .slice base len cap → cap < len + (n' + 1) → ∀ o', DenL σ (CT.slab ct (len * e.size) 0) o' → (Builtin.firstCells e.size len s').run P w.drew = .ok ⟨o'⟩ w.drew →
      ∃ σ' w' v', Rel σ' (set5 nx (some (.cells ((len + (n' + 1)) * e.size) (CT.lay new (len * e.size) (CT.widen ((len + (n' + 1)) * e.size) ct)) os false)) H2) (nx + 1) w' ∧
       Ext σ σ' H (set5 nx (some (.cells ((len + (n' + 1)) * e.size) (CT.lay new (len * e.size) (CT.widen ((len + (n' + 1)) * e.size) ct)) os false)) H2) nx (nx + 1) w w' ∧
       Den σ' (.slice nx 0 (len + (n' + 1)) e.size false) v' ∧ (Builtin.append_ #[sT, xT] u #[s', x']).run P w = .ok v' w' := by
     intro base cap hs hcap o' ho hfo
     subst hs
     obtain ⟨c, hc, hrun⟩ := hgrow u base len cap _ hfo hcap h2' hn4
     have hall : DenL σ (CT.slab ct (len * e.size) 0 ++ new) (o' ++ l2) := ho.append hl2
     have hlen2 : (CT.slab ct (len * e.size) 0 ++ new).length = (len + (n' + 1)) * e.size := by rw [List.length_append, CT.slab_length, hll', Nat.add_mul len (n' + 1) e.size]
     have R := R2.realloc (rest := Builtin.zeroCells z.cells (c - (len + (n' + 1)))) (t := elem) hnx hos hall hlen2 hcap' (by
      intro i hi
      by_cases hik : i < len * e.size
      ·rw [hget1 i hik]
       have := CT.slab_get ct (len * e.size) 0 i hik
       simp [List.getD, List.getElem?_append_left (show i < (CT.slab ct (len * e.size) 0).length by rw [CT.slab_length]; exact hik), this]
      ·have hi2 : i - len * e.size < new.length := by omega
       have := hget2 (i - len * e.size) hi2
       rw [show len * e.size + (i - len * e.size) = i by omega] at this
       rw [this]
       simp only [List.getD]
       rw [List.getElem?_append_right (by rw [CT.slab_length]; omega), CT.slab_length])
     refine ⟨_, _, .slice (some (at' w.heap.size 0)) (len + (n' + 1)) c, R, Ext.realloc hr hpend, ?_, ?_⟩
     ·refine Den.slice (cap := c) (sz := (len + (n' + 1)) * e.size + (Builtin.zeroCells z.cells (c - (len + (n' + 1)))).size) (by simp [upd]) hc ?_ (fun q => by cases q)
      rw [zero_size, hzs, ← Nat.add_mul, Nat.zero_add]
      exact Nat.mul_le_mul_right _ (by omega)
     ·rw [hrun]
      simp
    cases ds with
    | @slice _ _ _ _ cb' sz' cap _ hb g1 g2 g3 =>
     rw [hbb] at hb
     cases hb
     by_cases hroom : len + (n' + 1) ≤ cap
     ·have hle : (len + (n' + 1)) * e.size ≤ sz := Nat.le_trans (Nat.mul_le_mul_right _ hroom) (by omega)
      have hst := run_storeCells (P := P) l' w cb (len * e.size) 0 hone (fun k hk1 hk2 => o3 k (by have := hl.length; omega))
      have hrun := hroomr (Nat.le_trans (Nat.mul_le_mul_right _ (Nat.le_add_left _ _)) h2') u (some (at' cb 0)) len cap hroom
      have hadd : Addr.add (at' cb 0) (len * e.size) = at' cb (len * e.size) := by rw [addr_add, Nat.zero_add]
      simp only [hadd, hst, Result.andThen_ok, Nat.add_zero] at hrun
      have R := R2.inplace (sz := sz) (k := len * e.size) hnx cbl ⟨_, _, hbb⟩ hos hal hl htot hle hcap' o3 (fun i hi => by rw [hget1 i hi]; exact o4 i (by omega)) hget2
      obtain ⟨r1, r2, r3, r4⟩ := setCells_rest l' w cb (len * e.size)
      refine ⟨_, _, .slice (some (at' cb 0)) (len + (n' + 1)) cap, R, Ext.more hr hpend (.inr ⟨b, sz, hbb⟩) r1 r2 r3 (by rw [r4]; exact Nat.le_refl _) (fun i hi hno => setCells_block l' w cb _ i (fun q => by subst q; exact hno b sz hbb)), ?_, hrun⟩
      exact Den.slice (cap := cap) (sz := sz) (by simp [upd]) hroom (by omega) (fun q => by cases q)
     ·obtain ⟨o', _, ho, _, hfo⟩ := load_slab hr.drew hblk hbb P 0 (len * e.size) hk'
      exact grow _ cap rfl (by omega) o' ho hfo
    | @slice0 _ _ off' _ cb' sz' _ hb =>
     rw [hbb] at hb
     cases hb
     obtain ⟨o', hol, ho, _, _⟩ := load_slab hr.drew hblk hbb P 0 (0 * e.size) hk'
     have o0 : o' = [] := by
      cases o' with
      | nil => rfl
      | cons _ _ => simp at hol
     subst o0
     exact grow _ 0 rfl (by omega) [] ho (by simp [Builtin.firstCells, loadCells, loadCellsFrom])
end
end Go.Ev
end
section
namespace Go.Ev
variable [GTab] {P : Program} {H : Heap} {nx : Nat} {w : World} {o : Oper}
noncomputable section
theorem Rel.allocMap {σ : Sg} (h : Rel σ H nx w) (hx : nx < 1048576) :
  Rel (upd σ nx (w.heap.size, 0)) (set5 nx (some (.map [] 0)) H) (nx + 1) (w.alloc (.map #[] 0)) ∧
  Ext σ (upd σ nx (w.heap.size, 0)) H (set5 nx (some (.map [] 0)) H) nx (nx + 1) w (w.alloc (.map #[] 0)) := by
 have hb : σ nx = none := by
  cases e : σ nx with
  | none => rfl
  | some p => obtain ⟨cb, s⟩ := p; have := (h.dom nx cb s e).1; omega
 have h1 : Rel σ (set5 nx (some (.map [] 0)) H) (nx + 1) w := h.pend hb (by omega) (by omega) hx
 obtain ⟨e1, e2, e3, e4⟩ := Ext.alloc_at (sz := 0) (.map #[] 0) h hb
 have ho : get5 nx (set5 nx (some (.map [] 0)) H) = some (.map [] 0) := get5_set5_same _ _ _
 have newb : (w.alloc (.map #[] 0)).heap[w.heap.size]? = some (.map #[] 0) := by
  show (w.heap.push _)[w.heap.size]? = _
  simp
 have hglob : Glob (upd σ nx (w.heap.size, 0)) (w.alloc (.map #[] 0)) := h.glob.of (by simp) (fun i hi _ => e4 i hi) e3
 refine ⟨⟨h1.lim, ?_, ?_, ?_, ?_, ?_, hglob⟩, ⟨e2, e3, ?_, by omega, rfl, rfl, rfl, by simp, fun i hi _ => e4 i hi⟩⟩
 ·intro x cb s e
  rcases upd_inv e with ⟨rfl, q⟩ | ⟨_, q⟩
  ·cases q; exact ⟨by omega, by simp⟩
  ·have := h1.dom x cb s q
   exact ⟨this.1, by simp; omega⟩
 ·intro x o cb s q1 q2
  rcases upd_inv q2 with ⟨rfl, e⟩ | ⟨_, e⟩
  ·cases e
   rw [ho] at q1
   cases q1
   exact ⟨#[], newb, .nil⟩
  ·have hlt' := (h1.dom x cb s e).2
   exact (ORel.mono e2 (h1.obj x o cb s q1 e)).of_block (e4 cb hlt')
 ·intro x x' o o' cb s s' q1 q2 q3 q4
  rcases upd_inv q3 with ⟨rfl, e⟩ | ⟨_, e⟩
  ·cases e
   rcases upd_inv q4 with ⟨rfl, _⟩ | ⟨_, e'⟩
   ·exact .inl rfl
   ·have := (h1.dom x' _ s' e').2; omega
  ·rcases upd_inv q4 with ⟨rfl, e'⟩ | ⟨_, e'⟩
   ·cases e'; have := (h1.dom x _ s e).2; omega
   ·exact h1.sep x x' o o' cb s s' q1 q2 e e'
 ·intro x x' o o' p q1 q2 q3 q4
  rcases upd_inv q3 with ⟨rfl, e⟩ | ⟨_, e⟩
  ·rw [ho] at q2; cases q2; simp [AObj.olds] at q4
  ·exact h1.sup x x' o o' p q1 q2 e q4
 ·intro x o p q1 q2 x' q3
  rcases upd_inv q2 with ⟨rfl, e⟩ | ⟨_, e⟩
  ·rw [ho] at q1; cases q1; simp [AObj.olds] at q3
  ·obtain ⟨p', hp'⟩ := h1.old x o p q1 e x' q3
   exact ⟨p', e2 _ _ hp'⟩
 ·intro c hc hn
  exact ⟨e1 c (by omega) hc hn, get5_ne (by omega) hx (by omega)⟩
theorem Rel.storeMap {σ : Sg} {nx b cb sz : Nat} {w w' : World} {es es2 : List AEnt} {clock clock2 : Nat} {es2' : Array MapEntry} (h : Rel σ H nx w) (hb : σ b = some (cb, sz)) (ho : get5 b H = some (.map es clock))
  (hw : w'.heap[cb]? = some (.map es2' clock2)) (hd : DenE σ es2 es2'.toList) (hrest : ∀ k, k ≠ cb → w'.heap[k]? = w.heap[k]?) (hos : w'.os = w.os) (ht : w'.tape = w.tape) (hout : w'.output = w.output) (hsz : w'.heap.size = w.heap.size) :
  Rel σ (set5 b (some (.map es2 clock2)) H) nx w' ∧ Ext σ σ H (set5 b (some (.map es2 clock2)) H) nx nx w w' := by
 have hlim := h.lim
 have lt : ∀ {c p}, σ c = some p → c < 1048576 := fun {c p} hc => by obtain ⟨x, z⟩ := p; have := (h.dom c x z hc).1; omega
 have bn := lt hb
 have key : ∀ c o, c ≠ b → c < 1048576 → get5 c (set5 b (some (.map es2 clock2)) H) = some o → get5 c H = some o := by
  intro c o hcb hc e
  rwa [get5_ne (fun e => hcb e.symm) bn hc] at e
 have keyb : get5 b (set5 b (some (.map es2 clock2)) H) = some (.map es2 clock2) := get5_set5_same _ _ _
 have alone : ∀ c o s, c ≠ b → get5 c H = some o → σ c = some (cb, s) → False := by
  intro c o s hcb hc hs
  rcases h.sep c b o _ cb s sz hc ho hs hb with e | e | e
  ·exact hcb e
  ·simp [AObj.olds] at e
  ·have := h.sup b c _ o _ ho hc hs e
   simp [AObj.sup] at this
 have hglob : Glob σ w' := h.glob.of (Nat.le_of_eq hsz.symm) (fun i hi hno => hrest i (fun e => by subst e; exact hno b sz hb)) fun x cb s e _ => ⟨x, s, e⟩
 refine ⟨⟨hlim, ?_, ?_, ?_, ?_, ?_, hglob⟩, ⟨fun _ _ e => e, fun c _ s e _ => ⟨c, s, e⟩, ?_, Nat.le_refl _, hos, ht, hout, Nat.le_of_eq hsz.symm, ?_⟩⟩
 ·intro c x s e; have := h.dom c x s e; rw [hsz]; exact this
 ·intro c o x s e1 e2
  by_cases hcb : c = b
  ·subst hcb
   rw [hb] at e2
   cases e2
   rw [keyb] at e1
   cases e1
   exact ⟨es2', hw, hd⟩
  ·have e1' := key c o hcb (lt e2) e1
   refine (h.obj c o x s e1' e2).of_block (hrest x ?_)
   intro e
   subst e
   exact alone c o s hcb e1' e2
 ·intro c c' o o' x s s' e1 e2 e3 e4
  by_cases h1 : c = b
  ·subst h1
   by_cases h2 : c' = c
   ·exact .inl h2.symm
   ·have e2' := key c' o' h2 (lt e4) e2
    rw [hb] at e3
    cases e3
    exact (alone c' o' s' h2 e2' e4).elim
  ·have e1' := key c o h1 (lt e3) e1
   by_cases h2 : c' = b
   ·subst h2
    rw [hb] at e4
    cases e4
    exact (alone c o s h1 e1' e3).elim
   ·exact h.sep c c' o o' x s s' e1' (key c' o' h2 (lt e4) e2) e3 e4
 ·intro c c' o o' p e1 e2 e3 e4
  by_cases h2 : c' = b
  ·subst h2
   rw [keyb] at e2; cases e2; simp [AObj.olds] at e4
  ·have e2' := key c' o' h2 (lt e3) e2
   obtain ⟨p', hp'⟩ := h.old c' o' p e2' e3 c e4
   by_cases h1 : c = b
   ·subst h1
    have := h.sup c c' _ o' p ho e2' e3 e4
    simp [AObj.sup] at this
   ·exact h.sup c c' o o' p (key c o h1 (lt hp') e1) e2' e3 e4
 ·intro c o p e1 e2 c' e3
  by_cases h1 : c = b
  ·subst h1
   rw [keyb] at e1; cases e1; simp [AObj.olds] at e3
  ·exact h.old c o p (key c o h1 (lt e2) e1) e2 c' e3
 ·intro c hc hn
  refine ⟨hn, ?_⟩
  have hcb : b ≠ c := fun e => by subst e; rw [hb] at hn; cases hn
  exact get5_ne hcb bn (by omega)
 ·intro i hi hno
  exact hrest i (fun e => by subst e; exact hno b sz hb)
def ikC (k : IntKind) : Nat := IntKind.rec 0 1 2 3 4 5 6 7 k
theorem ikC_inj {k j : IntKind} (h : Nat.beq (ikC k) (ikC j) = true) : k = j := by
 cases k <;> cases j <;> first | rfl | exact Bool.noConfusion h
def findA (k : IntKind) (n : Int) : List AEnt → Nat → Option (Option (Nat × AVal))
 | [], _ => some none
 | e :: es, i => match e.key with
  | .int j m => match Nat.beq (ikC k) (ikC j), ieq n m with
   | true, true => some (some (i, e.val))
   | true, false => findA k n es (Nat.succ i)
   | _, _ => none
  | _ => none
def FoundRel (σ : Sg) : Option (Nat × AVal) → Option (Nat × Value) → Prop
 | none, none => True
 | some (i, v), some (j, v') => i = j ∧ Den σ v v'
 | _, _ => False
theorem findA_ok {σ : Sg} {k kk : IntKind} {n : Int} : ∀ {es : List AEnt} {es' : List MapEntry} {i : Nat} {r : Option (Nat × AVal)}, findA k n es i = some r → DenE σ es es' →
  ∃ r', Instr.findNow (.int kk) (.int k n) es' i = some r' ∧ FoundRel σ r r' ∧ (∀ j v, r' = some (j, v) → i ≤ j ∧ ((es'[j - i]?).map (·.key)) = some (.int k n))
 | [], _, i, r, h, .nil => by cases h; exact ⟨none, rfl, trivial, fun _ _ e => by cases e⟩
 | e :: es, e' :: es', i, r, h, .cons hk hv hb t => by
  unfold findA at h
  split at h <;> try (cases h; done)
  rename_i j m hj
  rw [hj] at hk
  have hk' : e'.key = .int j m := by cases hq : e'.key <;> rw [hq] at hk <;> cases hk <;> rfl
  split at h <;> try (cases h; done)
  ·rename_i h1 h2
   have e1 := ikC_inj h1
   subst e1
   rw [ieq_eq] at h2
   cases h
   refine ⟨some (i, e'.val), ?_, ⟨rfl, hv⟩, fun q v eq => ?_⟩
   ·simp only [Instr.findNow, Instr.sameNow, hk', if_true, h2]
   ·cases eq
    refine ⟨Nat.le_refl _, ?_⟩
    have : n = m := by simpa using h2
    simp [hk', this]
  ·rename_i h1 h2
   have e1 := ikC_inj h1
   subst e1
   rw [ieq_eq] at h2
   obtain ⟨r', f1, f2, f3⟩ := findA_ok (kk := kk) h t
   refine ⟨r', ?_, f2, fun q v eq => ?_⟩
   ·simp only [Instr.findNow, Instr.sameNow, hk', if_true, h2]
    exact f1
   ·obtain ⟨g1, g2⟩ := f3 q v eq
    refine ⟨by omega, ?_⟩
    have : q - i = (q - (i + 1)) + 1 := by omega
    rw [this, List.getElem?_cons_succ]
    exact g2
def entsOf (H : Heap) (m : AVal) : Option (List AEnt) := match m with
 | .nilMap => some []
 | .map b => match get5 b H with
  | some (.map es _) => some es
  | _ => none
 | _ => none
def opLookup (P : Program) (t : TypeId) (x ix : Operand) (ok : Bool) (ρ : Operand → AVal) (H : Heap) (nx : Nat) : Option ARes :=
 match P.underlying t, ρ ix with
 | some (.map kt et), .int k n => match P.underlying kt, entsOf H (ρ x) with
  | some (.int kk), some es => match Nat.beq (ikC k) (ikC kk), findA k n es 0 with
   | true, some (some (_, v)) => match ok with
    | true => some (.val (.tuple [v, .bool true]) H nx)
    | false => some (.val v H nx)
   | true, some none => match P.info? et with
    | some i => match i.zero with
     | some z => match ok with
      | true => some (.val (.tuple [ofVal z, .bool false]) H nx)
      | false => some (.val (ofVal z) H nx)
     | none => none
    | none => none
   | _, _ => none
  | _, _ => none
 | _, _ => none
theorem opLookup_ok {t : TypeId} {x ix : Operand} {ok : Bool} {ρ : Operand → AVal} {r : ARes} (ho : o.op = .lookup t x ix ok)
  (h : opLookup P t x ix ok ρ H nx = some r) : OpOK P o ρ H nx r := by
 unfold opLookup at h
 split at h <;> try (cases h; done)
 rename_i kt et k n hu hix
 split at h <;> try (cases h; done)
 rename_i kk es hkt hes
 have main : ∀ (σ : Sg) (w : World) (ρ' : Operand → Value), Rel σ H nx w → (∀ x, Den σ (ρ x) (ρ' x)) → k = kk → ∀ {r0}, findA k n es 0 = some r0 →
   ∃ r', FoundRel σ r0 r' ∧ ∀ {v' : Value} {b : Bool}, (match r' with | some (_, v) => v' = v ∧ b = true | none => (zeroValue et).run P w = .ok v' w ∧ b = false) → (execOp ρ' o).run P w = .ok (.value (if ok then .tuple #[v', .bool b] else v')) w := by
  intro σ w ρ' hr hd hkk r0 hf
  subst hkk
  have dix := hd ix; rw [hix] at dix
  have eix : ρ' ix = .int k n := by cases hq : ρ' ix <;> rw [hq] at dix <;> cases dix <;> rfl
  have dx := hd x
  have ents : ∃ es' : Array MapEntry, DenE σ es es'.toList ∧ ((ρ' x = .map none ∧ es' = #[]) ∨ ∃ rb clock, ρ' x = .map (some rb) ∧ w.heap[rb]? = some (.map es' clock)) := by
   unfold entsOf at hes
   split at hes <;> try (cases hes; done)
   ·rename_i hxn
    cases hes
    rw [hxn] at dx
    refine ⟨#[], .nil, .inl ⟨?_, rfl⟩⟩
    cases hq : ρ' x <;> rw [hq] at dx <;> cases dx <;> rfl
   ·rename_i b hxb
    split at hes <;> try (cases hes; done)
    rename_i clock hob
    cases hes
    rw [hxb] at dx
    cases hq : ρ' x <;> rw [hq] at dx <;> cases dx
    rename_i cb sz hb
    obtain ⟨es', h1, h2⟩ := hr.obj b _ cb sz hob hb
    exact ⟨es', h2, .inr ⟨cb, clock, rfl, h1⟩⟩
  obtain ⟨es', hden, hcase⟩ := ents
  obtain ⟨r', f1, f2, _⟩ := findA_ok (kk := k) hf hden
  refine ⟨r', f2, fun {v' b} hv => ?_⟩
  have hck : (Instr.checkKey es'.isEmpty 10000 kt (.int k n)).run P w = .ok () w := MapKept.run_checkKey hkt (by simp [MapKept.IsKey]) _ 9999
  have hfk : (Instr.findKey kt (.int k n) es'.toList).run P w = .ok r' w := MapKept.run_findKey hkt f1
  rcases hcase with ⟨hx0, he0⟩ | ⟨rb, clock, hx0, hb0⟩
  ·subst he0
   cases r' with
   | none =>
    obtain ⟨hz, rfl⟩ := hv
    simp only [execOp, ho, hx0, eix, Instr.lookup, Sem.run_bind, run_underlying' hu, Result.andThen_ok, Sem.run_pure, hck, hfk, hz]
   | some p =>
    obtain ⟨j, v⟩ := p
    obtain ⟨rfl, rfl⟩ := hv
    simp only [execOp, ho, hx0, eix, Instr.lookup, Sem.run_bind, run_underlying' hu, Result.andThen_ok, Sem.run_pure, hck, hfk]
  ·cases r' with
   | none =>
    obtain ⟨hz, rfl⟩ := hv
    simp only [execOp, ho, hx0, eix, Instr.lookup, Sem.run_bind, run_underlying' hu, Result.andThen_ok, Sem.run_pure, MapKept.run_getObj_map hb0, hck, hfk, hz]
   | some p =>
    obtain ⟨j, v⟩ := p
    obtain ⟨rfl, rfl⟩ := hv
    simp only [execOp, ho, hx0, eix, Instr.lookup, Sem.run_bind, run_underlying' hu, Result.andThen_ok, Sem.run_pure, MapKept.run_getObj_map hb0, hck, hfk]
 split at h <;> try (cases h; done)
 ·rename_i j v hk hf
  have hkk := ikC_inj hk
  split at h
  ·cases h
   refine OpOK.pure fun σ w ρ' hr hd => ?_
   obtain ⟨r', f2, run⟩ := main σ w ρ' hr hd hkk hf
   cases r' with
   | none => exact f2.elim
   | some p =>
    obtain ⟨j', v'⟩ := p
    exact ⟨_, .tuple (.cons f2.2 (.cons (.bool true) .nil)), run (v' := v') (b := true) ⟨rfl, rfl⟩⟩
  ·cases h
   refine OpOK.pure fun σ w ρ' hr hd => ?_
   obtain ⟨r', f2, run⟩ := main σ w ρ' hr hd hkk hf
   cases r' with
   | none => exact f2.elim
   | some p =>
    obtain ⟨j', v'⟩ := p
    exact ⟨_, f2.2, run (v' := v') (b := true) ⟨rfl, rfl⟩⟩
 ·rename_i hk hf
  have hkk := ikC_inj hk
  split at h <;> try (cases h; done)
  rename_i i hi
  split at h <;> try (cases h; done)
  rename_i z hz
  split at h
  ·cases h
   refine OpOK.pure fun σ w ρ' hr hd => ?_
   obtain ⟨r', f2, run⟩ := main σ w ρ' hr hd hkk hf
   cases r' with
   | some p => exact f2.elim
   | none => exact ⟨_, .tuple (.cons (den_ofVal σ z) (.cons (.bool false) .nil)), run (v' := z) (b := false) ⟨run_zeroValue' hi hz, rfl⟩⟩
  ·cases h
   refine OpOK.pure fun σ w ρ' hr hd => ?_
   obtain ⟨r', f2, run⟩ := main σ w ρ' hr hd hkk hf
   cases r' with
   | some p => exact f2.elim
   | none => exact ⟨_, den_ofVal σ z, run (v' := z) (b := false) ⟨run_zeroValue' hi hz, rfl⟩⟩
def opMakeMap (r : Option Operand) (_ρ : Operand → AVal) (H : Heap) (nx : Nat) : Option ARes :=
 match r, Nat.ble (Nat.succ nx) 1048576 with
 | none, true => forceN nx fun b => some (.val (.map b) (set5 b (some (.map [] 0)) H) (Nat.succ b))
 | _, _ => none
theorem opMakeMap_ok {t : TypeId} {q : Option Operand} {ρ : Operand → AVal} {r : ARes} (ho : o.op = .makeMap t q)
  (h : opMakeMap q ρ H nx = some r) : OpOK P o ρ H nx r := by
 unfold opMakeMap at h
 split at h <;> try (cases h; done)
 rename_i hle
 rw [forceN_eq] at h
 cases h
 intro σ w ρ' hr hd
 have hx : nx < 1048576 := Nat.le_of_ble_eq_true hle
 obtain ⟨R, E⟩ := hr.allocMap hx
 refine ⟨_, _, .map (some w.heap.size), R, E, .map (sz := 0) (by simp [upd]), .inl ?_⟩
 simp [execOp, ho, Instr.makeMap, newObj, Sem.run]
def setEnt (key val : AVal) : List AEnt → Nat → List AEnt
 | [], _ => []
 | e :: es, 0 => ⟨key, val, e.born⟩ :: es
 | e :: es, i + 1 => e :: setEnt key val es i
def opMapUpdate (P : Program) (t : TypeId) (m ky x : Operand) (ρ : Operand → AVal) (H : Heap) (nx : Nat) : Option ARes :=
 match P.underlying t, ρ m, ρ ky with
 | some (.map kt _), .map b, .int k n => match P.underlying kt, get5 b H with
  | some (.int kk), some (.map es clock) => match Nat.beq (ikC k) (ikC kk), findA k n es 0 with
   | true, some (some (i, _)) => some (.val .und (set5 b (some (.map (setEnt (.int k n) (ρ x) es i) clock)) H) nx)
   | true, some none => some (.val .und (set5 b (some (.map (es ++ [⟨.int k n, ρ x, clock⟩]) (Nat.succ clock))) H) nx)
   | _, _ => none
  | _, _ => none
 | _, _, _ => none
theorem DenE.append {σ : Sg} : ∀ {l : List AEnt} {l' : List MapEntry} {m : List AEnt} {m' : List MapEntry}, DenE σ l l' → DenE σ m m' → DenE σ (l ++ m) (l' ++ m')
 | _, _, _, _, .nil, h => h
 | _, _, _, _, .cons hk hv hb t, h => .cons hk hv hb (DenE.append t h)
theorem DenE.setEnt {σ : Sg} {key val : AVal} {key' val' : Value} (hk : Den σ key key') (hv : Den σ val val') : ∀ {l : List AEnt} {l' : List MapEntry} (i : Nat), DenE σ l l' → DenE σ (Ev.setEnt key val l i) (l'.modify i fun e => { e with key := key', val := val' })
 | _, _, i, .nil => by cases i <;> exact .nil
 | _, _, 0, .cons _ _ hb t => .cons hk hv hb t
 | _, _, i + 1, .cons h1 h2 h3 t => .cons h1 h2 h3 (DenE.setEnt hk hv i t)
theorem opMapUpdate_ok {t : TypeId} {m ky x : Operand} {ρ : Operand → AVal} {r : ARes} (ho : o.op = .mapUpdate t m ky x ∨ o.op = .insert t m ky x)
  (h : opMapUpdate P t m ky x ρ H nx = some r) : OpOK P o ρ H nx r := by
 unfold opMapUpdate at h
 split at h <;> try (cases h; done)
 rename_i kt et b k n hu hm hky
 split at h <;> try (cases h; done)
 rename_i kk es clock hkt hob
 have ex : ∀ (ρ' : Operand → Value) (w w' : World), (Instr.mapUpdate t (ρ' m) (ρ' ky) (ρ' x)).run P w = .ok () w' → (execOp ρ' o).run P w = .ok .skip w' := by
  intro ρ' w w' hrun
  rcases ho with ho | ho <;> simp [execOp, ho, hrun]
 have prep : ∀ (σ : Sg) (w : World) (ρ' : Operand → Value), Rel σ H nx w → (∀ x, Den σ (ρ x) (ρ' x)) → ∃ cb sz, ∃ es' : Array MapEntry, σ b = some (cb, sz) ∧ ρ' m = .map (some cb) ∧ ρ' ky = .int k n ∧ w.heap[cb]? = some (.map es' clock) ∧ DenE σ es es'.toList := by
  intro σ w ρ' hr hd
  have dm := hd m; rw [hm] at dm
  have dk := hd ky; rw [hky] at dk
  have ek : ρ' ky = .int k n := by cases hq : ρ' ky <;> rw [hq] at dk <;> cases dk <;> rfl
  cases hq : ρ' m <;> rw [hq] at dm <;> cases dm
  rename_i cb sz hb
  obtain ⟨es', h1, h2⟩ := hr.obj b _ cb sz hob hb
  exact ⟨cb, sz, es', hb, rfl, ek, h1, h2⟩
 split at h <;> try (cases h; done)
 ·rename_i i v hk hf
  have hkk := ikC_inj hk
  subst hkk
  cases h
  intro σ w ρ' hr hd
  obtain ⟨cb, sz, es', hb, em, ek, hw, hden⟩ := prep σ w ρ' hr hd
  obtain ⟨r', f1, f2, f3⟩ := findA_ok (kk := k) hf hden
  cases r' with
  | none => exact f2.elim
  | some p =>
   obtain ⟨j, v'⟩ := p
   obtain ⟨rfl, _⟩ := f2
   obtain ⟨_, g2⟩ := f3 i v' rfl
   have hold : ((es'[i]?).map (·.key)).getD (.int k n) = .int k n := by
    have : (es'[i]?).map (·.key) = some (.int k n) := by simpa using g2
    rw [this]; rfl
   have hlt : cb < w.heap.size := (hr.dom b cb sz hb).2
   obtain ⟨s1, s2⟩ := MapKept.heap_set (o' := .map (es'.modify i fun e => { e with key := .int k n, val := ρ' x }) clock) hw
   obtain ⟨R, E⟩ := hr.storeMap (w' := { w with heap := w.heap.setIfInBounds cb (.map (es'.modify i fun e => { e with key := .int k n, val := ρ' x }) clock) }) (es2 := setEnt (.int k n) (ρ x) es i) (clock2 := clock) hb hob s1
    (by rw [Array.toList_modify]; exact DenE.setEnt (.int k n) (hd x) i hden) s2 rfl rfl rfl (by simp)
   refine ⟨σ, _, undef, R, E, .und _, .inr ⟨ex ρ' w _ ?_, rfl⟩⟩
   have hck : (Instr.checkKey false 10000 kt (.int k n)).run P w = .ok () w := MapKept.run_checkKey hkt (by simp [MapKept.IsKey]) _ 9999
   have hfk : (Instr.findKey kt (.int k n) es'.toList).run P w = .ok (some (i, v')) w := MapKept.run_findKey hkt f1
   have hks : (Instr.keyThatStays (.int k n) (.int k n)).run P w = .ok (.int k n) w := MapKept.run_keyThatStays (d := .int k) (by simp [MapKept.IsKey])
   simp only [em, ek, Instr.mapUpdate, Sem.run_bind, run_underlying' hu, Result.andThen_ok, MapKept.run_getObj_map hw, hck, hfk, hold, hks, MapKept.run_setObj_map _ hw]
 ·rename_i hk hf
  have hkk := ikC_inj hk
  subst hkk
  cases h
  intro σ w ρ' hr hd
  obtain ⟨cb, sz, es', hb, em, ek, hw, hden⟩ := prep σ w ρ' hr hd
  obtain ⟨r', f1, f2, f3⟩ := findA_ok (kk := k) hf hden
  cases r' with
  | some p => exact f2.elim
  | none =>
   obtain ⟨s1, s2⟩ := MapKept.heap_set (o' := .map (es'.push { key := .int k n, val := ρ' x, born := clock }) (clock + 1)) hw
   obtain ⟨R, E⟩ := hr.storeMap (w' := { w with heap := w.heap.setIfInBounds cb (.map (es'.push { key := .int k n, val := ρ' x, born := clock }) (clock + 1)) }) (es2 := es ++ [⟨.int k n, ρ x, clock⟩]) (clock2 := clock + 1) hb hob s1
    (by rw [Array.toList_push]; exact hden.append (.cons (.int k n) (hd x) rfl .nil)) s2 rfl rfl rfl (by simp)
   refine ⟨σ, _, undef, R, E, .und _, .inr ⟨ex ρ' w _ ?_, rfl⟩⟩
   have hck : (Instr.checkKey false 10000 kt (.int k n)).run P w = .ok () w := MapKept.run_checkKey hkt (by simp [MapKept.IsKey]) _ 9999
   have hfk : (Instr.findKey kt (.int k n) es'.toList).run P w = .ok none w := MapKept.run_findKey hkt f1
   simp only [em, ek, Instr.mapUpdate, Sem.run_bind, run_underlying' hu, Result.andThen_ok, MapKept.run_getObj_map hw, hck, hfk, MapKept.run_setObj_map _ hw]
def minN (a b : Nat) : Nat := Bool.rec b a (Nat.ble a b)
theorem minN_eq (a b : Nat) : minN a b = Nat.min b a ∧ minN a b ≤ a ∧ minN a b ≤ b ∧ minN a b = Nat.min a b := by
 unfold minN
 cases h : Nat.ble a b with
 | true => have := Nat.le_of_ble_eq_true h; show a = Nat.min b a ∧ a ≤ a ∧ a ≤ b ∧ a = Nat.min a b; simp only [Nat.min_def]; refine ⟨?_, Nat.le_refl _, this, ?_⟩ <;> split <;> omega
 | false =>
  have : ¬ a ≤ b := fun hle => by rw [Nat.ble_eq_true_of_le hle] at h; cases h
  show b = Nat.min b a ∧ b ≤ a ∧ b ≤ b ∧ b = Nat.min a b
  simp only [Nat.min_def]
  refine ⟨?_, by omega, Nat.le_refl _, ?_⟩ <;> split <;> omega
def opCopy (P : Program) (types : Array TypeId) (args : Array Operand) (ρ : Operand → AVal) (H : Heap) (nx : Nat) : Option ARes :=
 match types.toList, args.toList with
 | dT :: _, [d, s] => match P.underlying dT with
  | some (.slice elem) => match P.info? elem, ρ d, ρ s with
   | some e, .slice b off len _ _, .slice b2 off2 len2 _ _ => match get5 b H, get5 b2 H with
    | some (.cells cnt ct olds false), some (.cells cnt2 ct2 _ _) => forceN (minN len2 len) fun n => match Nat.ble (Nat.add off (Nat.mul n e.size)) cnt, Nat.ble (Nat.add off2 (Nat.mul n e.size)) cnt2, allCell (CT.slab ct2 (Nat.mul n e.size) off2) with
     | true, true, true => some (.val (.int .i64 (.ofNat n)) (set5 b (some (.cells cnt (CT.lay (CT.slab ct2 (Nat.mul n e.size) off2) off ct) [] false)) (dels olds H)) nx)
     | _, _, _ => none
    | _, _ => none
   | some _, .slice _ _ _ _ _, .nilSlice => some (.val (.int .i64 0) H nx)
   | some _, .nilSlice, .nilSlice => some (.val (.int .i64 0) H nx)
   | some _, .nilSlice, .slice _ _ _ _ _ => some (.val (.int .i64 0) H nx)
   | _, _, _ => none
  | _ => none
 | _, _ => none
theorem opCopy_ok {c : Call} {ρ : Operand → AVal} {r : ARes} (ho : o.op = .call c) (hc : c.callee = .builtin .copy) (h : opCopy P c.argTypes c.args ρ H nx = some r) : OpOK P o ρ H nx r := by
 unfold opCopy at h
 split at h <;> try (cases h; done)
 rename_i dT rT d s hT hA
 split at h <;> try (cases h; done)
 rename_i elem hu
 have eT : c.argTypes[0]? = some dT := by rw [← Array.getElem?_toList, hT]; rfl
 have eA : c.args = #[d, s] := by apply Array.ext'; rw [hA]
 have ex : ∀ (ρ' : Operand → Value) (w : World) (v : Value) (w' : World), (Builtin.copy_ c.argTypes o.type #[ρ' d, ρ' s]).run P w = .ok v w' → (execOp ρ' o).run P w = .ok (.value v) w' := by
  intro ρ' w v w' hrun
  simp [execOp, ho, resolve, hc, invoke, builtin, eA, hrun]
 split at h <;> try (cases h; done)
 ·rename_i e b off len esz full b2 off2 len2 esz2 full2 he hdv hsv
  split at h <;> try (cases h; done)
  rename_i cnt ct olds cnt2 ct2 olds2 s2 ho1 ho2
  rw [forceN_eq] at h
  split at h <;> try (cases h; done)
  rename_i h1 h2 h3
  cases h
  have h1' : off + minN len2 len * e.size ≤ cnt := Nat.le_of_ble_eq_true h1
  have h2' : off2 + minN len2 len * e.size ≤ cnt2 := Nat.le_of_ble_eq_true h2
  obtain ⟨m1, m2, m3, m4⟩ := minN_eq len2 len
  intro σ w ρ' hr hd
  have dd := hd d; rw [hdv] at dd
  have ds := hd s; rw [hsv] at ds
  have src : ∃ l', DenL σ (CT.slab ct2 (minN len2 len * e.size) off2) l' ∧ (Builtin.lenOf (ρ' s)).run P w = .ok len2 w ∧ (Builtin.firstCells e.size (minN len2 len) (ρ' s)).run P w = .ok ⟨l'⟩ w := by
   cases hq : ρ' s <;> rw [hq] at ds <;> cases ds
   ·rename_i cb sz cap hb q1 q2 q3
    obtain ⟨l', _, hl, _, hrun⟩ := load_slab hr ho2 hb P off2 (minN len2 len * e.size) h2'
    exact ⟨l', hl, rfl, hrun⟩
   ·rename_i off' cb sz hb
    have z : minN 0 len = 0 := by omega
    rw [z, Nat.zero_mul]
    exact ⟨[], .nil, rfl, by simp [Builtin.firstCells, loadCells, loadCellsFrom]⟩
  obtain ⟨l', hl, hlen, hfirst⟩ := src
  have hll : (CT.slab ct2 (minN len2 len * e.size) off2).length = minN len2 len * e.size := CT.slab_length _ _ _
  have hll' := hl.length
  have dst : ∃ base cap cb sz, σ b = some (cb, sz) ∧ ρ' d = .slice (some base) len cap ∧ (storeCells base l').run P w = .ok () (setCells w cb off l') := by
   cases hq : ρ' d <;> rw [hq] at dd <;> cases dd
   ·rename_i cap cb sz hb q1 q2 q3
    obtain ⟨o1, o2, o3, o4⟩ := hr.obj b _ cb sz ho1 hb
    refine ⟨at' cb off, cap, cb, sz, hb, rfl, ?_⟩
    exact run_storeCells (P := P) l' w cb off 0 (allCell_ok h3 hl) (fun k hk1 hk2 => o3 k (by omega))
   ·rename_i off' cb sz hb
    have z : minN len2 0 = 0 := by omega
    have hz : minN len2 0 * e.size = 0 := by rw [z, Nat.zero_mul]
    have hn : l' = [] := List.length_eq_zero_iff.1 (by omega)
    subst hn
    exact ⟨at' cb off', 0, cb, sz, hb, rfl, rfl⟩
  obtain ⟨base, cap, cb, sz, hb, hv, hst⟩ := dst
  obtain ⟨R, E⟩ := hr.store hb ho1 (by rw [hll]; omega) hl
  refine ⟨σ, _, _, R, E, .int .i64 (.ofNat (minN len2 len)), .inl (ex ρ' w _ _ ?_)⟩
  rw [m4] at hfirst
  simp only [Builtin.copy_, eT, hv, List.getElem?_toArray, List.getElem?_cons_zero, List.getElem?_cons_succ, Sem.run_bind, run_underlying' hu, Result.andThen_ok, hlen, run_sizeOf' he, hfirst, hst, Sem.run_pure, goInt, m4]
  rfl
 all_goals (
  cases h
  refine OpOK.pure fun σ w ρ' hr hd => ?_
  have dd := hd d
  have ds := hd s
  rename_i hdv hsv
  rw [hdv] at dd
  rw [hsv] at ds
  refine ⟨_, .int .i64 0, ex ρ' w _ _ ?_⟩
  cases hq : ρ' d <;> rw [hq] at dd <;> cases dd <;> cases hq2 : ρ' s <;> rw [hq2] at ds <;> cases ds <;>
  simp [Builtin.copy_, eT, run_underlying' hu, Builtin.lenOf, run_sizeOf' ‹_›, Builtin.firstCells, loadCells, loadCellsFrom, storeCells, goInt])
end
end Go.Ev
namespace Go.Ev
variable [GTab] {P : Program} {H : Heap} {nx : Nat} {w : World} {o : Oper}
noncomputable section
def recvA (P : Program) (H : Heap) (t : TypeId) (v : AVal) (byPtr : Bool) : Option AVal :=
 match P.underlying t, byPtr with
 | some (.pointer _), true => some v
 | some (.pointer elem), false => aLoad P elem H v
 | some d, false => match d with
  | .pointer _ => none
  | _ => some v
 | _, _ => none
def methodA (P : Program) (t : TypeId) (name : String) : Option (FuncId × Bool) :=
 match P.info? t with
 | some i => match i.methods.find? (·.name == name) with
  | some m => match m.path.isEmpty, m.func with
   | true, some p => some p
   | _, _ => none
  | none => none
 | none => none
def opInvoke (P : Program) (r : Operand) (name : String) (args : Array Operand) (ρ : Operand → AVal) (H : Heap) (_nx : Nat) : Option ARes :=
 match ρ r with
 | .iface t v => match methodA P t name with
  | some (f, byPtr) => match hasBody P f, recvA P H t v byPtr with
   | true, some u => some (.call f (u :: args.toList.map ρ))
   | _, _ => none
  | none => none
 | _ => none
theorem recvA_ok {σ : Sg} {t : TypeId} {v u : AVal} {v' : Value} {byPtr : Bool} {name : String} (hr : Rel σ H nx w) (hv : Den σ v v') (h : recvA P H t v byPtr = some u) :
  ∃ u', Den σ u u' ∧ (receiverAt t (.val v') byPtr (some name)).run P w = .ok u' w := by
 unfold recvA at h
 split at h
 ·rename_i hu
  cases h
  exact ⟨v', hv, by simp [receiverAt, run_underlying' hu, Place.get]⟩
 ·rename_i elem hu
  obtain ⟨x', dx, hx⟩ := aLoad_ok (P := P) hr hv h
  refine ⟨x', dx, ?_⟩
  have isptr : ∃ ad, v' = .pointer (some ad) := by
   unfold aLoad at h
   split at h <;> try (cases h; done)
   all_goals
    cases hv
    exact ⟨_, rfl⟩
  obtain ⟨ad, rfl⟩ := isptr
  have hx' : (loadVar elem ad).run P w = .ok x' w := by simpa [Instr.loadAt, Instr.sureAddr] using hx
  have hck : (Builtin.ssaWrapNilChk_ #[t] t #[.pointer (some ad), strVal "", strVal name]).run P w = .ok (.pointer (some ad)) w := rfl
  have hgt : (Place.get t (.val (.pointer (some ad)))).run P w = .ok (.pointer (some ad)) w := rfl
  have had : (asAddr (.pointer (some ad))).run P w = .ok ad w := rfl
  simp only [receiverAt, Sem.run_bind, run_underlying' hu, Result.andThen_ok, hgt, hck, had, hx']
 ·rename_i d hne hu
  split at h <;> try (cases h; done)
  rename_i hd
  cases h
  refine ⟨v', hv, ?_⟩
  simp only [receiverAt, Sem.run_bind, run_underlying' hu, Result.andThen_ok]
  cases d <;> first | exact absurd rfl (hd _) | rfl
 ·cases h
theorem opInvoke_ok {c : Call} {rcv : Operand} {name : String} {ρ : Operand → AVal} {r : ARes} (ho : o.op = .call c) (hc : c.callee = .invoke rcv name)
  (h : opInvoke P rcv name c.args ρ H nx = some r) : OpOK P o ρ H nx r := by
 unfold opInvoke at h
 split at h <;> try (cases h; done)
 rename_i t v hx
 split at h <;> try (cases h; done)
 rename_i f byPtr hm
 split at h <;> try (cases h; done)
 rename_i u hb hu
 cases h
 unfold methodA at hm
 split at hm <;> try (cases hm; done)
 rename_i i hi
 split at hm <;> try (cases hm; done)
 rename_i m hf
 split at hm <;> try (cases hm; done)
 rename_i p hp hfun
 cases hm
 intro σ w ρ' hr hd
 have dx := hd rcv
 rw [hx] at dx
 cases e : ρ' rcv <;> rw [e] at dx <;> cases dx
 rename_i v' dv
 obtain ⟨u', du, hrun⟩ := recvA_ok (P := P) (name := (name.splitOn ".").getLastD name) hr dv hu
 refine ⟨u' :: c.args.toList.map ρ', .cons du (denL_map hd _), ?_⟩
 have hpath : m.path.toList = [] := by
  have : m.path = #[] := by simpa using hp
  rw [this]
 have hmeth : ∀ n, (method (n + 1) t v' name).run P w = .ok (f, u') w := by
  intro n
  unfold method
  simp only [Sem.run_bind, run_typeInfo' hi, Result.andThen_ok, hf, hpath, follow, Sem.run_pure, hfun, hp, if_true, hrun]
 have hfuel : ∃ n, P.types.size + Made.depth = n + 1 := ⟨P.types.size + Made.depth - 1, by
  have : 0 < Made.depth := by decide
  omega⟩
 obtain ⟨n, hn⟩ := hfuel
 have hcm : (callMethod (.iface t v') name (c.args.map ρ')).run P w = .ok (.enter f (#[u'] ++ c.args.map ρ')) w := by
  simp only [callMethod, Sem.run_bind, program, Sem.run, Result.andThen_ok, hn, hmeth, run_callFunc hb]
 have hex : ((#[Value.iface t v'] ++ c.args.map ρ').extract 1 (#[Value.iface t v'] ++ c.args.map ρ').size) = c.args.map ρ' := by
  apply Array.ext'
  simp
  rw [List.take_of_length_le (by simp)]
 simp only [execOp, ho, resolve, hc, e, Sem.run_bind, Sem.run_pure, Result.andThen_ok, invoke]
 have hg : (#[Value.iface t v'] ++ c.args.map ρ')[0]? = some (.iface t v') := by rw [Array.getElem?_append_left (by simp)]; rfl
 simp only [hg, hex, hcm]
 congr 2
 simp
end
end Go.Ev
end
section
namespace Go.Ev
variable [GTab]
noncomputable section
def opCall (P : Program) (c : Call) (ρ : Operand → AVal) (H : Heap) (nx : Nat) : Option ARes :=
 match c.callee with
 | .value f => opCallV P f c.args ρ H nx
 | .builtin .append => match c.argTypes.toList, c.args.toList with
  | [sT, xT], [s, x] => match P.underlying sT, P.underlying xT with
   | some (.slice elem), some d => match srcD d, P.info? elem with
    | true, some e => match aSrc e.size H (ρ x) with
     | some (_, l) => match allCell l with
      | true => aAppend P elem H nx (ρ s) (fun size => aSrc size H (ρ x))
      | false => none
     | none => none
    | false, some e => match isInt d, aZeros P elem e.size (ρ x) with
     | true, some (_, l) => match allCell l with
      | true => aAppend P elem H nx (ρ s) (fun size => aZeros P elem size (ρ x))
      | false => none
     | _, _ => none
    | _, _ => none
   | _, _ => none
  | _, _ => none
 | .builtin .copy => opCopy P c.argTypes c.args ρ H nx
 | .builtin b => opBuiltin0 P b c.argTypes c.args ρ H nx
 | .invoke r name => opInvoke P r name c.args ρ H nx
def opFail (_ρ : Operand → AVal) (_H : Heap) (_nx : Nat) : Option ARes := none
def opMadeOf (P : Program) (op : Op) (ρ : Operand → AVal) (H : Heap) (nx : Nat) : Option ARes :=
 match made P op ρ with
 | some m => opMade m H nx
 | none => none
def opDeferC (P : Program) (c : Call) (ρ : Operand → AVal) (H : Heap) (nx : Nat) : Option ARes :=
 match c.callee with
 | .value f => opDefer P f c.args ρ H nx
 | _ => none
def aop (P : Program) (o : Oper) : (Operand → AVal) → Heap → Nat → Option ARes :=
 match o.op with
 | .move x => opMove x
 | .assign x => opMove x
 | .pick c a b => opPick c a b
 | .load t a => opLoad P t a
 | .store t a x => opStore P t a x
 | .nilCheck x => opNilCheck x
 | .binOp op t x y _ => opBin P op t x y
 | .unOp op _ x => opUn op x
 | .convert s d x => opConv P s d x
 | .makeInterface t x => opMakeInterface P t x
 | .makeFunc fn a b => opMakeFunc fn a b
 | .slice t x lo hi mx => opSlice P t x lo hi mx
 | .fieldAddr s x f => opFieldAddr P s x f
 | .field t x f => opField P t x f
 | .indexAddr t x i => opIndexAddr P t x i
 | .index t x i => opIndex P t x i
 | .typeAssert x _ a ok => opAssert P x a ok
 | .extract t i => opExtract t i
 | .build t ps => opBuild P t ps
 | .alloc t => opMadeOf P (.alloc t)
 | .box t x => opMadeOf P (.box t x)
 | .buildSlice t n ps => opMadeOf P (.buildSlice t n ps)
 | .makeSlice t l c => opMadeOf P (.makeSlice t l c)
 | .call c => opCall P c
 | .defer c => opDeferC P c
 | .panic x => opPanic x
 | .lookup t x i ok => opLookup P t x i ok
 | .makeMap _ r => opMakeMap r
 | .mapUpdate t m k x => opMapUpdate P t m k x
 | .insert t m k x => opMapUpdate P t m k x
 | _ => opFail
abbrev Env := T2 AVal
def aev (env : Env) (x : Operand) : AVal :=
 Operand.rec (motive := fun _ => Env → AVal) (fun t env => Bool.rec .und (get2 t env) (Nat.ble t 255)) (fun v _ => ofVal v) (fun g _ => .gptr g 0) (fun f _ => .func (.func f) [] []) x env
def put (d : Option Nat) (v : AVal) (env : Env) : Env := Option.rec (motive := fun _ => AVal → Env → Env) (fun _ env => env) (fun d v env => set2 d v env) d v env
def dstOK (nt : Nat) (d : Option Nat) : Bool := Option.rec (motive := fun _ => Bool) true (fun d => Nat.ble (Nat.succ d) nt) d
inductive AMode where
 | returning
 | panicking (l : List (AVal × Bool))
inductive AExit where
 | normal
 | exit (id : Nat)
 | ret
 | pan (l : List (AVal × Bool))
inductive AEnd where
 | ret (v : AVal)
 | pan (l : List (AVal × Bool))
abbrev Dfs := List (FuncId × List AVal)
abbrev Kont := AExit → Env → Heap → Nat → Dfs → Option AMode → Bool
abbrev KEnd := AEnd → Heap → Nat → Bool
abbrev CallK := FuncId → List AVal → Heap → Nat → KEnd → Bool
def wantedA (ops : Array Oper) (g : Option (Nat × Bool)) (env : Env) : Option Bool :=
 match g with
 | none => some true
 | some (j, want) => match (ops[j]?).bind (·.dst) with
  | some t => match Nat.ble t 255 with
   | true => match get2 t env with
    | .bool b => some (Bool.rec (bnot want) want b)
    | .tuple [] => some false
    | _ => none
   | false => none
  | none => some false
def takeK (call : CallK) (d : Option Nat) (r : ARes) (env : Env) (H : Heap) (nx : Nat) (dfs : Dfs) (rc : Option AMode) (k : Env → Heap → Nat → Dfs → Option AMode → Bool) (K : Kont) : Bool :=
 match r with
 | .val v H' nx' => k (put d v env) H' nx' dfs rc
 | .call f args => call f args H nx fun e H' nx' => match e with
  | .ret v => k (put d v env) H' nx' dfs rc
  | .pan l => K (.pan l) env H' nx' dfs rc
 | .dfr f args => k (put d (.tuple []) env) H nx ((f, args) :: dfs) rc
 | .pan v => K (.pan [(v, false)]) env H nx dfs rc
 | .rcv => match rc with
  | some (.panicking ((v, false) :: older)) => k (put d v env) H nx dfs (some (.panicking ((v, true) :: older)))
  | some .returning => k (put d .nilIface env) H nx dfs rc
  | _ => false
def opK (P : Program) (call : CallK) (nt : Nat) (ops : Array Oper) (o : Oper) (env : Env) (H : Heap) (nx : Nat) (dfs : Dfs) (rc : Option AMode) (k : Env → Heap → Nat → Dfs → Option AMode → Bool) (K : Kont) : Bool :=
 match dstOK nt o.dst, wantedA ops o.guard env with
 | true, some true => match aop P o (aev env) H nx with
  | some r => takeK call o.dst r env H nx dfs rc k K
  | none => false
 | true, some false => k (put o.dst (.tuple []) env) H nx dfs rc
 | _, _ => false
def cls : Op → Nat
 | .alloc _ | .box _ _ | .buildSlice _ _ _ | .makeSlice _ _ _ => 1
 | .store _ _ _ | .defer _ | .panic _ | .mapUpdate _ _ _ _ | .insert _ _ _ _ | .mapEntry _ _ _ | .entryStore _ _ _ _ | .next _ _ | .go _ | .send _ _ | .recv _ _ _ | .select _ _ | .ready _ | .range _ _ | .makeMap _ _ | .makeChan _ _ => 2
 | .call c => match c.callee with
  | .builtin .len | .builtin .max | .builtin .min => 0
  | _ => 2
 | _ => 0
def impure : Op → Bool
 | .load _ _ | .slice _ _ _ _ _ | .convert _ _ _ | .lookup _ _ _ _ => true
 | _ => false
def maskOf (as : List Nat) (es : List Edge) : Nat :=
 List.rec (motive := fun _ => Nat) 0 (fun e _ ih => Bool.rec ih (Nat.lor (Nat.lor (Nat.shiftLeft 1 e.on) (as.getD e.on 0)) ih) (Region.binds .any e)) es
def aheadL : List Oper → List Nat → List Nat
 | [], acc => acc
 | o :: l, acc => aheadL l (acc ++ [maskOf acc o.after.toList])
def ahead (ops : Array Oper) : List Nat := aheadL ops.toList []
def acts (l : List Oper) (i : Nat) : List Nat :=
 match l with
 | [] => []
 | o :: l => match Nat.beq (cls o.op) 2 with
  | true => i :: acts l (i + 1)
  | false => acts l (i + 1)
def bit (m j : Nat) : Bool := Nat.beq (Nat.mod (Nat.shiftRight m j) 2) 1
def level (m : Nat) (es : List Nat) : Nat := List.rec (motive := fun _ => Nat) 0 (fun e _ ih => Bool.rec ih (Nat.succ ih) (bit m e)) es
def floats (l : List Oper) (as : List Nat) (es : List Nat) (k i : Nat) : List Nat :=
 match l, as with
 | o :: l, m :: as => match Nat.beq (cls o.op) 2, Nat.beq (level m es) k with
  | false, true => i :: floats l as es k (i + 1)
  | _, _ => floats l as es k (i + 1)
 | _, _ => []
def again (l : List Oper) (as : List Nat) (es : List Nat) (k me i : Nat) : List Nat :=
 match l, as with
 | o :: l, m :: as => match impure o.op, Nat.ble (level m es) k, bit me i with
  | true, true, false => i :: again l as es k me (i + 1)
  | _, _, _ => again l as es k me (i + 1)
 | _, _ => []
def stages (l : List Oper) (as : List Nat) (all es : List Nat) (k : Nat) : List (Nat × List Nat × List Nat) :=
 match es with
 | [] => []
 | e :: es => (e, floats l as all k 0, again l as all k (as.getD e 0) 0) :: stages l as all es (k + 1)
def looks (ops : Array Oper) (o : Oper) : List Nat :=
 (o.op.operands.toList.filterMap fun | .tmp t => some t | _ => none) ++ (match o.guard with | some (g, _) => ((ops[g]?).bind (·.dst)).toList | none => [])
def owners (l : List Oper) (t i : Nat) : List Nat :=
 match l with
 | [] => []
 | o :: l => match o.dst with
  | some d => match Nat.beq d t with
   | true => i :: owners l t (i + 1)
   | false => owners l t (i + 1)
  | none => owners l t (i + 1)
def allL {α : Type} (p : α → Bool) (l : List α) : Bool := List.rec (motive := fun _ => Bool) true (fun x _ ih => Bool.rec false ih (p x)) l
def opOK (nt : Nat) (ops : Array Oper) (l : List Oper) (as : List Nat) (i : Nat) (o : Oper) : Bool :=
 match dstOK nt o.dst, Nat.beq (as.getD i 0) (maskOf as o.after.toList) with
 | true, true => match allL (fun e => Bool.rec true (Nat.ble (Nat.succ e.on) i) (Region.binds .any e)) o.after.toList, allL (fun t => allL (fun j => bit (as.getD i 0) j) (owners l t 0)) (looks ops o) with
  | true, true => match (match o.dst with | some t => allL (fun j => Nat.beq j i) (owners l t 0) | none => true) with
   | true => match o.guard with
    | some (g, _) => match (ops[g]?).bind (·.dst) with
     | some _ => true
     | none => false
    | none => true
   | _ => false
  | _, _ => false
 | _, _ => false
def opsOK (nt : Nat) (ops : Array Oper) (l : List Oper) (as : List Nat) : List Oper → Nat → Bool
 | [], _ => true
 | o :: r, i => match opOK nt ops l as i o with
  | true => opsOK nt ops l as r (i + 1)
  | false => false
def memN (i : Nat) (l : List Nat) : Bool := List.rec (motive := fun _ => Bool) false (fun j _ ih => Bool.rec ih true (Nat.beq j i)) l
def freshOf (ops : Array Oper) (past : List Nat) (i : Nat) (o : Oper) : Bool :=
 allL (fun p => match Nat.beq p i with
  | true => false
  | false => match o.dst, ops[p]? with
   | some d, some q => allL (fun t => bnot (Nat.beq t d)) (looks ops q)
   | none, some _ => true
   | _, none => false) past
def chkF (ops : Array Oper) : List Nat → List Nat → Option (List Nat)
 | [], past => some past
 | i :: l, past => match ops[i]? with
  | some o => match Nat.beq (cls o.op) 2, freshOf ops past i o with
   | false, true => chkF ops l (i :: past)
   | _, _ => none
  | none => none
def chkA (ops : Array Oper) (m : Nat) (A past : List Nat) : Bool :=
 allL (fun i => match ops[i]? with
  | some o => match impure o.op with
   | true => match memN i A with
    | true => true
    | false => bit m i
   | false => true
  | none => false) past
def chkS (ops : Array Oper) (as : List Nat) : List (Nat × List Nat × List Nat) → Option Nat → List Nat → Bool
 | [], _, _ => true
 | (e, F, A) :: rest, prev, past => match ops[e]?, (match prev with | some p => bit (as.getD e 0) p | none => true) with
  | some o, true => match freshOf ops past e o, allL (fun i => bit (as.getD i 0) e) F with
   | true, true => match chkF ops F past with
    | some past' => match chkA ops (as.getD e 0) A past' with
     | true => chkS ops as rest (some e) past'
     | false => false
    | none => false
   | _, _ => false
  | _, _ => false
def named (st : List (Nat × List Nat × List Nat)) : List Nat :=
 match st with
 | [] => []
 | (e, F, _) :: rest => e :: (F ++ named rest)
def plan0 (ops : Array Oper) : List Nat := floats ops.toList (ahead ops) (acts ops.toList 0) 0 0
def planA (ops : Array Oper) : List Nat := again ops.toList (ahead ops) (acts ops.toList 0) 0 0 0
def planS (ops : Array Oper) : List (Nat × List Nat × List Nat) := stages ops.toList (ahead ops) (acts ops.toList 0) (acts ops.toList 0) 1
def planOK (nt : Nat) (ops : Array Oper) : Bool :=
 match Nat.ble nt 256, opsOK nt ops ops.toList (ahead ops) ops.toList 0, chkF ops (plan0 ops) [] with
 | true, true, some past => match chkA ops 0 (planA ops) past, chkS ops (ahead ops) (planS ops) none past, allL (fun i => memN i (plan0 ops ++ named (planS ops))) (List.range ops.size) with
  | true, true, true => true
  | _, _, _ => false
 | _, _, _ => false
def beqA : Nat → AVal → AVal → Bool
 | 0, _, _ => false
 | n + 1, a, b =>
  let beqL : List AVal → List AVal → Bool := fun l m => List.rec (motive := fun _ => List AVal → Bool) (fun m => List.rec (motive := fun _ => Bool) true (fun _ _ _ => false) m)
   (fun a _ ih m => List.rec (motive := fun _ => Bool) false (fun b t _ => Bool.rec false (ih t) (beqA n a b)) m) l m
  match a, b with
  | .und, .und => true
  | .bool x, .bool y => Bool.rec (bnot y) y x
  | .int k x, .int j y => match decide (k = j) with | true => ieq x y | false => false
  | .str x y, .str z w => match Nat.beq x z with | true => Nat.beq y w | false => false
  | .ptr x y, .ptr z w => match Nat.beq x z with | true => Nat.beq y w | false => false
  | .nilPtr, .nilPtr => true
  | .slice x y z u f, .slice x' y' z' u' f' => match Nat.beq x x', Nat.beq y y', Nat.beq z z', Nat.beq u u', (Bool.rec (bnot f') f' f : Bool) with
   | true, true, true, true, true => true
   | _, _, _, _, _ => false
  | .nilSlice, .nilSlice => true
  | .map x, .map y => Nat.beq x y
  | .nilMap, .nilMap => true
  | .func (.func f) l m, .func (.func g) l' m' => match Nat.beq f g, beqL l l' with | true, true => beqL m m' | _, _ => false
  | .nilFunc, .nilFunc => true
  | .iface t v, .iface u w => match Nat.beq t u with | true => beqA n v w | false => false
  | .nilIface, .nilIface => true
  | .agg l, .agg m => beqL l m
  | .tuple l, .tuple m => beqL l m
  | .anyInt k x y, .anyInt j z w => match decide (k = j), Nat.beq x z with | true, true => Nat.beq y w | _, _ => false
  | .anyBool, .anyBool => true
  | .gptr x y, .gptr z w => match Nat.beq x z with | true => Nat.beq y w | false => false
  | .anyStr x, .anyStr y => Nat.beq x y
  | _, _ => false
def floatK (P : Program) (ops : Array Oper) (res : Nat) (o : Oper) (i : Nat) (env : Env) (H : Heap) (nx : Nat) (k : Env → Heap → Bool) : Bool :=
 match wantedA ops o.guard env with
 | some true => match Nat.beq (cls o.op) 1 with
  | true => match made P o.op (aev env) with
   | some m => match Nat.ble m.n 4096 with
    | true => forceN (Nat.add res i) fun b => k (put o.dst (m.v b) env) (set5 b (some (.cells m.n (CT.ofL m.n m.l) [] false)) H)
    | false => false
   | none => false
  | false => match aop P o (aev env) H nx with
   | some (.val v _ _) => k (put o.dst v env) H
   | _ => false
 | some false => k (put o.dst (.tuple []) env) H
 | none => false
def floatsK (P : Program) (ops : Array Oper) (res : Nat) (nx : Nat) (k : Env → Heap → Bool) (l : List Nat) : Env → Heap → Bool :=
 List.rec (motive := fun _ => Env → Heap → Bool) k (fun i _ ih env H => match ops[i]? with
  | some o => floatK P ops res o i env H nx ih
  | none => false) l
def again1 (P : Program) (ops : Array Oper) (env : Env) (H : Heap) (nx : Nat) (o : Oper) : Bool :=
 match wantedA ops o.guard env with
 | some true => match aop P o (aev env) H nx with
  | some (.val v _ _) => match o.dst with
   | some d => beqA 9 v (get2 d env)
   | none => true
  | _ => false
 | some false => match o.dst with
  | some d => match get2 d env with
   | .tuple [] => true
   | _ => false
  | none => true
 | none => false
def againK (P : Program) (ops : Array Oper) (env : Env) (H : Heap) (nx : Nat) (l : List Nat) : Bool :=
 allL (fun i => match ops[i]? with
  | some o => again1 P ops env H nx o
  | none => false) l
def actK (P : Program) (call : CallK) (ops : Array Oper) (o : Oper) (env : Env) (H : Heap) (nx : Nat) (dfs : Dfs) (rc : Option AMode) (k : Env → Heap → Nat → Bool) (K : Kont) (env0 : Env) : Bool :=
 match wantedA ops o.guard env with
 | some true => match aop P o (aev env) H nx with
  | some (.val v H' nx') => k (put o.dst v env) H' nx'
  | some (.call f args) => call f args H nx fun e H' nx' => match e with
   | .ret v => k (put o.dst v env) H' nx'
   | .pan l => K (.pan l) env0 H' nx' dfs rc
  | some (.pan v) => K (.pan [(v, false)]) env0 H nx dfs rc
  | _ => false
 | some false => k (put o.dst (.tuple []) env) H nx
 | none => false
def blank (l : List Oper) (env : Env) : Env := List.rec (motive := fun _ => Env → Env) (fun env => env) (fun o _ ih env => ih (put o.dst .und env)) l env
def enterEnv (args : List AVal) : Nat → Env → Env := List.rec (motive := fun _ => Nat → Env → Env) (fun _ env => env) (fun v _ ih i env => ih (Nat.succ i) (set2 i v env)) args
def resultsA (P : Program) (env : Env) (H : Heap) : List ResultVar → Option (List AVal)
 | [] => some []
 | .tmp t :: l => match Nat.ble t 255, resultsA P env H l with
  | true, some vs => some (get2 t env :: vs)
  | _, _ => none
 | .cell a t :: l => match Nat.ble a 255, resultsA P env H l with
  | true, some vs => match aLoad P t H (get2 a env) with
   | some v => some (v :: vs)
   | none => none
  | _, _ => none
def oneOf (vs : List AVal) : AVal := match vs with
 | [v] => v
 | vs => .tuple vs
def settleA : AMode → AMode
 | .panicking ((_, true) :: _) => .returning
 | m => m
def raisedA (m : AMode) (l : List (AVal × Bool)) : AMode := match m with
 | .panicking old => .panicking (l ++ old)
 | .returning => .panicking l
def leaveK (P : Program) (calld : FuncId → List AVal → AMode → Heap → Nat → (AEnd → AMode → Heap → Nat → Bool) → Bool) (rs : List ResultVar) (env : Env) (dfs : Dfs) : AMode → Heap → Nat → KEnd → Bool :=
 List.rec (motive := fun _ => AMode → Heap → Nat → KEnd → Bool)
  (fun m H nx K => match m with
   | .returning => match resultsA P env H rs with
    | some vs => K (.ret (oneOf vs)) H nx
    | none => false
   | .panicking l => K (.pan l) H nx)
  (fun d _ ih m H nx K => calld d.1 d.2 m H nx fun e m' H' nx' => match e with
   | .ret _ => ih (settleA m') H' nx' K
   | .pan l => ih (raisedA m' l) H' nx' K) dfs
def loopFuel : Nat := 1000000000
end
end Go.Ev
end
section
namespace Go.Ev
variable [GTab] {P : Program} {H : Heap} {nx : Nat} {ops : Array Oper} {o : Oper} {nt : Nat} {env : Env}
set_option maxHeartbeats 2000000 in
theorem opCall_ok {c : Call} {ρ : Operand → AVal} {r : ARes} (ho : o.op = .call c) (h : opCall P c ρ H nx = some r) : OpOK P o ρ H nx r := by
 unfold opCall at h
 split at h <;> try (cases h; done)
 ·exact opCallV_ok ho ‹_› h
 ·rename_i hc
  split at h <;> try (cases h; done)
  rename_i sT xT s x hT hA
  split at h <;> try (cases h; done)
  rename_i elem d hu hx
  split at h <;> try (cases h; done)
  ·rename_i e hd he
   split at h <;> try (cases h; done)
   rename_i n l hsrc
   split at h <;> try (cases h; done)
   rename_i hall
   have e1 : c.argTypes = #[sT, xT] := by apply Array.ext'; rw [hT]
   have e2 : c.args = #[s, x] := by apply Array.ext'; rw [hA]
   obtain ⟨v, H', nx', rfl⟩ := aAppend_val h
   intro σ w ρ' hr hdn
   obtain ⟨σ', w', v', R, E, D, hrun⟩ := aAppend_ok (P := P) (u := o.type) hr (hdn s) (sT := sT) (xT := xT) (x' := ρ' x) (fun n' l' e' z' he' hz' _ hs' => by
    rw [he] at he'; cases he'
    obtain ⟨hll, l1, hl1, hlen, hfc⟩ := aSrc_ok (P := P) hr (hdn x) hs'
    obtain ⟨_, l2, hl2, _, hfc2⟩ := aSrc_ok (P := P) hr.drew (hdn x) hs'
    have hq : l' = l := by rw [hsrc] at hs'; cases hs'; rfl
    exact ⟨hll, by rw [hq]; exact hall, ⟨l1, hl1, room_src hu hx hd he hlen hfc⟩, l2, hl2, grow_src hu hx hd he hz' hlen hfc2⟩) h
   refine ⟨σ', w', v', R, E, D, .inl ?_⟩
   simp [execOp, ho, resolve, hc, invoke, builtin, e1, e2, hrun]
  ·rename_i e hd he
   split at h <;> try (cases h; done)
   rename_i n l hi hsrc
   split at h <;> try (cases h; done)
   rename_i hall
   have e1 : c.argTypes = #[sT, xT] := by apply Array.ext'; rw [hT]
   have e2 : c.args = #[s, x] := by apply Array.ext'; rw [hA]
   obtain ⟨k, rfl⟩ : ∃ k, d = .int k := by cases d <;> first | exact ⟨_, rfl⟩ | cases hi
   obtain ⟨v, H', nx', rfl⟩ := aAppend_val h
   intro σ w ρ' hr hdn
   obtain ⟨σ', w', v', R, E, D, hrun⟩ := aAppend_ok (P := P) (u := o.type) hr (hdn s) (sT := sT) (xT := xT) (x' := ρ' x) (fun n' l' e' z' he' hz' hzs' hs' => by
    rw [he] at he'; cases he'
    have hq : l' = l := by rw [hsrc] at hs'; cases hs'; rfl
    obtain ⟨m, hm, rfl, hle, hden, hll⟩ := aZeros_ok (σ := σ) he hz' hs'
    have hdx := hdn x
    rw [hm] at hdx
    have ex : ∀ y, Den σ (.int .i64 (.ofNat m)) y → y = .int .i64 (m : Int) := fun y hy => by cases hy; rfl
    rw [ex _ hdx]
    exact ⟨hll, by rw [hq]; exact hall, ⟨_, hden, room_zeros hu hx he hz' hzs' hle⟩, _, hden, grow_zeros hu hx he hz' hzs' hle⟩) h
   refine ⟨σ', w', v', R, E, D, .inl ?_⟩
   simp [execOp, ho, resolve, hc, invoke, builtin, e1, e2, hrun]
 ·exact opCopy_ok ho ‹_› h
 ·exact opBuiltin0_ok ho ‹_› h
 ·exact opInvoke_ok ho ‹_› h
theorem opMadeOf_ok {ρ : Operand → AVal} {r : ARes} (h : opMadeOf P o.op ρ H nx = some r) : OpOK P o ρ H nx r := by
 unfold opMadeOf at h
 split at h <;> try (cases h; done)
 exact opMade_ok (made_ok ‹_›) h
theorem aop_ok {ρ : Operand → AVal} {r : ARes} (h : aop P o ρ H nx = some r) : OpOK P o ρ H nx r := by
 unfold aop at h
 cases hop : o.op <;> rw [hop] at h
 case move => exact opMove_ok (.inl hop) h
 case assign => exact opMove_ok (.inr hop) h
 case pick => exact opPick_ok hop h
 case load => exact opLoad_ok hop h
 case store => exact opStore_ok hop h
 case nilCheck => exact opNilCheck_ok hop h
 case binOp => exact opBin_ok hop h
 case unOp => exact opUn_ok hop h
 case convert => exact opConv_ok hop h
 case makeInterface => exact opMakeInterface_ok hop h
 case makeFunc => exact opMakeFunc_ok hop h
 case slice => exact opSlice_ok hop h
 case fieldAddr => exact opFieldAddr_ok hop h
 case field => exact opField_ok hop h
 case indexAddr => exact opIndexAddr_ok hop h
 case index => exact opIndex_ok hop h
 case typeAssert => exact opAssert_ok hop h
 case extract => exact opExtract_ok hop h
 case build => exact opBuild_ok hop h
 case alloc => exact opMadeOf_ok (by rw [hop]; exact h)
 case box => exact opMadeOf_ok (by rw [hop]; exact h)
 case buildSlice => exact opMadeOf_ok (by rw [hop]; exact h)
 case makeSlice => exact opMadeOf_ok (by rw [hop]; exact h)
 case call => exact opCall_ok hop h
 case defer c =>
  have h' : opDeferC P c ρ H nx = some r := h
  unfold opDeferC at h'
  split at h' <;> first | (cases h'; done) | skip
  exact opDefer_ok hop ‹_› h'
 case panic => exact opPanic_ok hop h
 case lookup => exact opLookup_ok hop h
 case makeMap => exact opMakeMap_ok hop h
 case mapUpdate => exact opMapUpdate_ok (.inl hop) h
 case insert => exact opMapUpdate_ok (.inr hop) h
 all_goals (have h' : opFail ρ H nx = some r := h; cases h')
structure EnvRel (σ : Sg) (nt : Nat) (env : Env) (tmps : Array Value) : Prop where
 size : tmps.size = nt
 le : nt ≤ 256
 den : ∀ t, t < 256 → Den σ (get2 t env) (tmps.getD t undef)
theorem EnvRel.mono {σ σ' : Sg} {tmps : Array Value} (hs : ∀ b p, σ b = some p → σ' b = some p) (h : EnvRel σ nt env tmps) : EnvRel σ' nt env tmps :=
 ⟨h.size, h.le, fun t ht => (h.den t ht).mono hs⟩
theorem EnvRel.aev {σ : Sg} {a : Act} (h : EnvRel σ nt env a.tmps) (x : Operand) : Den σ (aev env x) (a.eval x) := by
 cases x with
 | tmp t =>
  show Den σ (Bool.rec .und (get2 t env) (Nat.ble t 255)) (a.tmps.getD t undef)
  cases hb : Nat.ble t 255 with
  | false => exact .und _
  | true => exact h.den t (by have := Nat.le_of_ble_eq_true hb; omega)
 | const v => exact den_ofVal σ v
 | global g => exact .gptr g 0
 | func f => exact .func .nil .nil
theorem get2_put {d : Nat} {v : AVal} {t : Nat} (hd : d < 256) (ht : t < 256) : get2 t (set2 d v env) = if d = t then v else get2 t env := by
 by_cases h : d = t
 ·subst h; rw [if_pos rfl, get2_set2_same]
 ·rw [if_neg h, get2_set2_ne]
  rw [Nat.mod_eq_of_lt hd, Nat.mod_eq_of_lt ht]; exact h
theorem getD_put (tmps : Array Value) (d t : Nat) (v : Value) (h : d < tmps.size) : (tmps.setIfInBounds d v).getD t undef = if d = t then v else tmps.getD t undef := by
 by_cases e : d = t
 ·subst e; rw [if_pos rfl]; simp [h]
 ·rw [if_neg e]; simp [Array.getElem?_setIfInBounds_ne e]
theorem EnvRel.put {σ : Sg} {a : Act} {d : Option Nat} {v : AVal} {v' : Value} (h : EnvRel σ nt env a.tmps) (hd : dstOK nt d = true) (hv : Den σ v v') : EnvRel σ nt (put d v env) (a.put d v').tmps := by
 cases d with
 | none => exact h
 | some d =>
  have hlt : d < nt := Nat.le_of_ble_eq_true hd
  have hle := h.le
  have hsz := h.size
  refine ⟨?_, h.le, fun t ht => ?_⟩
  ·show (a.tmps.setIfInBounds d v').size = nt
   rw [Array.size_setIfInBounds]; exact h.size
  ·show Den σ (get2 t (set2 d v env)) ((a.tmps.setIfInBounds d v').getD t undef)
   rw [get2_put (by omega) ht, getD_put _ _ _ _ (by omega)]
   by_cases e : d = t
   ·rw [if_pos e, if_pos e]; exact hv
   ·rw [if_neg e, if_neg e]; exact h.den t ht
inductive DfsRel (σ : Sg) : Dfs → List Deferred → Prop
 | nil : DfsRel σ [] []
 | cons {f : FuncId} {args : List AVal} {d : Deferred} {l : Dfs} {l' : List Deferred} (h : DDen σ f args d) (t : DfsRel σ l l') : DfsRel σ ((f, args) :: l) (d :: l')
theorem DDen.mono {σ σ' : Sg} {f : FuncId} {args : List AVal} {d : Deferred} (hs : ∀ b p, σ b = some p → σ' b = some p) (h : DDen σ f args d) : DDen σ' f args d := by
 obtain ⟨cap, h1, h2⟩ := h
 exact ⟨cap, h1, h2.mono hs⟩
theorem DfsRel.mono {σ σ' : Sg} (hs : ∀ b p, σ b = some p → σ' b = some p) : ∀ {l : Dfs} {l' : List Deferred}, DfsRel σ l l' → DfsRel σ' l l'
 | _, _, .nil => .nil
 | _, _, .cons h t => .cons (h.mono hs) (DfsRel.mono hs t)
structure ARel (σ : Sg) (nt : Nat) (env : Env) (dfs : Dfs) (a : Act) : Prop where
 env : EnvRel σ nt env a.tmps
 dfs : DfsRel σ dfs a.defers
theorem ARel.mono {σ σ' : Sg} {dfs : Dfs} {a : Act} (hs : ∀ b p, σ b = some p → σ' b = some p) (h : ARel σ nt env dfs a) : ARel σ' nt env dfs a := ⟨h.env.mono hs, h.dfs.mono hs⟩
theorem ARel.put {σ : Sg} {dfs : Dfs} {a : Act} {d : Option Nat} {v : AVal} {v' : Value} (h : ARel σ nt env dfs a) (hd : dstOK nt d = true) (hv : Den σ v v') : ARel σ nt (put d v env) dfs (a.put d v') :=
 ⟨h.env.put hd hv, by cases d <;> exact h.dfs⟩
inductive Chain (σ : Sg) : List (AVal × Bool) → List PanicEntry → Prop
 | nil : Chain σ [] []
 | cons {v : AVal} {r : Bool} {p : PanicEntry} {l : List (AVal × Bool)} {l' : List PanicEntry} (hv : Den σ v p.v) (hr : p.recovered = r) (hg : p.goexit = false) (t : Chain σ l l') : Chain σ ((v, r) :: l) (p :: l')
theorem Chain.mono {σ σ' : Sg} (hs : ∀ b p, σ b = some p → σ' b = some p) : ∀ {l : List (AVal × Bool)} {l' : List PanicEntry}, Chain σ l l' → Chain σ' l l'
 | _, _, .nil => .nil
 | _, _, .cons hv hr hg t => .cons (hv.mono hs) hr hg (Chain.mono hs t)
theorem Chain.append {σ : Sg} : ∀ {l : List (AVal × Bool)} {l' : List PanicEntry} {m : List (AVal × Bool)} {m' : List PanicEntry}, Chain σ l l' → Chain σ m m' → Chain σ (l ++ m) (l' ++ m')
 | _, _, _, _, .nil, h => h
 | _, _, _, _, .cons hv hr hg t, h => .cons hv hr hg (Chain.append t h)
def ExRel (σ : Sg) : AExit → Exit → Prop
 | .normal, .normal => True
 | .exit i, .exit j => i = j
 | .ret, .ret => True
 | .pan l, .panic c => Chain σ l c
 | _, _ => False
def EndRel (σ : Sg) : AEnd → Ending → Prop
 | .ret v, .returned v' => Den σ v v'
 | .pan l, .panicked c => Chain σ l c
 | _, _ => False
def MRel (σ : Sg) : AMode → FrameMode → Prop
 | .returning, .returning => True
 | .panicking l, .panicking c => Chain σ l c
 | _, _ => False
theorem MRel.mono {σ σ' : Sg} {m : AMode} {u : FrameMode} (hs : ∀ b p, σ b = some p → σ' b = some p) (h : MRel σ m u) : MRel σ' m u := by
 cases m <;> cases u <;> first | exact h | exact Chain.mono hs h
theorem wanted_ok {σ : Sg} {a : Act} {b : Bool} (h : wantedA ops o.guard env = some b) (he : EnvRel σ nt env a.tmps) : Region.wanted o (yielded ops a.tmps) = b := by
 unfold wantedA at h
 unfold Region.wanted
 split at h
 ·rename_i hg; cases h; rw [hg]
 ·rename_i j want hg
  rw [hg]
  split at h
  ·rename_i t ht
   split at h <;> try (cases h; done)
   rename_i hle
   have hlt : t < 256 := Nat.lt_of_le_of_lt (Nat.le_of_ble_eq_true hle) (by decide)
   have hd := he.den t hlt
   have hy : yielded ops a.tmps j = match a.tmps[t]? with | some (.bool b) => some b | _ => none := by
    unfold yielded; rw [ht]; rfl
   split at h <;> try (cases h; done)
   ·rename_i x hx
    cases h
    rw [hx] at hd
    have hg2 : a.tmps[t]? = some (.bool x) := by
     cases hq : a.tmps[t]? with
     | none => simp [hq] at hd; cases hd
     | some v => simp [hq] at hd; cases hd; rfl
    simp only [hy, hg2]
    cases x <;> cases want <;> rfl
   ·rename_i hx
    cases h
    rw [hx] at hd
    have hn : yielded ops a.tmps j = none := by
     rw [hy]
     cases hq : a.tmps[t]? with
     | none => rfl
     | some v =>
      simp [hq] at hd
      cases hd
      rfl
    simp [hn]
  ·rename_i ht
   cases h
   have hn : yielded ops a.tmps j = none := by unfold yielded; rw [ht]; rfl
   simp [hn]
def NotRec (P : Program) (o : Oper) (a : Act) (w : World) : Prop := ∀ w', (execOp a.eval o).run P w ≠ .ok .recover w'
theorem opK_skip {Q : Exit → Act → World → Prop} {l : List Oper} {a : Act} {w : World} (h : Region.wanted o (yielded ops a.tmps) = false) (hn : wpList P ops Q l (a.put o.dst undef) w) :
  wpList P ops Q (o :: l) a w := by
 unfold wpList
 rw [if_neg (by rw [h]; simp)]
 exact hn
end Go.Ev
end
section
namespace Go.Ev
variable [GTab] {P : Program} {H : Heap} {nx : Nat} {o : Oper}
theorem aFill_congr {place : Nat → Option (Nat × Nat)} {ρ ρ2 : Operand → AVal} : ∀ (l : List (Nat × Operand)) (cells : List AVal), (∀ x, x ∈ l.map (·.2) → ρ x = ρ2 x) → aFill place ρ cells l = aFill place ρ2 cells l
 | [], _, _ => rfl
 | (i, x) :: rest, cells, h => by
  have h1 : ρ x = ρ2 x := h x (by simp)
  have h2 := fun c => aFill_congr (place := place) rest c (fun y hy => h y (by simp at hy ⊢; exact .inr hy))
  simp only [aFill, h1, h2]
theorem map_congr {ρ ρ2 : Operand → AVal} {l : List Operand} (h : ∀ x, x ∈ l → ρ x = ρ2 x) : l.map ρ = l.map ρ2 := List.map_congr_left h
theorem bnd_congr {ρ ρ2 : Operand → AVal} {d : Nat} {x : Option Operand} (h : ∀ y, x = some y → ρ y = ρ2 y) : bnd d x ρ = bnd d x ρ2 := by
 cases x with
 | none => rfl
 | some y => unfold bnd; simp only [h y rfl]
theorem made_congr {op : Op} {ρ ρ2 : Operand → AVal} (h : ∀ x ∈ op.operands, ρ x = ρ2 x) : made P op ρ = made P op ρ2 := by
 unfold made
 cases op <;> simp only [Op.operands] at h <;> simp only []
 case box t x => unfold madeBox; rw [h x (by simp)]
 case buildSlice t n ps =>
  unfold madeSliceLit
  have := fun pl c => aFill_congr (place := pl) (ρ := ρ) (ρ2 := ρ2) ps.toList c (fun x hx => h x (by simpa using hx))
  simp only [this]
 case makeSlice t l c => unfold madeMake; rw [h l (by simp), h c (by simp)]
theorem opCall_congr {c : Call} {ρ ρ2 : Operand → AVal} (h : ∀ x ∈ c.operands, ρ x = ρ2 x) : opCall P c ρ H nx = opCall P c ρ2 H nx := by
 have hargs : ∀ x, x ∈ c.args.toList → ρ x = ρ2 x := fun x hx => h x (by simp [Call.operands]; simp at hx; simp [hx])
 unfold opCall
 cases hc : c.callee with
 | value f =>
  simp only [opCallV]
  rw [h f (by simp [Call.operands, hc]), map_congr hargs]
 | invoke r m =>
  simp only [opInvoke]
  rw [h r (by simp [Call.operands, hc]), map_congr hargs]
 | builtin b =>
  have hb : opBuiltin0 P b c.argTypes c.args ρ H nx = opBuiltin0 P b c.argTypes c.args ρ2 H nx := by
   unfold opBuiltin0
   split
   ·rename_i hA; rw [hargs _ (by rw [hA]; simp)]
   ·rename_i x l hA; rw [hargs x (by rw [hA]; simp), map_congr (l := l) fun y hy => hargs y (by rw [hA]; simp [hy])]
   ·rename_i x l hA; rw [hargs x (by rw [hA]; simp), map_congr (l := l) fun y hy => hargs y (by rw [hA]; simp [hy])]
   ·rfl
   ·rfl
  cases b <;> simp only [] <;> first | exact hb | skip
  case copy =>
   unfold opCopy
   cases hT : c.argTypes.toList with
   | nil => rfl
   | cons dT tl =>
    cases hA : c.args.toList with
    | nil => rfl
    | cons d al =>
     cases al with
     | nil => rfl
     | cons s al =>
      cases al with
      | cons _ _ => rfl
      | nil =>
       rw [hA] at hargs
       simp only [hargs d (by simp), hargs s (by simp)]
  cases hT : c.argTypes.toList with
  | nil => rfl
  | cons sT tl =>
   cases tl with
   | nil => rfl
   | cons xT tl =>
    cases tl with
    | cons _ _ => rfl
    | nil =>
     cases hA : c.args.toList with
     | nil => rfl
     | cons s al =>
      cases al with
      | nil => rfl
      | cons x al =>
       cases al with
       | cons _ _ => rfl
       | nil =>
        rw [hA] at hargs
        simp only [hargs s (by simp), hargs x (by simp)]
theorem aop_congr {ρ ρ2 : Operand → AVal} (h : ∀ x ∈ o.op.operands, ρ x = ρ2 x) : aop P o ρ H nx = aop P o ρ2 H nx := by
 have hm : opMadeOf P o.op ρ H nx = opMadeOf P o.op ρ2 H nx := by unfold opMadeOf; rw [made_congr h]
 unfold aop
 cases hop : o.op <;> rw [hop] at h hm <;> simp only [Op.operands] at h <;> simp only []
 case move x => unfold opMove; rw [h x (by simp)]
 case assign x => unfold opMove; rw [h x (by simp)]
 case pick c a b => unfold opPick; rw [h c (by simp), h a (by simp), h b (by simp)]
 case load t a => unfold opLoad; rw [h a (by simp)]
 case store t a x => unfold opStore; rw [h a (by simp), h x (by simp)]
 case nilCheck x => unfold opNilCheck; rw [h x (by simp)]
 case binOp op t x y _ => unfold opBin; rw [h x (by simp), h y (by simp)]
 case unOp op t x => unfold opUn; rw [h x (by simp)]
 case convert s d x => unfold opConv; rw [h x (by simp)]
 case makeInterface t x => unfold opMakeInterface; rw [h x (by simp)]
 case makeFunc fn a b => unfold opMakeFunc; rw [map_congr (l := a.toList) (fun x hx => h x (by simp at hx; simp [hx])), map_congr (l := b.toList) (fun x hx => h x (by simp at hx; simp [hx]))]
 case slice t x lo hi mx =>
  unfold opSlice
  have h1 := fun d => bnd_congr (d := d) (x := lo) (ρ := ρ) (ρ2 := ρ2) (fun y e => h y (by subst e; simp))
  have h2 := fun d => bnd_congr (d := d) (x := hi) (ρ := ρ) (ρ2 := ρ2) (fun y e => h y (by subst e; simp))
  simp only [h x (by simp), h1, h2]
 case fieldAddr s x f => unfold opFieldAddr; rw [h x (by simp)]
 case field s x f => unfold opField; rw [h x (by simp)]
 case indexAddr t x i => unfold opIndexAddr; rw [h x (by simp), h i (by simp)]
 case index t x i => unfold opIndex; rw [h x (by simp), h i (by simp)]
 case typeAssert x _ a ok => unfold opAssert; rw [h x (by simp)]
 case extract t i => unfold opExtract; rw [h t (by simp)]
 case build t ps =>
  unfold opBuild aBuild
  have := fun pl c => aFill_congr (place := pl) (ρ := ρ) (ρ2 := ρ2) ps.toList c (fun x hx => h x (by simpa using hx))
  simp only [this]
 case alloc t => exact hm
 case box t x => exact hm
 case buildSlice t n ps => exact hm
 case makeSlice t l c => exact hm
 case call c => exact opCall_congr h
 case defer c =>
  unfold opDeferC
  have hargs : ∀ x, x ∈ c.args.toList → ρ x = ρ2 x := fun x hx => h x (by simp [Call.operands]; simp at hx; simp [hx])
  cases hc : c.callee with
  | value f => simp only [opDefer]; rw [h f (by simp [Call.operands, hc]), map_congr hargs]
  | invoke r m => rfl
  | builtin b => rfl
 case panic x => unfold opPanic; rw [h x (by simp)]
 case lookup t x i ok => unfold opLookup; rw [h x (by simp), h i (by simp)]
 case makeMap t r => rfl
 case mapUpdate t m k x => unfold opMapUpdate; rw [h m (by simp), h k (by simp), h x (by simp)]
 case insert t m k x => unfold opMapUpdate; rw [h m (by simp), h k (by simp), h x (by simp)]
 all_goals rfl
theorem cls0_heap {ρ : Operand → AVal} {H H' : Heap} {nx nx' : Nat} {v : AVal} (hc : cls o.op = 0) (h : aop P o ρ H nx = some (.val v H' nx')) : H' = H ∧ nx' = nx := by
 unfold aop at h
 cases hop : o.op <;> rw [hop] at h hc <;> simp only [] at h <;> try (cases hc; done)
 case move => unfold opMove at h; cases h; exact ⟨rfl, rfl⟩
 case assign => unfold opMove at h; cases h; exact ⟨rfl, rfl⟩
 case call c =>
  simp only [cls] at hc
  unfold opCall at h
  cases hce : c.callee with
  | value f => rw [hce] at hc; cases hc
  | invoke r m => rw [hce] at hc; cases hc
  | builtin b =>
   rw [hce] at hc h
   cases b <;> simp only [] at hc h <;> try (cases hc; done)
   all_goals
    unfold opBuiltin0 at h
    split at h <;> try (cases h; done)
    all_goals (repeat' (split at h)) <;> first | (cases h; done) | (cases h; exact ⟨rfl, rfl⟩) | (rw [forceI_eq] at h; cases h; exact ⟨rfl, rfl⟩)
 all_goals first
  | (have h' : opFail ρ H nx = some (.val v H' nx') := h; cases h'; done)
  | (unfold opPick at h) | (unfold opLoad at h) | (unfold opNilCheck at h) | (unfold opBin at h) | (unfold opUn at h) | (unfold opConv at h) | (unfold opMakeInterface at h) | (unfold opMakeFunc at h) | (unfold opSlice at h)
  | (unfold opFieldAddr at h) | (unfold opField at h) | (unfold opIndexAddr at h) | (unfold opIndex at h) | (unfold opAssert at h) | (unfold opExtract at h) | (unfold opBuild at h) | (unfold opLookup at h)
 all_goals (repeat' (split at h)) <;> first | (cases h; done) | (cases h; exact ⟨rfl, rfl⟩) | (rw [forceN_eq] at h; cases h; exact ⟨rfl, rfl⟩) | (rw [forceI_eq] at h; cases h; exact ⟨rfl, rfl⟩) | (rw [forceN_eq, forceN_eq] at h; cases h; exact ⟨rfl, rfl⟩) | skip
noncomputable def beqL (n : Nat) (l m : List AVal) : Bool :=
 List.rec (motive := fun _ => List AVal → Bool) (fun m => List.rec (motive := fun _ => Bool) true (fun _ _ _ => false) m)
   (fun a _ ih m => List.rec (motive := fun _ => Bool) false (fun b t _ => Bool.rec false (ih t) (beqA n a b)) m) l m
theorem beqL_ok {n : Nat} (hn : ∀ a b, beqA n a b = true → a = b) : ∀ l m, beqL n l m = true → l = m
 | [], [], _ => rfl
 | [], _ :: _, h => by cases h
 | _ :: _, [], h => by cases h
 | a :: l, b :: m, h => by
  have h' : (Bool.rec false (beqL n l m) (beqA n a b) : Bool) = true := h
  cases e : beqA n a b <;> rw [e] at h'
  ·cases h'
  ·rw [hn a b e, beqL_ok hn l m h']
theorem beqB_ok {x y : Bool} (h : (Bool.rec (bnot y) y x : Bool) = true) : x = y := by
 cases x <;> cases y <;> first | rfl | cases h
theorem beqA_ok : ∀ n a b, beqA n a b = true → a = b
 | 0, _, _, h => by cases h
 | n + 1, a, b, h => by
  have ih := beqA_ok n
  have hL : ∀ l m, beqL n l m = true → l = m := beqL_ok ih
  unfold beqA at h
  simp only [] at h
  split at h <;> first | (cases h; done) | rfl | skip
  ·rw [beqB_ok h]
  ·split at h <;> try (cases h; done)
   rename_i hk
   rw [of_decide_eq_true hk, eq_of_beq ((ieq_eq _ _).symm.trans h)]
  ·split at h <;> try (cases h; done)
   rename_i hk
   rw [Nat.eq_of_beq_eq_true hk, Nat.eq_of_beq_eq_true h]
  ·split at h <;> try (cases h; done)
   rename_i hk
   rw [Nat.eq_of_beq_eq_true hk, Nat.eq_of_beq_eq_true h]
  ·split at h <;> try (cases h; done)
   rename_i h1 h2 h3 h4 h5
   rw [Nat.eq_of_beq_eq_true h1, Nat.eq_of_beq_eq_true h2, Nat.eq_of_beq_eq_true h3, Nat.eq_of_beq_eq_true h4, beqB_ok h5]
  ·rw [Nat.eq_of_beq_eq_true h]
  ·split at h <;> try (cases h; done)
   rename_i h1 h2
   rw [Nat.eq_of_beq_eq_true h1, hL _ _ h2, hL _ _ h]
  ·split at h <;> try (cases h; done)
   rename_i h1
   rw [Nat.eq_of_beq_eq_true h1, ih _ _ h]
  ·rw [hL _ _ h]
  ·rw [hL _ _ h]
  ·split at h <;> try (cases h; done)
   rename_i hk hx
   rw [of_decide_eq_true hk, Nat.eq_of_beq_eq_true hx, Nat.eq_of_beq_eq_true h]
  ·split at h <;> try (cases h; done)
   rename_i hk
   rw [Nat.eq_of_beq_eq_true hk, Nat.eq_of_beq_eq_true h]
  ·rw [Nat.eq_of_beq_eq_true h]
end Go.Ev
end
section
namespace Go.Ev
variable [GTab]
noncomputable section
abbrev OObj := Option AObj
def sA1_0 (v : AVal) (e : N16 AVal) : N16 AVal := N16.rec (α := AVal) (motive := fun _ => AVal → N16 AVal) (fun _ a1 a2 a3 a4 a5 a6 a7 a8 a9 a10 a11 a12 a13 a14 a15 v => N16.mk v a1 a2 a3 a4 a5 a6 a7 a8 a9 a10 a11 a12 a13 a14 a15) e v
def sA1_1 (v : AVal) (e : N16 AVal) : N16 AVal := N16.rec (α := AVal) (motive := fun _ => AVal → N16 AVal) (fun a0 _ a2 a3 a4 a5 a6 a7 a8 a9 a10 a11 a12 a13 a14 a15 v => N16.mk a0 v a2 a3 a4 a5 a6 a7 a8 a9 a10 a11 a12 a13 a14 a15) e v
def sA1_2 (v : AVal) (e : N16 AVal) : N16 AVal := N16.rec (α := AVal) (motive := fun _ => AVal → N16 AVal) (fun a0 a1 _ a3 a4 a5 a6 a7 a8 a9 a10 a11 a12 a13 a14 a15 v => N16.mk a0 a1 v a3 a4 a5 a6 a7 a8 a9 a10 a11 a12 a13 a14 a15) e v
def sA1_3 (v : AVal) (e : N16 AVal) : N16 AVal := N16.rec (α := AVal) (motive := fun _ => AVal → N16 AVal) (fun a0 a1 a2 _ a4 a5 a6 a7 a8 a9 a10 a11 a12 a13 a14 a15 v => N16.mk a0 a1 a2 v a4 a5 a6 a7 a8 a9 a10 a11 a12 a13 a14 a15) e v
def sA1_4 (v : AVal) (e : N16 AVal) : N16 AVal := N16.rec (α := AVal) (motive := fun _ => AVal → N16 AVal) (fun a0 a1 a2 a3 _ a5 a6 a7 a8 a9 a10 a11 a12 a13 a14 a15 v => N16.mk a0 a1 a2 a3 v a5 a6 a7 a8 a9 a10 a11 a12 a13 a14 a15) e v
def sA1_5 (v : AVal) (e : N16 AVal) : N16 AVal := N16.rec (α := AVal) (motive := fun _ => AVal → N16 AVal) (fun a0 a1 a2 a3 a4 _ a6 a7 a8 a9 a10 a11 a12 a13 a14 a15 v => N16.mk a0 a1 a2 a3 a4 v a6 a7 a8 a9 a10 a11 a12 a13 a14 a15) e v
def sA1_6 (v : AVal) (e : N16 AVal) : N16 AVal := N16.rec (α := AVal) (motive := fun _ => AVal → N16 AVal) (fun a0 a1 a2 a3 a4 a5 _ a7 a8 a9 a10 a11 a12 a13 a14 a15 v => N16.mk a0 a1 a2 a3 a4 a5 v a7 a8 a9 a10 a11 a12 a13 a14 a15) e v
def sA1_7 (v : AVal) (e : N16 AVal) : N16 AVal := N16.rec (α := AVal) (motive := fun _ => AVal → N16 AVal) (fun a0 a1 a2 a3 a4 a5 a6 _ a8 a9 a10 a11 a12 a13 a14 a15 v => N16.mk a0 a1 a2 a3 a4 a5 a6 v a8 a9 a10 a11 a12 a13 a14 a15) e v
def sA1_8 (v : AVal) (e : N16 AVal) : N16 AVal := N16.rec (α := AVal) (motive := fun _ => AVal → N16 AVal) (fun a0 a1 a2 a3 a4 a5 a6 a7 _ a9 a10 a11 a12 a13 a14 a15 v => N16.mk a0 a1 a2 a3 a4 a5 a6 a7 v a9 a10 a11 a12 a13 a14 a15) e v
def sA1_9 (v : AVal) (e : N16 AVal) : N16 AVal := N16.rec (α := AVal) (motive := fun _ => AVal → N16 AVal) (fun a0 a1 a2 a3 a4 a5 a6 a7 a8 _ a10 a11 a12 a13 a14 a15 v => N16.mk a0 a1 a2 a3 a4 a5 a6 a7 a8 v a10 a11 a12 a13 a14 a15) e v
def sA1_10 (v : AVal) (e : N16 AVal) : N16 AVal := N16.rec (α := AVal) (motive := fun _ => AVal → N16 AVal) (fun a0 a1 a2 a3 a4 a5 a6 a7 a8 a9 _ a11 a12 a13 a14 a15 v => N16.mk a0 a1 a2 a3 a4 a5 a6 a7 a8 a9 v a11 a12 a13 a14 a15) e v
def sA1_11 (v : AVal) (e : N16 AVal) : N16 AVal := N16.rec (α := AVal) (motive := fun _ => AVal → N16 AVal) (fun a0 a1 a2 a3 a4 a5 a6 a7 a8 a9 a10 _ a12 a13 a14 a15 v => N16.mk a0 a1 a2 a3 a4 a5 a6 a7 a8 a9 a10 v a12 a13 a14 a15) e v
def sA1_12 (v : AVal) (e : N16 AVal) : N16 AVal := N16.rec (α := AVal) (motive := fun _ => AVal → N16 AVal) (fun a0 a1 a2 a3 a4 a5 a6 a7 a8 a9 a10 a11 _ a13 a14 a15 v => N16.mk a0 a1 a2 a3 a4 a5 a6 a7 a8 a9 a10 a11 v a13 a14 a15) e v
def sA1_13 (v : AVal) (e : N16 AVal) : N16 AVal := N16.rec (α := AVal) (motive := fun _ => AVal → N16 AVal) (fun a0 a1 a2 a3 a4 a5 a6 a7 a8 a9 a10 a11 a12 _ a14 a15 v => N16.mk a0 a1 a2 a3 a4 a5 a6 a7 a8 a9 a10 a11 a12 v a14 a15) e v
def sA1_14 (v : AVal) (e : N16 AVal) : N16 AVal := N16.rec (α := AVal) (motive := fun _ => AVal → N16 AVal) (fun a0 a1 a2 a3 a4 a5 a6 a7 a8 a9 a10 a11 a12 a13 _ a15 v => N16.mk a0 a1 a2 a3 a4 a5 a6 a7 a8 a9 a10 a11 a12 a13 v a15) e v
def sA1_15 (v : AVal) (e : N16 AVal) : N16 AVal := N16.rec (α := AVal) (motive := fun _ => AVal → N16 AVal) (fun a0 a1 a2 a3 a4 a5 a6 a7 a8 a9 a10 a11 a12 a13 a14 _ v => N16.mk a0 a1 a2 a3 a4 a5 a6 a7 a8 a9 a10 a11 a12 a13 a14 v) e v
def gA1 (i : Ix) : N16 AVal → AVal := Ix.rec (motive := fun _ => N16 AVal → AVal) N16.f0 N16.f1 N16.f2 N16.f3 N16.f4 N16.f5 N16.f6 N16.f7 N16.f8 N16.f9 N16.f10 N16.f11 N16.f12 N16.f13 N16.f14 N16.f15 i
def sA1 (i : Ix) : AVal → N16 AVal → N16 AVal := Ix.rec (motive := fun _ => AVal → N16 AVal → N16 AVal) sA1_0 sA1_1 sA1_2 sA1_3 sA1_4 sA1_5 sA1_6 sA1_7 sA1_8 sA1_9 sA1_10 sA1_11 sA1_12 sA1_13 sA1_14 sA1_15 i
theorem gA1_eq (i : Ix) (e : N16 AVal) : gA1 i e = N16.get i e := by cases i <;> rfl
theorem sA1_eq (i : Ix) (v : AVal) (e : N16 AVal) : sA1 i v e = N16.set i v e := by cases i <;> rfl
def sA2_0 (v : N16 AVal) (e : T2 AVal) : T2 AVal := N16.rec (α := N16 AVal) (motive := fun _ => N16 AVal → T2 AVal) (fun _ a1 a2 a3 a4 a5 a6 a7 a8 a9 a10 a11 a12 a13 a14 a15 v => N16.mk v a1 a2 a3 a4 a5 a6 a7 a8 a9 a10 a11 a12 a13 a14 a15) e v
def sA2_1 (v : N16 AVal) (e : T2 AVal) : T2 AVal := N16.rec (α := N16 AVal) (motive := fun _ => N16 AVal → T2 AVal) (fun a0 _ a2 a3 a4 a5 a6 a7 a8 a9 a10 a11 a12 a13 a14 a15 v => N16.mk a0 v a2 a3 a4 a5 a6 a7 a8 a9 a10 a11 a12 a13 a14 a15) e v
def sA2_2 (v : N16 AVal) (e : T2 AVal) : T2 AVal := N16.rec (α := N16 AVal) (motive := fun _ => N16 AVal → T2 AVal) (fun a0 a1 _ a3 a4 a5 a6 a7 a8 a9 a10 a11 a12 a13 a14 a15 v => N16.mk a0 a1 v a3 a4 a5 a6 a7 a8 a9 a10 a11 a12 a13 a14 a15) e v
def sA2_3 (v : N16 AVal) (e : T2 AVal) : T2 AVal := N16.rec (α := N16 AVal) (motive := fun _ => N16 AVal → T2 AVal) (fun a0 a1 a2 _ a4 a5 a6 a7 a8 a9 a10 a11 a12 a13 a14 a15 v => N16.mk a0 a1 a2 v a4 a5 a6 a7 a8 a9 a10 a11 a12 a13 a14 a15) e v
def sA2_4 (v : N16 AVal) (e : T2 AVal) : T2 AVal := N16.rec (α := N16 AVal) (motive := fun _ => N16 AVal → T2 AVal) (fun a0 a1 a2 a3 _ a5 a6 a7 a8 a9 a10 a11 a12 a13 a14 a15 v => N16.mk a0 a1 a2 a3 v a5 a6 a7 a8 a9 a10 a11 a12 a13 a14 a15) e v
def sA2_5 (v : N16 AVal) (e : T2 AVal) : T2 AVal := N16.rec (α := N16 AVal) (motive := fun _ => N16 AVal → T2 AVal) (fun a0 a1 a2 a3 a4 _ a6 a7 a8 a9 a10 a11 a12 a13 a14 a15 v => N16.mk a0 a1 a2 a3 a4 v a6 a7 a8 a9 a10 a11 a12 a13 a14 a15) e v
def sA2_6 (v : N16 AVal) (e : T2 AVal) : T2 AVal := N16.rec (α := N16 AVal) (motive := fun _ => N16 AVal → T2 AVal) (fun a0 a1 a2 a3 a4 a5 _ a7 a8 a9 a10 a11 a12 a13 a14 a15 v => N16.mk a0 a1 a2 a3 a4 a5 v a7 a8 a9 a10 a11 a12 a13 a14 a15) e v
def sA2_7 (v : N16 AVal) (e : T2 AVal) : T2 AVal := N16.rec (α := N16 AVal) (motive := fun _ => N16 AVal → T2 AVal) (fun a0 a1 a2 a3 a4 a5 a6 _ a8 a9 a10 a11 a12 a13 a14 a15 v => N16.mk a0 a1 a2 a3 a4 a5 a6 v a8 a9 a10 a11 a12 a13 a14 a15) e v
def sA2_8 (v : N16 AVal) (e : T2 AVal) : T2 AVal := N16.rec (α := N16 AVal) (motive := fun _ => N16 AVal → T2 AVal) (fun a0 a1 a2 a3 a4 a5 a6 a7 _ a9 a10 a11 a12 a13 a14 a15 v => N16.mk a0 a1 a2 a3 a4 a5 a6 a7 v a9 a10 a11 a12 a13 a14 a15) e v
def sA2_9 (v : N16 AVal) (e : T2 AVal) : T2 AVal := N16.rec (α := N16 AVal) (motive := fun _ => N16 AVal → T2 AVal) (fun a0 a1 a2 a3 a4 a5 a6 a7 a8 _ a10 a11 a12 a13 a14 a15 v => N16.mk a0 a1 a2 a3 a4 a5 a6 a7 a8 v a10 a11 a12 a13 a14 a15) e v
def sA2_10 (v : N16 AVal) (e : T2 AVal) : T2 AVal := N16.rec (α := N16 AVal) (motive := fun _ => N16 AVal → T2 AVal) (fun a0 a1 a2 a3 a4 a5 a6 a7 a8 a9 _ a11 a12 a13 a14 a15 v => N16.mk a0 a1 a2 a3 a4 a5 a6 a7 a8 a9 v a11 a12 a13 a14 a15) e v
def sA2_11 (v : N16 AVal) (e : T2 AVal) : T2 AVal := N16.rec (α := N16 AVal) (motive := fun _ => N16 AVal → T2 AVal) (fun a0 a1 a2 a3 a4 a5 a6 a7 a8 a9 a10 _ a12 a13 a14 a15 v => N16.mk a0 a1 a2 a3 a4 a5 a6 a7 a8 a9 a10 v a12 a13 a14 a15) e v
def sA2_12 (v : N16 AVal) (e : T2 AVal) : T2 AVal := N16.rec (α := N16 AVal) (motive := fun _ => N16 AVal → T2 AVal) (fun a0 a1 a2 a3 a4 a5 a6 a7 a8 a9 a10 a11 _ a13 a14 a15 v => N16.mk a0 a1 a2 a3 a4 a5 a6 a7 a8 a9 a10 a11 v a13 a14 a15) e v
def sA2_13 (v : N16 AVal) (e : T2 AVal) : T2 AVal := N16.rec (α := N16 AVal) (motive := fun _ => N16 AVal → T2 AVal) (fun a0 a1 a2 a3 a4 a5 a6 a7 a8 a9 a10 a11 a12 _ a14 a15 v => N16.mk a0 a1 a2 a3 a4 a5 a6 a7 a8 a9 a10 a11 a12 v a14 a15) e v
def sA2_14 (v : N16 AVal) (e : T2 AVal) : T2 AVal := N16.rec (α := N16 AVal) (motive := fun _ => N16 AVal → T2 AVal) (fun a0 a1 a2 a3 a4 a5 a6 a7 a8 a9 a10 a11 a12 a13 _ a15 v => N16.mk a0 a1 a2 a3 a4 a5 a6 a7 a8 a9 a10 a11 a12 a13 v a15) e v
def sA2_15 (v : N16 AVal) (e : T2 AVal) : T2 AVal := N16.rec (α := N16 AVal) (motive := fun _ => N16 AVal → T2 AVal) (fun a0 a1 a2 a3 a4 a5 a6 a7 a8 a9 a10 a11 a12 a13 a14 _ v => N16.mk a0 a1 a2 a3 a4 a5 a6 a7 a8 a9 a10 a11 a12 a13 a14 v) e v
def gA2 (i : Ix) : T2 AVal → N16 AVal := Ix.rec (motive := fun _ => T2 AVal → N16 AVal) N16.f0 N16.f1 N16.f2 N16.f3 N16.f4 N16.f5 N16.f6 N16.f7 N16.f8 N16.f9 N16.f10 N16.f11 N16.f12 N16.f13 N16.f14 N16.f15 i
def sA2 (i : Ix) : N16 AVal → T2 AVal → T2 AVal := Ix.rec (motive := fun _ => N16 AVal → T2 AVal → T2 AVal) sA2_0 sA2_1 sA2_2 sA2_3 sA2_4 sA2_5 sA2_6 sA2_7 sA2_8 sA2_9 sA2_10 sA2_11 sA2_12 sA2_13 sA2_14 sA2_15 i
theorem gA2_eq (i : Ix) (e : T2 AVal) : gA2 i e = N16.get i e := by cases i <;> rfl
theorem sA2_eq (i : Ix) (v : N16 AVal) (e : T2 AVal) : sA2 i v e = N16.set i v e := by cases i <;> rfl
def sA3_0 (v : T2 AVal) (e : T3 AVal) : T3 AVal := N16.rec (α := T2 AVal) (motive := fun _ => T2 AVal → T3 AVal) (fun _ a1 a2 a3 a4 a5 a6 a7 a8 a9 a10 a11 a12 a13 a14 a15 v => N16.mk v a1 a2 a3 a4 a5 a6 a7 a8 a9 a10 a11 a12 a13 a14 a15) e v
def sA3_1 (v : T2 AVal) (e : T3 AVal) : T3 AVal := N16.rec (α := T2 AVal) (motive := fun _ => T2 AVal → T3 AVal) (fun a0 _ a2 a3 a4 a5 a6 a7 a8 a9 a10 a11 a12 a13 a14 a15 v => N16.mk a0 v a2 a3 a4 a5 a6 a7 a8 a9 a10 a11 a12 a13 a14 a15) e v
def sA3_2 (v : T2 AVal) (e : T3 AVal) : T3 AVal := N16.rec (α := T2 AVal) (motive := fun _ => T2 AVal → T3 AVal) (fun a0 a1 _ a3 a4 a5 a6 a7 a8 a9 a10 a11 a12 a13 a14 a15 v => N16.mk a0 a1 v a3 a4 a5 a6 a7 a8 a9 a10 a11 a12 a13 a14 a15) e v
def sA3_3 (v : T2 AVal) (e : T3 AVal) : T3 AVal := N16.rec (α := T2 AVal) (motive := fun _ => T2 AVal → T3 AVal) (fun a0 a1 a2 _ a4 a5 a6 a7 a8 a9 a10 a11 a12 a13 a14 a15 v => N16.mk a0 a1 a2 v a4 a5 a6 a7 a8 a9 a10 a11 a12 a13 a14 a15) e v
def sA3_4 (v : T2 AVal) (e : T3 AVal) : T3 AVal := N16.rec (α := T2 AVal) (motive := fun _ => T2 AVal → T3 AVal) (fun a0 a1 a2 a3 _ a5 a6 a7 a8 a9 a10 a11 a12 a13 a14 a15 v => N16.mk a0 a1 a2 a3 v a5 a6 a7 a8 a9 a10 a11 a12 a13 a14 a15) e v
def sA3_5 (v : T2 AVal) (e : T3 AVal) : T3 AVal := N16.rec (α := T2 AVal) (motive := fun _ => T2 AVal → T3 AVal) (fun a0 a1 a2 a3 a4 _ a6 a7 a8 a9 a10 a11 a12 a13 a14 a15 v => N16.mk a0 a1 a2 a3 a4 v a6 a7 a8 a9 a10 a11 a12 a13 a14 a15) e v
def sA3_6 (v : T2 AVal) (e : T3 AVal) : T3 AVal := N16.rec (α := T2 AVal) (motive := fun _ => T2 AVal → T3 AVal) (fun a0 a1 a2 a3 a4 a5 _ a7 a8 a9 a10 a11 a12 a13 a14 a15 v => N16.mk a0 a1 a2 a3 a4 a5 v a7 a8 a9 a10 a11 a12 a13 a14 a15) e v
def sA3_7 (v : T2 AVal) (e : T3 AVal) : T3 AVal := N16.rec (α := T2 AVal) (motive := fun _ => T2 AVal → T3 AVal) (fun a0 a1 a2 a3 a4 a5 a6 _ a8 a9 a10 a11 a12 a13 a14 a15 v => N16.mk a0 a1 a2 a3 a4 a5 a6 v a8 a9 a10 a11 a12 a13 a14 a15) e v
def sA3_8 (v : T2 AVal) (e : T3 AVal) : T3 AVal := N16.rec (α := T2 AVal) (motive := fun _ => T2 AVal → T3 AVal) (fun a0 a1 a2 a3 a4 a5 a6 a7 _ a9 a10 a11 a12 a13 a14 a15 v => N16.mk a0 a1 a2 a3 a4 a5 a6 a7 v a9 a10 a11 a12 a13 a14 a15) e v
def sA3_9 (v : T2 AVal) (e : T3 AVal) : T3 AVal := N16.rec (α := T2 AVal) (motive := fun _ => T2 AVal → T3 AVal) (fun a0 a1 a2 a3 a4 a5 a6 a7 a8 _ a10 a11 a12 a13 a14 a15 v => N16.mk a0 a1 a2 a3 a4 a5 a6 a7 a8 v a10 a11 a12 a13 a14 a15) e v
def sA3_10 (v : T2 AVal) (e : T3 AVal) : T3 AVal := N16.rec (α := T2 AVal) (motive := fun _ => T2 AVal → T3 AVal) (fun a0 a1 a2 a3 a4 a5 a6 a7 a8 a9 _ a11 a12 a13 a14 a15 v => N16.mk a0 a1 a2 a3 a4 a5 a6 a7 a8 a9 v a11 a12 a13 a14 a15) e v
def sA3_11 (v : T2 AVal) (e : T3 AVal) : T3 AVal := N16.rec (α := T2 AVal) (motive := fun _ => T2 AVal → T3 AVal) (fun a0 a1 a2 a3 a4 a5 a6 a7 a8 a9 a10 _ a12 a13 a14 a15 v => N16.mk a0 a1 a2 a3 a4 a5 a6 a7 a8 a9 a10 v a12 a13 a14 a15) e v
def sA3_12 (v : T2 AVal) (e : T3 AVal) : T3 AVal := N16.rec (α := T2 AVal) (motive := fun _ => T2 AVal → T3 AVal) (fun a0 a1 a2 a3 a4 a5 a6 a7 a8 a9 a10 a11 _ a13 a14 a15 v => N16.mk a0 a1 a2 a3 a4 a5 a6 a7 a8 a9 a10 a11 v a13 a14 a15) e v
def sA3_13 (v : T2 AVal) (e : T3 AVal) : T3 AVal := N16.rec (α := T2 AVal) (motive := fun _ => T2 AVal → T3 AVal) (fun a0 a1 a2 a3 a4 a5 a6 a7 a8 a9 a10 a11 a12 _ a14 a15 v => N16.mk a0 a1 a2 a3 a4 a5 a6 a7 a8 a9 a10 a11 a12 v a14 a15) e v
def sA3_14 (v : T2 AVal) (e : T3 AVal) : T3 AVal := N16.rec (α := T2 AVal) (motive := fun _ => T2 AVal → T3 AVal) (fun a0 a1 a2 a3 a4 a5 a6 a7 a8 a9 a10 a11 a12 a13 _ a15 v => N16.mk a0 a1 a2 a3 a4 a5 a6 a7 a8 a9 a10 a11 a12 a13 v a15) e v
def sA3_15 (v : T2 AVal) (e : T3 AVal) : T3 AVal := N16.rec (α := T2 AVal) (motive := fun _ => T2 AVal → T3 AVal) (fun a0 a1 a2 a3 a4 a5 a6 a7 a8 a9 a10 a11 a12 a13 a14 _ v => N16.mk a0 a1 a2 a3 a4 a5 a6 a7 a8 a9 a10 a11 a12 a13 a14 v) e v
def gA3 (i : Ix) : T3 AVal → T2 AVal := Ix.rec (motive := fun _ => T3 AVal → T2 AVal) N16.f0 N16.f1 N16.f2 N16.f3 N16.f4 N16.f5 N16.f6 N16.f7 N16.f8 N16.f9 N16.f10 N16.f11 N16.f12 N16.f13 N16.f14 N16.f15 i
def sA3 (i : Ix) : T2 AVal → T3 AVal → T3 AVal := Ix.rec (motive := fun _ => T2 AVal → T3 AVal → T3 AVal) sA3_0 sA3_1 sA3_2 sA3_3 sA3_4 sA3_5 sA3_6 sA3_7 sA3_8 sA3_9 sA3_10 sA3_11 sA3_12 sA3_13 sA3_14 sA3_15 i
theorem gA3_eq (i : Ix) (e : T3 AVal) : gA3 i e = N16.get i e := by cases i <;> rfl
theorem sA3_eq (i : Ix) (v : T2 AVal) (e : T3 AVal) : sA3 i v e = N16.set i v e := by cases i <;> rfl
def sH1_0 (v : OObj) (e : N16 OObj) : N16 OObj := N16.rec (α := OObj) (motive := fun _ => OObj → N16 OObj) (fun _ a1 a2 a3 a4 a5 a6 a7 a8 a9 a10 a11 a12 a13 a14 a15 v => N16.mk v a1 a2 a3 a4 a5 a6 a7 a8 a9 a10 a11 a12 a13 a14 a15) e v
def sH1_1 (v : OObj) (e : N16 OObj) : N16 OObj := N16.rec (α := OObj) (motive := fun _ => OObj → N16 OObj) (fun a0 _ a2 a3 a4 a5 a6 a7 a8 a9 a10 a11 a12 a13 a14 a15 v => N16.mk a0 v a2 a3 a4 a5 a6 a7 a8 a9 a10 a11 a12 a13 a14 a15) e v
def sH1_2 (v : OObj) (e : N16 OObj) : N16 OObj := N16.rec (α := OObj) (motive := fun _ => OObj → N16 OObj) (fun a0 a1 _ a3 a4 a5 a6 a7 a8 a9 a10 a11 a12 a13 a14 a15 v => N16.mk a0 a1 v a3 a4 a5 a6 a7 a8 a9 a10 a11 a12 a13 a14 a15) e v
def sH1_3 (v : OObj) (e : N16 OObj) : N16 OObj := N16.rec (α := OObj) (motive := fun _ => OObj → N16 OObj) (fun a0 a1 a2 _ a4 a5 a6 a7 a8 a9 a10 a11 a12 a13 a14 a15 v => N16.mk a0 a1 a2 v a4 a5 a6 a7 a8 a9 a10 a11 a12 a13 a14 a15) e v
def sH1_4 (v : OObj) (e : N16 OObj) : N16 OObj := N16.rec (α := OObj) (motive := fun _ => OObj → N16 OObj) (fun a0 a1 a2 a3 _ a5 a6 a7 a8 a9 a10 a11 a12 a13 a14 a15 v => N16.mk a0 a1 a2 a3 v a5 a6 a7 a8 a9 a10 a11 a12 a13 a14 a15) e v
def sH1_5 (v : OObj) (e : N16 OObj) : N16 OObj := N16.rec (α := OObj) (motive := fun _ => OObj → N16 OObj) (fun a0 a1 a2 a3 a4 _ a6 a7 a8 a9 a10 a11 a12 a13 a14 a15 v => N16.mk a0 a1 a2 a3 a4 v a6 a7 a8 a9 a10 a11 a12 a13 a14 a15) e v
def sH1_6 (v : OObj) (e : N16 OObj) : N16 OObj := N16.rec (α := OObj) (motive := fun _ => OObj → N16 OObj) (fun a0 a1 a2 a3 a4 a5 _ a7 a8 a9 a10 a11 a12 a13 a14 a15 v => N16.mk a0 a1 a2 a3 a4 a5 v a7 a8 a9 a10 a11 a12 a13 a14 a15) e v
def sH1_7 (v : OObj) (e : N16 OObj) : N16 OObj := N16.rec (α := OObj) (motive := fun _ => OObj → N16 OObj) (fun a0 a1 a2 a3 a4 a5 a6 _ a8 a9 a10 a11 a12 a13 a14 a15 v => N16.mk a0 a1 a2 a3 a4 a5 a6 v a8 a9 a10 a11 a12 a13 a14 a15) e v
def sH1_8 (v : OObj) (e : N16 OObj) : N16 OObj := N16.rec (α := OObj) (motive := fun _ => OObj → N16 OObj) (fun a0 a1 a2 a3 a4 a5 a6 a7 _ a9 a10 a11 a12 a13 a14 a15 v => N16.mk a0 a1 a2 a3 a4 a5 a6 a7 v a9 a10 a11 a12 a13 a14 a15) e v
def sH1_9 (v : OObj) (e : N16 OObj) : N16 OObj := N16.rec (α := OObj) (motive := fun _ => OObj → N16 OObj) (fun a0 a1 a2 a3 a4 a5 a6 a7 a8 _ a10 a11 a12 a13 a14 a15 v => N16.mk a0 a1 a2 a3 a4 a5 a6 a7 a8 v a10 a11 a12 a13 a14 a15) e v
def sH1_10 (v : OObj) (e : N16 OObj) : N16 OObj := N16.rec (α := OObj) (motive := fun _ => OObj → N16 OObj) (fun a0 a1 a2 a3 a4 a5 a6 a7 a8 a9 _ a11 a12 a13 a14 a15 v => N16.mk a0 a1 a2 a3 a4 a5 a6 a7 a8 a9 v a11 a12 a13 a14 a15) e v
def sH1_11 (v : OObj) (e : N16 OObj) : N16 OObj := N16.rec (α := OObj) (motive := fun _ => OObj → N16 OObj) (fun a0 a1 a2 a3 a4 a5 a6 a7 a8 a9 a10 _ a12 a13 a14 a15 v => N16.mk a0 a1 a2 a3 a4 a5 a6 a7 a8 a9 a10 v a12 a13 a14 a15) e v
def sH1_12 (v : OObj) (e : N16 OObj) : N16 OObj := N16.rec (α := OObj) (motive := fun _ => OObj → N16 OObj) (fun a0 a1 a2 a3 a4 a5 a6 a7 a8 a9 a10 a11 _ a13 a14 a15 v => N16.mk a0 a1 a2 a3 a4 a5 a6 a7 a8 a9 a10 a11 v a13 a14 a15) e v
def sH1_13 (v : OObj) (e : N16 OObj) : N16 OObj := N16.rec (α := OObj) (motive := fun _ => OObj → N16 OObj) (fun a0 a1 a2 a3 a4 a5 a6 a7 a8 a9 a10 a11 a12 _ a14 a15 v => N16.mk a0 a1 a2 a3 a4 a5 a6 a7 a8 a9 a10 a11 a12 v a14 a15) e v
def sH1_14 (v : OObj) (e : N16 OObj) : N16 OObj := N16.rec (α := OObj) (motive := fun _ => OObj → N16 OObj) (fun a0 a1 a2 a3 a4 a5 a6 a7 a8 a9 a10 a11 a12 a13 _ a15 v => N16.mk a0 a1 a2 a3 a4 a5 a6 a7 a8 a9 a10 a11 a12 a13 v a15) e v
def sH1_15 (v : OObj) (e : N16 OObj) : N16 OObj := N16.rec (α := OObj) (motive := fun _ => OObj → N16 OObj) (fun a0 a1 a2 a3 a4 a5 a6 a7 a8 a9 a10 a11 a12 a13 a14 _ v => N16.mk a0 a1 a2 a3 a4 a5 a6 a7 a8 a9 a10 a11 a12 a13 a14 v) e v
def gH1 (i : Ix) : N16 OObj → OObj := Ix.rec (motive := fun _ => N16 OObj → OObj) N16.f0 N16.f1 N16.f2 N16.f3 N16.f4 N16.f5 N16.f6 N16.f7 N16.f8 N16.f9 N16.f10 N16.f11 N16.f12 N16.f13 N16.f14 N16.f15 i
def sH1 (i : Ix) : OObj → N16 OObj → N16 OObj := Ix.rec (motive := fun _ => OObj → N16 OObj → N16 OObj) sH1_0 sH1_1 sH1_2 sH1_3 sH1_4 sH1_5 sH1_6 sH1_7 sH1_8 sH1_9 sH1_10 sH1_11 sH1_12 sH1_13 sH1_14 sH1_15 i
theorem gH1_eq (i : Ix) (e : N16 OObj) : gH1 i e = N16.get i e := by cases i <;> rfl
theorem sH1_eq (i : Ix) (v : OObj) (e : N16 OObj) : sH1 i v e = N16.set i v e := by cases i <;> rfl
def sH2_0 (v : N16 OObj) (e : T2 OObj) : T2 OObj := N16.rec (α := N16 OObj) (motive := fun _ => N16 OObj → T2 OObj) (fun _ a1 a2 a3 a4 a5 a6 a7 a8 a9 a10 a11 a12 a13 a14 a15 v => N16.mk v a1 a2 a3 a4 a5 a6 a7 a8 a9 a10 a11 a12 a13 a14 a15) e v
def sH2_1 (v : N16 OObj) (e : T2 OObj) : T2 OObj := N16.rec (α := N16 OObj) (motive := fun _ => N16 OObj → T2 OObj) (fun a0 _ a2 a3 a4 a5 a6 a7 a8 a9 a10 a11 a12 a13 a14 a15 v => N16.mk a0 v a2 a3 a4 a5 a6 a7 a8 a9 a10 a11 a12 a13 a14 a15) e v
def sH2_2 (v : N16 OObj) (e : T2 OObj) : T2 OObj := N16.rec (α := N16 OObj) (motive := fun _ => N16 OObj → T2 OObj) (fun a0 a1 _ a3 a4 a5 a6 a7 a8 a9 a10 a11 a12 a13 a14 a15 v => N16.mk a0 a1 v a3 a4 a5 a6 a7 a8 a9 a10 a11 a12 a13 a14 a15) e v
def sH2_3 (v : N16 OObj) (e : T2 OObj) : T2 OObj := N16.rec (α := N16 OObj) (motive := fun _ => N16 OObj → T2 OObj) (fun a0 a1 a2 _ a4 a5 a6 a7 a8 a9 a10 a11 a12 a13 a14 a15 v => N16.mk a0 a1 a2 v a4 a5 a6 a7 a8 a9 a10 a11 a12 a13 a14 a15) e v
def sH2_4 (v : N16 OObj) (e : T2 OObj) : T2 OObj := N16.rec (α := N16 OObj) (motive := fun _ => N16 OObj → T2 OObj) (fun a0 a1 a2 a3 _ a5 a6 a7 a8 a9 a10 a11 a12 a13 a14 a15 v => N16.mk a0 a1 a2 a3 v a5 a6 a7 a8 a9 a10 a11 a12 a13 a14 a15) e v
def sH2_5 (v : N16 OObj) (e : T2 OObj) : T2 OObj := N16.rec (α := N16 OObj) (motive := fun _ => N16 OObj → T2 OObj) (fun a0 a1 a2 a3 a4 _ a6 a7 a8 a9 a10 a11 a12 a13 a14 a15 v => N16.mk a0 a1 a2 a3 a4 v a6 a7 a8 a9 a10 a11 a12 a13 a14 a15) e v
def sH2_6 (v : N16 OObj) (e : T2 OObj) : T2 OObj := N16.rec (α := N16 OObj) (motive := fun _ => N16 OObj → T2 OObj) (fun a0 a1 a2 a3 a4 a5 _ a7 a8 a9 a10 a11 a12 a13 a14 a15 v => N16.mk a0 a1 a2 a3 a4 a5 v a7 a8 a9 a10 a11 a12 a13 a14 a15) e v
def sH2_7 (v : N16 OObj) (e : T2 OObj) : T2 OObj := N16.rec (α := N16 OObj) (motive := fun _ => N16 OObj → T2 OObj) (fun a0 a1 a2 a3 a4 a5 a6 _ a8 a9 a10 a11 a12 a13 a14 a15 v => N16.mk a0 a1 a2 a3 a4 a5 a6 v a8 a9 a10 a11 a12 a13 a14 a15) e v
def sH2_8 (v : N16 OObj) (e : T2 OObj) : T2 OObj := N16.rec (α := N16 OObj) (motive := fun _ => N16 OObj → T2 OObj) (fun a0 a1 a2 a3 a4 a5 a6 a7 _ a9 a10 a11 a12 a13 a14 a15 v => N16.mk a0 a1 a2 a3 a4 a5 a6 a7 v a9 a10 a11 a12 a13 a14 a15) e v
def sH2_9 (v : N16 OObj) (e : T2 OObj) : T2 OObj := N16.rec (α := N16 OObj) (motive := fun _ => N16 OObj → T2 OObj) (fun a0 a1 a2 a3 a4 a5 a6 a7 a8 _ a10 a11 a12 a13 a14 a15 v => N16.mk a0 a1 a2 a3 a4 a5 a6 a7 a8 v a10 a11 a12 a13 a14 a15) e v
def sH2_10 (v : N16 OObj) (e : T2 OObj) : T2 OObj := N16.rec (α := N16 OObj) (motive := fun _ => N16 OObj → T2 OObj) (fun a0 a1 a2 a3 a4 a5 a6 a7 a8 a9 _ a11 a12 a13 a14 a15 v => N16.mk a0 a1 a2 a3 a4 a5 a6 a7 a8 a9 v a11 a12 a13 a14 a15) e v
def sH2_11 (v : N16 OObj) (e : T2 OObj) : T2 OObj := N16.rec (α := N16 OObj) (motive := fun _ => N16 OObj → T2 OObj) (fun a0 a1 a2 a3 a4 a5 a6 a7 a8 a9 a10 _ a12 a13 a14 a15 v => N16.mk a0 a1 a2 a3 a4 a5 a6 a7 a8 a9 a10 v a12 a13 a14 a15) e v
def sH2_12 (v : N16 OObj) (e : T2 OObj) : T2 OObj := N16.rec (α := N16 OObj) (motive := fun _ => N16 OObj → T2 OObj) (fun a0 a1 a2 a3 a4 a5 a6 a7 a8 a9 a10 a11 _ a13 a14 a15 v => N16.mk a0 a1 a2 a3 a4 a5 a6 a7 a8 a9 a10 a11 v a13 a14 a15) e v
def sH2_13 (v : N16 OObj) (e : T2 OObj) : T2 OObj := N16.rec (α := N16 OObj) (motive := fun _ => N16 OObj → T2 OObj) (fun a0 a1 a2 a3 a4 a5 a6 a7 a8 a9 a10 a11 a12 _ a14 a15 v => N16.mk a0 a1 a2 a3 a4 a5 a6 a7 a8 a9 a10 a11 a12 v a14 a15) e v
def sH2_14 (v : N16 OObj) (e : T2 OObj) : T2 OObj := N16.rec (α := N16 OObj) (motive := fun _ => N16 OObj → T2 OObj) (fun a0 a1 a2 a3 a4 a5 a6 a7 a8 a9 a10 a11 a12 a13 _ a15 v => N16.mk a0 a1 a2 a3 a4 a5 a6 a7 a8 a9 a10 a11 a12 a13 v a15) e v
def sH2_15 (v : N16 OObj) (e : T2 OObj) : T2 OObj := N16.rec (α := N16 OObj) (motive := fun _ => N16 OObj → T2 OObj) (fun a0 a1 a2 a3 a4 a5 a6 a7 a8 a9 a10 a11 a12 a13 a14 _ v => N16.mk a0 a1 a2 a3 a4 a5 a6 a7 a8 a9 a10 a11 a12 a13 a14 v) e v
def gH2 (i : Ix) : T2 OObj → N16 OObj := Ix.rec (motive := fun _ => T2 OObj → N16 OObj) N16.f0 N16.f1 N16.f2 N16.f3 N16.f4 N16.f5 N16.f6 N16.f7 N16.f8 N16.f9 N16.f10 N16.f11 N16.f12 N16.f13 N16.f14 N16.f15 i
def sH2 (i : Ix) : N16 OObj → T2 OObj → T2 OObj := Ix.rec (motive := fun _ => N16 OObj → T2 OObj → T2 OObj) sH2_0 sH2_1 sH2_2 sH2_3 sH2_4 sH2_5 sH2_6 sH2_7 sH2_8 sH2_9 sH2_10 sH2_11 sH2_12 sH2_13 sH2_14 sH2_15 i
theorem gH2_eq (i : Ix) (e : T2 OObj) : gH2 i e = N16.get i e := by cases i <;> rfl
theorem sH2_eq (i : Ix) (v : N16 OObj) (e : T2 OObj) : sH2 i v e = N16.set i v e := by cases i <;> rfl
def sH3_0 (v : T2 OObj) (e : T3 OObj) : T3 OObj := N16.rec (α := T2 OObj) (motive := fun _ => T2 OObj → T3 OObj) (fun _ a1 a2 a3 a4 a5 a6 a7 a8 a9 a10 a11 a12 a13 a14 a15 v => N16.mk v a1 a2 a3 a4 a5 a6 a7 a8 a9 a10 a11 a12 a13 a14 a15) e v
def sH3_1 (v : T2 OObj) (e : T3 OObj) : T3 OObj := N16.rec (α := T2 OObj) (motive := fun _ => T2 OObj → T3 OObj) (fun a0 _ a2 a3 a4 a5 a6 a7 a8 a9 a10 a11 a12 a13 a14 a15 v => N16.mk a0 v a2 a3 a4 a5 a6 a7 a8 a9 a10 a11 a12 a13 a14 a15) e v
def sH3_2 (v : T2 OObj) (e : T3 OObj) : T3 OObj := N16.rec (α := T2 OObj) (motive := fun _ => T2 OObj → T3 OObj) (fun a0 a1 _ a3 a4 a5 a6 a7 a8 a9 a10 a11 a12 a13 a14 a15 v => N16.mk a0 a1 v a3 a4 a5 a6 a7 a8 a9 a10 a11 a12 a13 a14 a15) e v
def sH3_3 (v : T2 OObj) (e : T3 OObj) : T3 OObj := N16.rec (α := T2 OObj) (motive := fun _ => T2 OObj → T3 OObj) (fun a0 a1 a2 _ a4 a5 a6 a7 a8 a9 a10 a11 a12 a13 a14 a15 v => N16.mk a0 a1 a2 v a4 a5 a6 a7 a8 a9 a10 a11 a12 a13 a14 a15) e v
def sH3_4 (v : T2 OObj) (e : T3 OObj) : T3 OObj := N16.rec (α := T2 OObj) (motive := fun _ => T2 OObj → T3 OObj) (fun a0 a1 a2 a3 _ a5 a6 a7 a8 a9 a10 a11 a12 a13 a14 a15 v => N16.mk a0 a1 a2 a3 v a5 a6 a7 a8 a9 a10 a11 a12 a13 a14 a15) e v
def sH3_5 (v : T2 OObj) (e : T3 OObj) : T3 OObj := N16.rec (α := T2 OObj) (motive := fun _ => T2 OObj → T3 OObj) (fun a0 a1 a2 a3 a4 _ a6 a7 a8 a9 a10 a11 a12 a13 a14 a15 v => N16.mk a0 a1 a2 a3 a4 v a6 a7 a8 a9 a10 a11 a12 a13 a14 a15) e v
def sH3_6 (v : T2 OObj) (e : T3 OObj) : T3 OObj := N16.rec (α := T2 OObj) (motive := fun _ => T2 OObj → T3 OObj) (fun a0 a1 a2 a3 a4 a5 _ a7 a8 a9 a10 a11 a12 a13 a14 a15 v => N16.mk a0 a1 a2 a3 a4 a5 v a7 a8 a9 a10 a11 a12 a13 a14 a15) e v
def sH3_7 (v : T2 OObj) (e : T3 OObj) : T3 OObj := N16.rec (α := T2 OObj) (motive := fun _ => T2 OObj → T3 OObj) (fun a0 a1 a2 a3 a4 a5 a6 _ a8 a9 a10 a11 a12 a13 a14 a15 v => N16.mk a0 a1 a2 a3 a4 a5 a6 v a8 a9 a10 a11 a12 a13 a14 a15) e v
def sH3_8 (v : T2 OObj) (e : T3 OObj) : T3 OObj := N16.rec (α := T2 OObj) (motive := fun _ => T2 OObj → T3 OObj) (fun a0 a1 a2 a3 a4 a5 a6 a7 _ a9 a10 a11 a12 a13 a14 a15 v => N16.mk a0 a1 a2 a3 a4 a5 a6 a7 v a9 a10 a11 a12 a13 a14 a15) e v
def sH3_9 (v : T2 OObj) (e : T3 OObj) : T3 OObj := N16.rec (α := T2 OObj) (motive := fun _ => T2 OObj → T3 OObj) (fun a0 a1 a2 a3 a4 a5 a6 a7 a8 _ a10 a11 a12 a13 a14 a15 v => N16.mk a0 a1 a2 a3 a4 a5 a6 a7 a8 v a10 a11 a12 a13 a14 a15) e v
def sH3_10 (v : T2 OObj) (e : T3 OObj) : T3 OObj := N16.rec (α := T2 OObj) (motive := fun _ => T2 OObj → T3 OObj) (fun a0 a1 a2 a3 a4 a5 a6 a7 a8 a9 _ a11 a12 a13 a14 a15 v => N16.mk a0 a1 a2 a3 a4 a5 a6 a7 a8 a9 v a11 a12 a13 a14 a15) e v
def sH3_11 (v : T2 OObj) (e : T3 OObj) : T3 OObj := N16.rec (α := T2 OObj) (motive := fun _ => T2 OObj → T3 OObj) (fun a0 a1 a2 a3 a4 a5 a6 a7 a8 a9 a10 _ a12 a13 a14 a15 v => N16.mk a0 a1 a2 a3 a4 a5 a6 a7 a8 a9 a10 v a12 a13 a14 a15) e v
def sH3_12 (v : T2 OObj) (e : T3 OObj) : T3 OObj := N16.rec (α := T2 OObj) (motive := fun _ => T2 OObj → T3 OObj) (fun a0 a1 a2 a3 a4 a5 a6 a7 a8 a9 a10 a11 _ a13 a14 a15 v => N16.mk a0 a1 a2 a3 a4 a5 a6 a7 a8 a9 a10 a11 v a13 a14 a15) e v
def sH3_13 (v : T2 OObj) (e : T3 OObj) : T3 OObj := N16.rec (α := T2 OObj) (motive := fun _ => T2 OObj → T3 OObj) (fun a0 a1 a2 a3 a4 a5 a6 a7 a8 a9 a10 a11 a12 _ a14 a15 v => N16.mk a0 a1 a2 a3 a4 a5 a6 a7 a8 a9 a10 a11 a12 v a14 a15) e v
def sH3_14 (v : T2 OObj) (e : T3 OObj) : T3 OObj := N16.rec (α := T2 OObj) (motive := fun _ => T2 OObj → T3 OObj) (fun a0 a1 a2 a3 a4 a5 a6 a7 a8 a9 a10 a11 a12 a13 _ a15 v => N16.mk a0 a1 a2 a3 a4 a5 a6 a7 a8 a9 a10 a11 a12 a13 v a15) e v
def sH3_15 (v : T2 OObj) (e : T3 OObj) : T3 OObj := N16.rec (α := T2 OObj) (motive := fun _ => T2 OObj → T3 OObj) (fun a0 a1 a2 a3 a4 a5 a6 a7 a8 a9 a10 a11 a12 a13 a14 _ v => N16.mk a0 a1 a2 a3 a4 a5 a6 a7 a8 a9 a10 a11 a12 a13 a14 v) e v
def gH3 (i : Ix) : T3 OObj → T2 OObj := Ix.rec (motive := fun _ => T3 OObj → T2 OObj) N16.f0 N16.f1 N16.f2 N16.f3 N16.f4 N16.f5 N16.f6 N16.f7 N16.f8 N16.f9 N16.f10 N16.f11 N16.f12 N16.f13 N16.f14 N16.f15 i
def sH3 (i : Ix) : T2 OObj → T3 OObj → T3 OObj := Ix.rec (motive := fun _ => T2 OObj → T3 OObj → T3 OObj) sH3_0 sH3_1 sH3_2 sH3_3 sH3_4 sH3_5 sH3_6 sH3_7 sH3_8 sH3_9 sH3_10 sH3_11 sH3_12 sH3_13 sH3_14 sH3_15 i
theorem gH3_eq (i : Ix) (e : T3 OObj) : gH3 i e = N16.get i e := by cases i <;> rfl
theorem sH3_eq (i : Ix) (v : T2 OObj) (e : T3 OObj) : sH3 i v e = N16.set i v e := by cases i <;> rfl
def sH4_0 (v : T3 OObj) (e : N16 (T3 OObj)) : N16 (T3 OObj) := N16.rec (α := T3 OObj) (motive := fun _ => T3 OObj → N16 (T3 OObj)) (fun _ a1 a2 a3 a4 a5 a6 a7 a8 a9 a10 a11 a12 a13 a14 a15 v => N16.mk v a1 a2 a3 a4 a5 a6 a7 a8 a9 a10 a11 a12 a13 a14 a15) e v
def sH4_1 (v : T3 OObj) (e : N16 (T3 OObj)) : N16 (T3 OObj) := N16.rec (α := T3 OObj) (motive := fun _ => T3 OObj → N16 (T3 OObj)) (fun a0 _ a2 a3 a4 a5 a6 a7 a8 a9 a10 a11 a12 a13 a14 a15 v => N16.mk a0 v a2 a3 a4 a5 a6 a7 a8 a9 a10 a11 a12 a13 a14 a15) e v
def sH4_2 (v : T3 OObj) (e : N16 (T3 OObj)) : N16 (T3 OObj) := N16.rec (α := T3 OObj) (motive := fun _ => T3 OObj → N16 (T3 OObj)) (fun a0 a1 _ a3 a4 a5 a6 a7 a8 a9 a10 a11 a12 a13 a14 a15 v => N16.mk a0 a1 v a3 a4 a5 a6 a7 a8 a9 a10 a11 a12 a13 a14 a15) e v
def sH4_3 (v : T3 OObj) (e : N16 (T3 OObj)) : N16 (T3 OObj) := N16.rec (α := T3 OObj) (motive := fun _ => T3 OObj → N16 (T3 OObj)) (fun a0 a1 a2 _ a4 a5 a6 a7 a8 a9 a10 a11 a12 a13 a14 a15 v => N16.mk a0 a1 a2 v a4 a5 a6 a7 a8 a9 a10 a11 a12 a13 a14 a15) e v
def sH4_4 (v : T3 OObj) (e : N16 (T3 OObj)) : N16 (T3 OObj) := N16.rec (α := T3 OObj) (motive := fun _ => T3 OObj → N16 (T3 OObj)) (fun a0 a1 a2 a3 _ a5 a6 a7 a8 a9 a10 a11 a12 a13 a14 a15 v => N16.mk a0 a1 a2 a3 v a5 a6 a7 a8 a9 a10 a11 a12 a13 a14 a15) e v
def sH4_5 (v : T3 OObj) (e : N16 (T3 OObj)) : N16 (T3 OObj) := N16.rec (α := T3 OObj) (motive := fun _ => T3 OObj → N16 (T3 OObj)) (fun a0 a1 a2 a3 a4 _ a6 a7 a8 a9 a10 a11 a12 a13 a14 a15 v => N16.mk a0 a1 a2 a3 a4 v a6 a7 a8 a9 a10 a11 a12 a13 a14 a15) e v
def sH4_6 (v : T3 OObj) (e : N16 (T3 OObj)) : N16 (T3 OObj) := N16.rec (α := T3 OObj) (motive := fun _ => T3 OObj → N16 (T3 OObj)) (fun a0 a1 a2 a3 a4 a5 _ a7 a8 a9 a10 a11 a12 a13 a14 a15 v => N16.mk a0 a1 a2 a3 a4 a5 v a7 a8 a9 a10 a11 a12 a13 a14 a15) e v
def sH4_7 (v : T3 OObj) (e : N16 (T3 OObj)) : N16 (T3 OObj) := N16.rec (α := T3 OObj) (motive := fun _ => T3 OObj → N16 (T3 OObj)) (fun a0 a1 a2 a3 a4 a5 a6 _ a8 a9 a10 a11 a12 a13 a14 a15 v => N16.mk a0 a1 a2 a3 a4 a5 a6 v a8 a9 a10 a11 a12 a13 a14 a15) e v
def sH4_8 (v : T3 OObj) (e : N16 (T3 OObj)) : N16 (T3 OObj) := N16.rec (α := T3 OObj) (motive := fun _ => T3 OObj → N16 (T3 OObj)) (fun a0 a1 a2 a3 a4 a5 a6 a7 _ a9 a10 a11 a12 a13 a14 a15 v => N16.mk a0 a1 a2 a3 a4 a5 a6 a7 v a9 a10 a11 a12 a13 a14 a15) e v
def sH4_9 (v : T3 OObj) (e : N16 (T3 OObj)) : N16 (T3 OObj) := N16.rec (α := T3 OObj) (motive := fun _ => T3 OObj → N16 (T3 OObj)) (fun a0 a1 a2 a3 a4 a5 a6 a7 a8 _ a10 a11 a12 a13 a14 a15 v => N16.mk a0 a1 a2 a3 a4 a5 a6 a7 a8 v a10 a11 a12 a13 a14 a15) e v
def sH4_10 (v : T3 OObj) (e : N16 (T3 OObj)) : N16 (T3 OObj) := N16.rec (α := T3 OObj) (motive := fun _ => T3 OObj → N16 (T3 OObj)) (fun a0 a1 a2 a3 a4 a5 a6 a7 a8 a9 _ a11 a12 a13 a14 a15 v => N16.mk a0 a1 a2 a3 a4 a5 a6 a7 a8 a9 v a11 a12 a13 a14 a15) e v
def sH4_11 (v : T3 OObj) (e : N16 (T3 OObj)) : N16 (T3 OObj) := N16.rec (α := T3 OObj) (motive := fun _ => T3 OObj → N16 (T3 OObj)) (fun a0 a1 a2 a3 a4 a5 a6 a7 a8 a9 a10 _ a12 a13 a14 a15 v => N16.mk a0 a1 a2 a3 a4 a5 a6 a7 a8 a9 a10 v a12 a13 a14 a15) e v
def sH4_12 (v : T3 OObj) (e : N16 (T3 OObj)) : N16 (T3 OObj) := N16.rec (α := T3 OObj) (motive := fun _ => T3 OObj → N16 (T3 OObj)) (fun a0 a1 a2 a3 a4 a5 a6 a7 a8 a9 a10 a11 _ a13 a14 a15 v => N16.mk a0 a1 a2 a3 a4 a5 a6 a7 a8 a9 a10 a11 v a13 a14 a15) e v
def sH4_13 (v : T3 OObj) (e : N16 (T3 OObj)) : N16 (T3 OObj) := N16.rec (α := T3 OObj) (motive := fun _ => T3 OObj → N16 (T3 OObj)) (fun a0 a1 a2 a3 a4 a5 a6 a7 a8 a9 a10 a11 a12 _ a14 a15 v => N16.mk a0 a1 a2 a3 a4 a5 a6 a7 a8 a9 a10 a11 a12 v a14 a15) e v
def sH4_14 (v : T3 OObj) (e : N16 (T3 OObj)) : N16 (T3 OObj) := N16.rec (α := T3 OObj) (motive := fun _ => T3 OObj → N16 (T3 OObj)) (fun a0 a1 a2 a3 a4 a5 a6 a7 a8 a9 a10 a11 a12 a13 _ a15 v => N16.mk a0 a1 a2 a3 a4 a5 a6 a7 a8 a9 a10 a11 a12 a13 v a15) e v
def sH4_15 (v : T3 OObj) (e : N16 (T3 OObj)) : N16 (T3 OObj) := N16.rec (α := T3 OObj) (motive := fun _ => T3 OObj → N16 (T3 OObj)) (fun a0 a1 a2 a3 a4 a5 a6 a7 a8 a9 a10 a11 a12 a13 a14 _ v => N16.mk a0 a1 a2 a3 a4 a5 a6 a7 a8 a9 a10 a11 a12 a13 a14 v) e v
def gH4 (i : Ix) : N16 (T3 OObj) → T3 OObj := Ix.rec (motive := fun _ => N16 (T3 OObj) → T3 OObj) N16.f0 N16.f1 N16.f2 N16.f3 N16.f4 N16.f5 N16.f6 N16.f7 N16.f8 N16.f9 N16.f10 N16.f11 N16.f12 N16.f13 N16.f14 N16.f15 i
def sH4 (i : Ix) : T3 OObj → N16 (T3 OObj) → N16 (T3 OObj) := Ix.rec (motive := fun _ => T3 OObj → N16 (T3 OObj) → N16 (T3 OObj)) sH4_0 sH4_1 sH4_2 sH4_3 sH4_4 sH4_5 sH4_6 sH4_7 sH4_8 sH4_9 sH4_10 sH4_11 sH4_12 sH4_13 sH4_14 sH4_15 i
theorem gH4_eq (i : Ix) (e : N16 (T3 OObj)) : gH4 i e = N16.get i e := by cases i <;> rfl
theorem sH4_eq (i : Ix) (v : T3 OObj) (e : N16 (T3 OObj)) : sH4 i v e = N16.set i v e := by cases i <;> rfl
def sH5_0 (v : N16 (T3 OObj)) (e : T5 OObj) : T5 OObj := N16.rec (α := N16 (T3 OObj)) (motive := fun _ => N16 (T3 OObj) → T5 OObj) (fun _ a1 a2 a3 a4 a5 a6 a7 a8 a9 a10 a11 a12 a13 a14 a15 v => N16.mk v a1 a2 a3 a4 a5 a6 a7 a8 a9 a10 a11 a12 a13 a14 a15) e v
def sH5_1 (v : N16 (T3 OObj)) (e : T5 OObj) : T5 OObj := N16.rec (α := N16 (T3 OObj)) (motive := fun _ => N16 (T3 OObj) → T5 OObj) (fun a0 _ a2 a3 a4 a5 a6 a7 a8 a9 a10 a11 a12 a13 a14 a15 v => N16.mk a0 v a2 a3 a4 a5 a6 a7 a8 a9 a10 a11 a12 a13 a14 a15) e v
def sH5_2 (v : N16 (T3 OObj)) (e : T5 OObj) : T5 OObj := N16.rec (α := N16 (T3 OObj)) (motive := fun _ => N16 (T3 OObj) → T5 OObj) (fun a0 a1 _ a3 a4 a5 a6 a7 a8 a9 a10 a11 a12 a13 a14 a15 v => N16.mk a0 a1 v a3 a4 a5 a6 a7 a8 a9 a10 a11 a12 a13 a14 a15) e v
def sH5_3 (v : N16 (T3 OObj)) (e : T5 OObj) : T5 OObj := N16.rec (α := N16 (T3 OObj)) (motive := fun _ => N16 (T3 OObj) → T5 OObj) (fun a0 a1 a2 _ a4 a5 a6 a7 a8 a9 a10 a11 a12 a13 a14 a15 v => N16.mk a0 a1 a2 v a4 a5 a6 a7 a8 a9 a10 a11 a12 a13 a14 a15) e v
def sH5_4 (v : N16 (T3 OObj)) (e : T5 OObj) : T5 OObj := N16.rec (α := N16 (T3 OObj)) (motive := fun _ => N16 (T3 OObj) → T5 OObj) (fun a0 a1 a2 a3 _ a5 a6 a7 a8 a9 a10 a11 a12 a13 a14 a15 v => N16.mk a0 a1 a2 a3 v a5 a6 a7 a8 a9 a10 a11 a12 a13 a14 a15) e v
def sH5_5 (v : N16 (T3 OObj)) (e : T5 OObj) : T5 OObj := N16.rec (α := N16 (T3 OObj)) (motive := fun _ => N16 (T3 OObj) → T5 OObj) (fun a0 a1 a2 a3 a4 _ a6 a7 a8 a9 a10 a11 a12 a13 a14 a15 v => N16.mk a0 a1 a2 a3 a4 v a6 a7 a8 a9 a10 a11 a12 a13 a14 a15) e v
def sH5_6 (v : N16 (T3 OObj)) (e : T5 OObj) : T5 OObj := N16.rec (α := N16 (T3 OObj)) (motive := fun _ => N16 (T3 OObj) → T5 OObj) (fun a0 a1 a2 a3 a4 a5 _ a7 a8 a9 a10 a11 a12 a13 a14 a15 v => N16.mk a0 a1 a2 a3 a4 a5 v a7 a8 a9 a10 a11 a12 a13 a14 a15) e v
def sH5_7 (v : N16 (T3 OObj)) (e : T5 OObj) : T5 OObj := N16.rec (α := N16 (T3 OObj)) (motive := fun _ => N16 (T3 OObj) → T5 OObj) (fun a0 a1 a2 a3 a4 a5 a6 _ a8 a9 a10 a11 a12 a13 a14 a15 v => N16.mk a0 a1 a2 a3 a4 a5 a6 v a8 a9 a10 a11 a12 a13 a14 a15) e v
def sH5_8 (v : N16 (T3 OObj)) (e : T5 OObj) : T5 OObj := N16.rec (α := N16 (T3 OObj)) (motive := fun _ => N16 (T3 OObj) → T5 OObj) (fun a0 a1 a2 a3 a4 a5 a6 a7 _ a9 a10 a11 a12 a13 a14 a15 v => N16.mk a0 a1 a2 a3 a4 a5 a6 a7 v a9 a10 a11 a12 a13 a14 a15) e v
def sH5_9 (v : N16 (T3 OObj)) (e : T5 OObj) : T5 OObj := N16.rec (α := N16 (T3 OObj)) (motive := fun _ => N16 (T3 OObj) → T5 OObj) (fun a0 a1 a2 a3 a4 a5 a6 a7 a8 _ a10 a11 a12 a13 a14 a15 v => N16.mk a0 a1 a2 a3 a4 a5 a6 a7 a8 v a10 a11 a12 a13 a14 a15) e v
def sH5_10 (v : N16 (T3 OObj)) (e : T5 OObj) : T5 OObj := N16.rec (α := N16 (T3 OObj)) (motive := fun _ => N16 (T3 OObj) → T5 OObj) (fun a0 a1 a2 a3 a4 a5 a6 a7 a8 a9 _ a11 a12 a13 a14 a15 v => N16.mk a0 a1 a2 a3 a4 a5 a6 a7 a8 a9 v a11 a12 a13 a14 a15) e v
def sH5_11 (v : N16 (T3 OObj)) (e : T5 OObj) : T5 OObj := N16.rec (α := N16 (T3 OObj)) (motive := fun _ => N16 (T3 OObj) → T5 OObj) (fun a0 a1 a2 a3 a4 a5 a6 a7 a8 a9 a10 _ a12 a13 a14 a15 v => N16.mk a0 a1 a2 a3 a4 a5 a6 a7 a8 a9 a10 v a12 a13 a14 a15) e v
def sH5_12 (v : N16 (T3 OObj)) (e : T5 OObj) : T5 OObj := N16.rec (α := N16 (T3 OObj)) (motive := fun _ => N16 (T3 OObj) → T5 OObj) (fun a0 a1 a2 a3 a4 a5 a6 a7 a8 a9 a10 a11 _ a13 a14 a15 v => N16.mk a0 a1 a2 a3 a4 a5 a6 a7 a8 a9 a10 a11 v a13 a14 a15) e v
def sH5_13 (v : N16 (T3 OObj)) (e : T5 OObj) : T5 OObj := N16.rec (α := N16 (T3 OObj)) (motive := fun _ => N16 (T3 OObj) → T5 OObj) (fun a0 a1 a2 a3 a4 a5 a6 a7 a8 a9 a10 a11 a12 _ a14 a15 v => N16.mk a0 a1 a2 a3 a4 a5 a6 a7 a8 a9 a10 a11 a12 v a14 a15) e v
def sH5_14 (v : N16 (T3 OObj)) (e : T5 OObj) : T5 OObj := N16.rec (α := N16 (T3 OObj)) (motive := fun _ => N16 (T3 OObj) → T5 OObj) (fun a0 a1 a2 a3 a4 a5 a6 a7 a8 a9 a10 a11 a12 a13 _ a15 v => N16.mk a0 a1 a2 a3 a4 a5 a6 a7 a8 a9 a10 a11 a12 a13 v a15) e v
def sH5_15 (v : N16 (T3 OObj)) (e : T5 OObj) : T5 OObj := N16.rec (α := N16 (T3 OObj)) (motive := fun _ => N16 (T3 OObj) → T5 OObj) (fun a0 a1 a2 a3 a4 a5 a6 a7 a8 a9 a10 a11 a12 a13 a14 _ v => N16.mk a0 a1 a2 a3 a4 a5 a6 a7 a8 a9 a10 a11 a12 a13 a14 v) e v
def gH5 (i : Ix) : T5 OObj → N16 (T3 OObj) := Ix.rec (motive := fun _ => T5 OObj → N16 (T3 OObj)) N16.f0 N16.f1 N16.f2 N16.f3 N16.f4 N16.f5 N16.f6 N16.f7 N16.f8 N16.f9 N16.f10 N16.f11 N16.f12 N16.f13 N16.f14 N16.f15 i
def sH5 (i : Ix) : N16 (T3 OObj) → T5 OObj → T5 OObj := Ix.rec (motive := fun _ => N16 (T3 OObj) → T5 OObj → T5 OObj) sH5_0 sH5_1 sH5_2 sH5_3 sH5_4 sH5_5 sH5_6 sH5_7 sH5_8 sH5_9 sH5_10 sH5_11 sH5_12 sH5_13 sH5_14 sH5_15 i
theorem gH5_eq (i : Ix) (e : T5 OObj) : gH5 i e = N16.get i e := by cases i <;> rfl
theorem sH5_eq (i : Ix) (v : N16 (T3 OObj)) (e : T5 OObj) : sH5 i v e = N16.set i v e := by cases i <;> rfl
def hget (b : Nat) (H : Heap) : Option AObj := gH1 (dg 0 b) (gH2 (dg 4 b) (gH3 (dg 8 b) (gH4 (dg 12 b) (gH5 (dg 16 b) H))))
theorem hget_eq (b : Nat) (H : Heap) : hget b H = get5 b H := by
 unfold hget
 rw [gH1_eq, gH2_eq, gH3_eq, gH4_eq, gH5_eq]
 rfl
def hset (b : Nat) (v : Option AObj) (H : Heap) : Heap :=
 sH5 (dg 16 b) (sH4 (dg 12 b) (sH3 (dg 8 b) (sH2 (dg 4 b) (sH1 (dg 0 b) v (gH2 (dg 4 b) (gH3 (dg 8 b) (gH4 (dg 12 b) (gH5 (dg 16 b) H))))) (gH3 (dg 8 b) (gH4 (dg 12 b) (gH5 (dg 16 b) H)))) (gH4 (dg 12 b) (gH5 (dg 16 b) H))) (gH5 (dg 16 b) H)) H
theorem hset_eq (b : Nat) (v : Option AObj) (H : Heap) : hset b v H = set5 b v H := by
 unfold hset
 rw [sH5_eq, sH4_eq, sH3_eq, sH2_eq, sH1_eq, gH2_eq, gH3_eq, gH4_eq, gH5_eq]
 rfl
namespace CT
def getF (c : CT) : Nat → AVal :=
 CT.rec (motive := fun _ => Nat → AVal) (fun t i => gA1 (dg 0 i) t) (fun t i => gA1 (dg 0 i) (gA2 (dg 4 i) t)) (fun t i => gA1 (dg 0 i) (gA2 (dg 4 i) (gA3 (dg 8 i) t))) c
theorem getF_eq (c : CT) (i : Nat) : getF c i = get i c := by
 cases c with
 | c1 t => show gA1 (dg 0 i) t = _; rw [gA1_eq]; rfl
 | c2 t => show gA1 (dg 0 i) (gA2 (dg 4 i) t) = _; rw [gA1_eq, gA2_eq]; rfl
 | c3 t => show gA1 (dg 0 i) (gA2 (dg 4 i) (gA3 (dg 8 i) t)) = _; rw [gA1_eq, gA2_eq, gA3_eq]; rfl
def setF (c : CT) : Nat → AVal → CT :=
 CT.rec (motive := fun _ => Nat → AVal → CT) (fun t i v => .c1 (sA1 (dg 0 i) v t)) (fun t i v => .c2 (sA2 (dg 4 i) (sA1 (dg 0 i) v (gA2 (dg 4 i) t)) t))
  (fun t i v => .c3 (sA3 (dg 8 i) (sA2 (dg 4 i) (sA1 (dg 0 i) v (gA2 (dg 4 i) (gA3 (dg 8 i) t))) (gA3 (dg 8 i) t)) t)) c
theorem setF_eq (c : CT) (i : Nat) (v : AVal) : setF c i v = set i v c := by
 cases c with
 | c1 t => show CT.c1 (sA1 (dg 0 i) v t) = _; rw [sA1_eq]; rfl
 | c2 t => show CT.c2 (sA2 (dg 4 i) (sA1 (dg 0 i) v (gA2 (dg 4 i) t)) t) = _; rw [sA1_eq, sA2_eq, gA2_eq]; rfl
 | c3 t =>
  show CT.c3 (sA3 (dg 8 i) (sA2 (dg 4 i) (sA1 (dg 0 i) v (gA2 (dg 4 i) (gA3 (dg 8 i) t))) (gA3 (dg 8 i) t)) t) = _
  rw [sA1_eq, sA2_eq, sA3_eq, gA2_eq, gA3_eq]; rfl
def slabF (c : CT) (n : Nat) : Nat → List AVal := Nat.rec (motive := fun _ => CT → Nat → List AVal) (fun _ _ => []) (fun _ ih c i => getF c i :: ih c (Nat.succ i)) n c
theorem slabF_eq (c : CT) : ∀ (n i : Nat), slabF c n i = slab c n i
 | 0, _ => rfl
 | n + 1, i => by
  show getF c i :: slabF c n (i + 1) = _
  rw [getF_eq, slabF_eq c n]; rfl
end CT
end
end Go.Ev
end
section
namespace Go.Ev
variable [GTab]
noncomputable section
structure St where
 call : CallK
 H : Heap
 nx : Nat
 dfs : Dfs
 rc : Option AMode
abbrev FK := Env → St → Bool
abbrev FX := AExit → Env → St → Bool
def St.with2 (st : St) (H : Heap) (nx : Nat) : St := St.rec (motive := fun _ => Heap → Nat → St) (fun c _ _ d r H nx => .mk c H nx d r) st H nx
theorem St.with2_eq (st : St) (H : Heap) (nx : Nat) : st.with2 H nx = ⟨st.call, H, nx, st.dfs, st.rc⟩ := by cases st; rfl
def unc (c : CallK) (k : FK) : Env → Heap → Nat → Dfs → Option AMode → Bool := fun env H nx dfs rc => k env ⟨c, H, nx, dfs, rc⟩
def uncX (c : CallK) (K : FX) : Kont := fun e env H nx dfs rc => K e env ⟨c, H, nx, dfs, rc⟩
def vBool (v : AVal) : Bool → Bool → Bool :=
 AVal.rec (motive_1 := fun _ => Bool → Bool → Bool) (motive_2 := fun _ => Unit) (fun _ _ => false) (fun b yes no => Bool.rec no yes b) (fun _ _ _ _ => false) (fun _ _ _ _ => false) (fun _ _ _ _ => false) (fun _ _ => false) (fun _ _ _ _ _ _ _ => false) (fun _ _ => false) (fun _ _ _ => false) (fun _ _ => false) (fun _ _ _ _ _ _ _ => false) (fun _ _ => false) (fun _ _ _ _ _ => false) (fun _ _ => false) (fun _ _ _ _ => false) (fun _ _ _ _ => false) (fun _ _ _ _ _ => false) (fun _ _ => false) (fun _ _ _ _ => false) (fun _ _ _ => false) () (fun _ _ _ _ => ()) v
def vFork (v : AVal) : Bool → Bool → Bool :=
 AVal.rec (motive_1 := fun _ => Bool → Bool → Bool) (motive_2 := fun _ => Unit) (fun _ _ => false) (fun b yes no => Bool.rec no yes b) (fun _ _ _ _ => false) (fun _ _ _ _ => false) (fun _ _ _ _ => false) (fun _ _ => false) (fun _ _ _ _ _ _ _ => false) (fun _ _ => false) (fun _ _ _ => false) (fun _ _ => false) (fun _ _ _ _ _ _ _ => false) (fun _ _ => false) (fun _ _ _ _ _ => false) (fun _ _ => false) (fun _ _ _ _ => false) (fun _ _ _ _ => false) (fun _ _ _ _ _ => false) (fun yes no => Bool.rec false no yes) (fun _ _ _ _ => false) (fun _ _ _ => false) () (fun _ _ _ _ => ()) v
def vInt (v : AVal) : (IntKind → Int → Bool) → Bool :=
 AVal.rec (motive_1 := fun _ => (IntKind → Int → Bool) → Bool) (motive_2 := fun _ => Unit) (fun _ => false) (fun _ _ => false) (fun k n f => f k n) (fun _ _ _ => false) (fun _ _ _ => false) (fun _ => false) (fun _ _ _ _ _ _ => false) (fun _ => false) (fun _ _ => false) (fun _ => false) (fun _ _ _ _ _ _ => false) (fun _ => false) (fun _ _ _ _ => false) (fun _ => false) (fun _ _ _ => false) (fun _ _ _ => false) (fun _ _ _ _ => false) (fun _ => false) (fun _ _ _ => false) (fun _ _ => false) () (fun _ _ _ _ => ()) v
def vIntS (v : AVal) : (IntKind → Int → Bool) → Bool → Bool :=
 AVal.rec (motive_1 := fun _ => (IntKind → Int → Bool) → Bool → Bool) (motive_2 := fun _ => Unit) (fun _ _ => false) (fun _ _ _ => false) (fun k n f _ => f k n) (fun _ _ _ _ => false) (fun _ _ _ _ => false) (fun _ _ => false) (fun _ _ _ _ _ _ _ => false) (fun _ _ => false) (fun _ _ _ => false) (fun _ _ => false) (fun _ _ _ _ _ _ _ => false) (fun _ _ => false) (fun _ _ _ _ _ => false) (fun _ _ => false) (fun _ _ _ _ => false) (fun _ _ _ _ => false) (fun _ _ _ _ s => s) (fun _ _ => false) (fun _ _ _ _ => false) (fun _ _ _ => false) () (fun _ _ _ _ => ()) v
def vStrS (v : AVal) : (Nat → Nat → Bool) → Bool → Bool :=
 AVal.rec (motive_1 := fun _ => (Nat → Nat → Bool) → Bool → Bool) (motive_2 := fun _ => Unit) (fun _ _ => false) (fun _ _ _ => false) (fun _ _ _ _ => false) (fun n x f _ => f n x) (fun _ _ _ _ => false) (fun _ _ => false) (fun _ _ _ _ _ _ _ => false) (fun _ _ => false) (fun _ _ _ => false) (fun _ _ => false) (fun _ _ _ _ _ _ _ => false) (fun _ _ => false) (fun _ _ _ _ _ => false) (fun _ _ => false) (fun _ _ _ _ => false) (fun _ _ _ _ => false) (fun _ _ _ _ _ => false) (fun _ _ => false) (fun _ _ _ _ => false) (fun _ _ s => s) () (fun _ _ _ _ => ()) v
def vStr (v : AVal) : (Nat → Nat → Bool) → Bool :=
 AVal.rec (motive_1 := fun _ => (Nat → Nat → Bool) → Bool) (motive_2 := fun _ => Unit) (fun _ => false) (fun _ _ => false) (fun _ _ _ => false) (fun n x f => f n x) (fun _ _ _ => false) (fun _ => false) (fun _ _ _ _ _ _ => false) (fun _ => false) (fun _ _ => false) (fun _ => false) (fun _ _ _ _ _ _ => false) (fun _ => false) (fun _ _ _ _ => false) (fun _ => false) (fun _ _ _ => false) (fun _ _ _ => false) (fun _ _ _ _ => false) (fun _ => false) (fun _ _ _ => false) (fun _ _ => false) () (fun _ _ _ _ => ()) v
def vPtr (v : AVal) : (Nat → Nat → Bool) → Bool :=
 AVal.rec (motive_1 := fun _ => (Nat → Nat → Bool) → Bool) (motive_2 := fun _ => Unit) (fun _ => false) (fun _ _ => false) (fun _ _ _ => false) (fun _ _ _ => false) (fun b off f => f b off) (fun _ => false) (fun _ _ _ _ _ _ => false) (fun _ => false) (fun _ _ => false) (fun _ => false) (fun _ _ _ _ _ _ => false) (fun _ => false) (fun _ _ _ _ => false) (fun _ => false) (fun _ _ _ => false) (fun _ _ _ => false) (fun _ _ _ _ => false) (fun _ => false) (fun _ _ _ => false) (fun _ _ => false) () (fun _ _ _ _ => ()) v
def vPtrG (v : AVal) : (Nat → Nat → Bool) → (Nat → Nat → Bool) → Bool :=
 AVal.rec (motive_1 := fun _ => (Nat → Nat → Bool) → (Nat → Nat → Bool) → Bool) (motive_2 := fun _ => Unit) (fun _ _ => false) (fun _ _ _ => false) (fun _ _ _ _ => false) (fun _ _ _ _ => false) (fun b off f _ => f b off) (fun _ _ => false) (fun _ _ _ _ _ _ _ => false) (fun _ _ => false) (fun _ _ _ => false) (fun _ _ => false) (fun _ _ _ _ _ _ _ => false) (fun _ _ => false) (fun _ _ _ _ _ => false) (fun _ _ => false) (fun _ _ _ _ => false) (fun _ _ _ _ => false) (fun _ _ _ _ _ => false) (fun _ _ => false) (fun g off _ f => f g off) (fun _ _ _ => false) () (fun _ _ _ _ => ()) v
def vSl (v : AVal) : (Nat → Nat → Nat → Bool) → Bool :=
 AVal.rec (motive_1 := fun _ => (Nat → Nat → Nat → Bool) → Bool) (motive_2 := fun _ => Unit) (fun _ => false) (fun _ _ => false) (fun _ _ _ => false) (fun _ _ _ => false) (fun _ _ _ => false) (fun _ => false) (fun b off n _ _ f => f b off n) (fun _ => false) (fun _ _ => false) (fun _ => false) (fun _ _ _ _ _ _ => false) (fun _ => false) (fun _ _ _ _ => false) (fun _ => false) (fun _ _ _ => false) (fun _ _ _ => false) (fun _ _ _ _ => false) (fun _ => false) (fun _ _ _ => false) (fun _ _ => false) () (fun _ _ _ _ => ()) v
def vLenT (v : AVal) : (Nat → Bool) → Bool :=
 AVal.rec (motive_1 := fun _ => (Nat → Bool) → Bool) (motive_2 := fun _ => Unit) (fun _ => false) (fun _ _ => false) (fun _ _ _ => false) (fun n _ f => f n) (fun _ _ _ => false) (fun _ => false) (fun _ _ _ _ _ _ => false) (fun _ => false) (fun _ _ => false) (fun _ => false) (fun _ _ _ _ _ _ => false) (fun _ => false) (fun _ _ _ _ => false) (fun _ => false) (fun _ _ _ => false) (fun _ _ _ => false) (fun _ _ _ _ => false) (fun _ => false) (fun _ _ _ => false) (fun _ _ => false) () (fun _ _ _ _ => ()) v
def vLenS (v : AVal) : (Nat → Bool) → Bool :=
 AVal.rec (motive_1 := fun _ => (Nat → Bool) → Bool) (motive_2 := fun _ => Unit) (fun _ => false) (fun _ _ => false) (fun _ _ _ => false) (fun _ _ _ => false) (fun _ _ _ => false) (fun _ => false) (fun _ _ n _ _ f => f n) (fun f => f 0) (fun _ _ => false) (fun _ => false) (fun _ _ _ _ _ _ => false) (fun _ => false) (fun _ _ _ _ => false) (fun _ => false) (fun _ _ _ => false) (fun _ _ _ => false) (fun _ _ _ _ => false) (fun _ => false) (fun _ _ _ => false) (fun _ _ => false) () (fun _ _ _ _ => ()) v
def vAgg (v : AVal) : (List AVal → Bool) → Bool :=
 AVal.rec (motive_1 := fun _ => (List AVal → Bool) → Bool) (motive_2 := fun _ => Unit) (fun _ => false) (fun _ _ => false) (fun _ _ _ => false) (fun _ _ _ => false) (fun _ _ _ => false) (fun _ => false) (fun _ _ _ _ _ _ => false) (fun _ => false) (fun _ _ => false) (fun _ => false) (fun _ _ _ _ _ _ => false) (fun _ => false) (fun _ _ _ _ => false) (fun _ => false) (fun cs _ f => f cs) (fun _ _ _ => false) (fun _ _ _ _ => false) (fun _ => false) (fun _ _ _ => false) (fun _ _ => false) () (fun _ _ _ _ => ()) v
def vTup (v : AVal) : (List AVal → Bool) → Bool :=
 AVal.rec (motive_1 := fun _ => (List AVal → Bool) → Bool) (motive_2 := fun _ => Unit) (fun _ => false) (fun _ _ => false) (fun _ _ _ => false) (fun _ _ _ => false) (fun _ _ _ => false) (fun _ => false) (fun _ _ _ _ _ _ => false) (fun _ => false) (fun _ _ => false) (fun _ => false) (fun _ _ _ _ _ _ => false) (fun _ => false) (fun _ _ _ _ => false) (fun _ => false) (fun _ _ _ => false) (fun cs _ f => f cs) (fun _ _ _ _ => false) (fun _ => false) (fun _ _ _ => false) (fun _ _ => false) () (fun _ _ _ _ => ()) v
def vChk (v : AVal) : (AVal → Bool) → Bool :=
 AVal.rec (motive_1 := fun _ => (AVal → Bool) → Bool) (motive_2 := fun _ => Unit) (fun _ => false) (fun _ _ => false) (fun _ _ _ => false) (fun _ _ _ => false) (fun b off f => f (.ptr b off)) (fun _ => false) (fun _ _ _ _ _ _ => false) (fun _ => false) (fun _ _ => false) (fun _ => false) (fun _ _ _ _ _ _ => false) (fun _ => false) (fun t v _ f => f (.iface t v)) (fun _ => false) (fun _ _ _ => false) (fun _ _ _ => false) (fun _ _ _ _ => false) (fun _ => false) (fun g off f => f (.gptr g off)) (fun _ _ => false) () (fun _ _ _ _ => ()) v
def vCell (v : AVal) : (AVal → Bool) → Bool :=
 AVal.rec (motive_1 := fun _ => (AVal → Bool) → Bool) (motive_2 := fun _ => Unit) (fun _ => false) (fun x0 f => f (.bool x0)) (fun x0 x1 f => f (.int x0 x1)) (fun x0 x1 f => f (.str x0 x1)) (fun x0 x1 f => f (.ptr x0 x1)) (fun f => f .nilPtr) (fun x0 x1 x2 x3 x4 f => f (.slice x0 x1 x2 x3 x4)) (fun f => f .nilSlice) (fun x0 f => f (.map x0)) (fun f => f .nilMap) (fun x0 x1 x2 _ _ f => f (.func x0 x1 x2)) (fun f => f .nilFunc) (fun x0 x1 _ f => f (.iface x0 x1)) (fun f => f .nilIface) (fun _ _ _ => false) (fun _ _ _ => false) (fun x0 x1 x2 f => f (.anyInt x0 x1 x2)) (fun f => f .anyBool) (fun x0 x1 f => f (.gptr x0 x1)) (fun x0 f => f (.anyStr x0)) () (fun _ _ _ _ => ()) v
def vOne (v : AVal) : (AVal → Bool) → Bool :=
 AVal.rec (motive_1 := fun _ => (AVal → Bool) → Bool) (motive_2 := fun _ => Unit) (fun _ => false) (fun x0 f => f (.bool x0)) (fun x0 x1 f => f (.int x0 x1)) (fun x0 x1 f => f (.str x0 x1)) (fun x0 x1 f => f (.ptr x0 x1)) (fun f => f .nilPtr) (fun x0 x1 x2 x3 x4 f => f (.slice x0 x1 x2 x3 x4)) (fun f => f .nilSlice) (fun x0 f => f (.map x0)) (fun f => f .nilMap) (fun x0 x1 x2 _ _ f => f (.func x0 x1 x2)) (fun f => f .nilFunc) (fun x0 x1 _ f => f (.iface x0 x1)) (fun f => f .nilIface) (fun l _ f => List.rec (motive := fun _ => (AVal → Bool) → Bool) (fun _ => false) (fun v t _ f => List.rec (f v) (fun _ _ _ => false) t) l f) (fun _ _ _ => false) (fun x0 x1 x2 f => f (.anyInt x0 x1 x2)) (fun f => f .anyBool) (fun x0 x1 f => f (.gptr x0 x1)) (fun x0 f => f (.anyStr x0)) () (fun _ _ _ _ => ()) v
def vGuard (v : AVal) : Bool → Bool → Bool → Bool :=
 AVal.rec (motive_1 := fun _ => Bool → Bool → Bool → Bool) (motive_2 := fun _ => Unit) (fun _ _ _ => false) (fun b want yes no => Bool.rec (Bool.rec yes no want) (Bool.rec no yes want) b) (fun _ _ _ _ _ => false) (fun _ _ _ _ _ => false) (fun _ _ _ _ _ => false) (fun _ _ _ => false) (fun _ _ _ _ _ _ _ _ => false) (fun _ _ _ => false) (fun _ _ _ _ => false) (fun _ _ _ => false) (fun _ _ _ _ _ _ _ _ => false) (fun _ _ _ => false) (fun _ _ _ _ _ _ => false) (fun _ _ _ => false) (fun _ _ _ _ _ => false) (fun l _ _ _ no => List.rec no (fun _ _ _ => false) l) (fun _ _ _ _ _ _ => false) (fun _ _ _ => false) (fun _ _ _ _ _ => false) (fun _ _ _ _ => false) () (fun _ _ _ _ => ()) v
theorem vBool_ok {v : AVal} {yes no : Bool} (h : vBool v yes no = true) : (v = .bool true ∧ yes = true) ∨ (v = .bool false ∧ no = true) := by
 cases v <;> first | exact Bool.noConfusion h | skip
 rename_i b
 cases b
 ·exact .inr ⟨rfl, h⟩
 ·exact .inl ⟨rfl, h⟩
theorem vFork_ok {v : AVal} {yes no : Bool} (h : vFork v yes no = true) : (v = .bool true ∧ yes = true) ∨ (v = .bool false ∧ no = true) ∨ (v = .anyBool ∧ yes = true ∧ no = true) := by
 cases v <;> first | exact Bool.noConfusion h | skip
 ·rename_i b
  cases b
  ·exact .inr (.inl ⟨rfl, h⟩)
  ·exact .inl ⟨rfl, h⟩
 ·cases yes with
  | false => exact Bool.noConfusion h
  | true => exact .inr (.inr ⟨rfl, rfl, h⟩)
theorem vInt_ok {v : AVal} {f : IntKind → Int → Bool} (h : vInt v f = true) : ∃ k n, v = .int k n ∧ f k n = true := by
 cases v <;> first | exact Bool.noConfusion h | exact ⟨_, _, rfl, h⟩
theorem vIntS_ok {v : AVal} {f : IntKind → Int → Bool} {s : Bool} (h : vIntS v f s = true) : (∃ k n, v = .int k n ∧ f k n = true) ∨ s = true := by
 cases v <;> first | exact Bool.noConfusion h | exact .inl ⟨_, _, rfl, h⟩ | exact .inr h
theorem vStrS_ok {v : AVal} {f : Nat → Nat → Bool} {s : Bool} (h : vStrS v f s = true) : (∃ n x, v = .str n x ∧ f n x = true) ∨ s = true := by
 cases v <;> first | exact Bool.noConfusion h | exact .inl ⟨_, _, rfl, h⟩ | exact .inr h
theorem vStr_ok {v : AVal} {f : Nat → Nat → Bool} (h : vStr v f = true) : ∃ n x, v = .str n x ∧ f n x = true := by
 cases v <;> first | exact Bool.noConfusion h | exact ⟨_, _, rfl, h⟩
theorem vPtr_ok {v : AVal} {f : Nat → Nat → Bool} (h : vPtr v f = true) : ∃ b off, v = .ptr b off ∧ f b off = true := by
 cases v <;> first | exact Bool.noConfusion h | exact ⟨_, _, rfl, h⟩
theorem vPtrG_ok {v : AVal} {f g : Nat → Nat → Bool} (h : vPtrG v f g = true) : (∃ b off, v = .ptr b off ∧ f b off = true) ∨ (∃ b off, v = .gptr b off ∧ g b off = true) := by
 cases v <;> first | exact Bool.noConfusion h | exact .inl ⟨_, _, rfl, h⟩ | exact .inr ⟨_, _, rfl, h⟩
theorem vSl_ok {v : AVal} {f : Nat → Nat → Nat → Bool} (h : vSl v f = true) : ∃ b off n esz full, v = .slice b off n esz full ∧ f b off n = true := by
 cases v <;> first | exact Bool.noConfusion h | exact ⟨_, _, _, _, _, rfl, h⟩
theorem vLenT_ok {v : AVal} {f : Nat → Bool} (h : vLenT v f = true) : ∃ n x, v = .str n x ∧ f n = true := by
 cases v <;> first | exact Bool.noConfusion h | exact ⟨_, _, rfl, h⟩
theorem vLenS_ok {v : AVal} {f : Nat → Bool} (h : vLenS v f = true) : (∃ b off n esz full, v = .slice b off n esz full ∧ f n = true) ∨ (v = .nilSlice ∧ f 0 = true) := by
 cases v <;> first | exact Bool.noConfusion h | exact .inl ⟨_, _, _, _, _, rfl, h⟩ | exact .inr ⟨rfl, h⟩
theorem vAgg_ok {v : AVal} {f : List AVal → Bool} (h : vAgg v f = true) : ∃ cs, v = .agg cs ∧ f cs = true := by
 cases v <;> first | exact Bool.noConfusion h | exact ⟨_, rfl, h⟩
theorem vTup_ok {v : AVal} {f : List AVal → Bool} (h : vTup v f = true) : ∃ cs, v = .tuple cs ∧ f cs = true := by
 cases v <;> first | exact Bool.noConfusion h | exact ⟨_, rfl, h⟩
theorem vChk_ok {v : AVal} {f : AVal → Bool} (h : vChk v f = true) : ((∃ b off, v = .ptr b off) ∨ (∃ t u, v = .iface t u) ∨ ∃ g off, v = .gptr g off) ∧ f v = true := by
 cases v <;> first | exact Bool.noConfusion h | exact ⟨.inl ⟨_, _, rfl⟩, h⟩ | exact ⟨.inr (.inl ⟨_, _, rfl⟩), h⟩ | exact ⟨.inr (.inr ⟨_, _, rfl⟩), h⟩
theorem vCell_ok {v : AVal} {f : AVal → Bool} (h : vCell v f = true) : acells v = some [v] ∧ cellv v = true ∧ f v = true := by
 cases v <;> first | exact Bool.noConfusion h | exact ⟨rfl, rfl, h⟩
theorem vOne_ok {v : AVal} {f : AVal → Bool} (h : vOne v f = true) : ∃ c, acells v = some [c] ∧ f c = true := by
 cases v <;> first | exact Bool.noConfusion h | exact ⟨_, rfl, h⟩ | skip
 rename_i l
 cases l with
 | nil => exact Bool.noConfusion h
 | cons c l =>
  cases l with
  | nil => exact ⟨c, rfl, h⟩
  | cons d l => exact Bool.noConfusion h
theorem vGuard_ok {v : AVal} {want yes no : Bool} (h : vGuard v want yes no = true) : (∃ b, v = .bool b ∧ ((b = want ∧ yes = true) ∨ (b ≠ want ∧ no = true))) ∨ (v = .tuple [] ∧ no = true) := by
 cases v <;> first | exact Bool.noConfusion h | skip
 ·rename_i b
  refine .inl ⟨b, rfl, ?_⟩
  cases b <;> cases want <;> first | exact .inl ⟨rfl, h⟩ | exact .inr ⟨(by decide), h⟩
 ·rename_i l
  cases l with
  | nil => exact .inr ⟨rfl, h⟩
  | cons a l => exact Bool.noConfusion h
inductive SelR | mk (f : Env → N16 AVal)
inductive SelA | mk (f : N16 AVal → AVal)
inductive PutR | mk (f : N16 AVal → Env → Env)
inductive PutA | mk (f : AVal → N16 AVal → N16 AVal)
inductive Acc | mk (f : Env → AVal)
inductive Dst | mk (f : AVal → Env → Env)
inductive Ars | mk (f : Env → List AVal)
inductive Gd | mk (f : Env → Bool → Bool → Bool)
def SelR.fn : SelR → Env → N16 AVal | .mk f => f
def SelA.fn : SelA → N16 AVal → AVal | .mk f => f
def PutR.fn : PutR → N16 AVal → Env → Env | .mk f => f
def PutA.fn : PutA → AVal → N16 AVal → N16 AVal | .mk f => f
def Acc.fn : Acc → Env → AVal | .mk f => f
def Dst.fn : Dst → AVal → Env → Env | .mk f => f
def Ars.fn : Ars → Env → List AVal | .mk f => f
def Gd.fn : Gd → Env → Bool → Bool → Bool | .mk f => f
def selR (i : Ix) : SelR := Ix.rec (motive := fun _ => SelR) (.mk N16.f0) (.mk N16.f1) (.mk N16.f2) (.mk N16.f3) (.mk N16.f4) (.mk N16.f5) (.mk N16.f6) (.mk N16.f7) (.mk N16.f8) (.mk N16.f9) (.mk N16.f10) (.mk N16.f11) (.mk N16.f12) (.mk N16.f13) (.mk N16.f14) (.mk N16.f15) i
def selA (i : Ix) : SelA := Ix.rec (motive := fun _ => SelA) (.mk N16.f0) (.mk N16.f1) (.mk N16.f2) (.mk N16.f3) (.mk N16.f4) (.mk N16.f5) (.mk N16.f6) (.mk N16.f7) (.mk N16.f8) (.mk N16.f9) (.mk N16.f10) (.mk N16.f11) (.mk N16.f12) (.mk N16.f13) (.mk N16.f14) (.mk N16.f15) i
def putR (i : Ix) : PutR := Ix.rec (motive := fun _ => PutR) (.mk sA2_0) (.mk sA2_1) (.mk sA2_2) (.mk sA2_3) (.mk sA2_4) (.mk sA2_5) (.mk sA2_6) (.mk sA2_7) (.mk sA2_8) (.mk sA2_9) (.mk sA2_10) (.mk sA2_11) (.mk sA2_12) (.mk sA2_13) (.mk sA2_14) (.mk sA2_15) i
def putA (i : Ix) : PutA := Ix.rec (motive := fun _ => PutA) (.mk sA1_0) (.mk sA1_1) (.mk sA1_2) (.mk sA1_3) (.mk sA1_4) (.mk sA1_5) (.mk sA1_6) (.mk sA1_7) (.mk sA1_8) (.mk sA1_9) (.mk sA1_10) (.mk sA1_11) (.mk sA1_12) (.mk sA1_13) (.mk sA1_14) (.mk sA1_15) i
theorem selR_eq (i : Ix) : (selR i).fn = N16.get i := by cases i <;> rfl
theorem selA_eq (i : Ix) : (selA i).fn = N16.get i := by cases i <;> rfl
theorem putR_eq (i : Ix) : (putR i).fn = N16.set i := by cases i <;> rfl
theorem putA_eq (i : Ix) : (putA i).fn = N16.set i := by cases i <;> rfl
def accOf (t : Nat) : Acc := match selR (dg 4 t), selA (dg 0 t) with | .mk r, .mk a => .mk fun env => a (r env)
theorem accOf_eq (t : Nat) : (accOf t).fn = get2 t := by
 unfold accOf
 have h1 := selR_eq (dg 4 t)
 have h2 := selA_eq (dg 0 t)
 cases e1 : selR (dg 4 t) with | mk r => cases e2 : selA (dg 0 t) with | mk a =>
  rw [e1] at h1; rw [e2] at h2
  have h1' : r = N16.get (dg 4 t) := h1
  have h2' : a = N16.get (dg 0 t) := h2
  subst h1' h2'
  rfl
def dstOf (t : Nat) : Dst := match selR (dg 4 t), putA (dg 0 t), putR (dg 4 t) with | .mk r, .mk a, .mk p => .mk fun v env => p (a v (r env)) env
theorem dstOf_eq (t : Nat) : (dstOf t).fn = set2 t := by
 unfold dstOf
 have h1 := selR_eq (dg 4 t)
 have h2 := putA_eq (dg 0 t)
 have h3 := putR_eq (dg 4 t)
 cases e1 : selR (dg 4 t) with | mk r => cases e2 : putA (dg 0 t) with | mk a => cases e3 : putR (dg 4 t) with | mk p =>
  rw [e1] at h1; rw [e2] at h2; rw [e3] at h3
  have h1' : r = N16.get (dg 4 t) := h1
  have h2' : a = N16.set (dg 0 t) := h2
  have h3' : p = N16.set (dg 4 t) := h3
  subst h1' h2' h3'
  rfl
def bx (x : Operand) : Acc :=
 match x with
 | .tmp t => match Nat.ble t 255 with
  | true => accOf t
  | false => .mk fun _ => .und
 | .const v => .mk fun _ => ofVal v
 | .global g => .mk fun _ => .gptr g 0
 | .func f => .mk fun _ => .func (.func f) [] []
theorem bx_eq (x : Operand) (env : Env) : (bx x).fn env = aev env x := by
 cases x with
 | tmp t =>
  show (match Nat.ble t 255 with | true => accOf t | false => .mk fun _ => .und : Acc).fn env = Bool.rec .und (get2 t env) (Nat.ble t 255)
  cases Nat.ble t 255
  ·rfl
  ·show (accOf t).fn env = get2 t env
   rw [accOf_eq]
 | const v => rfl
 | global g => rfl
 | func f => rfl
def bd (d : Option Nat) : Dst := match d with
 | none => .mk fun _ env => env
 | some d => dstOf d
theorem bd_eq (d : Option Nat) (v : AVal) (env : Env) : (bd d).fn v env = put d v env := by
 cases d with
 | none => rfl
 | some d => show (dstOf d).fn v env = set2 d v env; rw [dstOf_eq]
def bas (l : List Operand) : Ars := match l with
 | [] => .mk fun _ => []
 | x :: l => match bx x, bas l with | .mk f, .mk g => .mk fun env => f env :: g env
theorem bas_eq : ∀ (l : List Operand) (env : Env), (bas l).fn env = l.map (aev env)
 | [], _ => rfl
 | x :: l, env => by
  have h1 := bx_eq x env
  have h2 := bas_eq l env
  unfold bas
  cases e1 : bx x with | mk f => cases e2 : bas l with | mk g =>
   rw [e1] at h1; rw [e2] at h2
   show f env :: g env = aev env x :: l.map (aev env)
   rw [← h1, ← h2]; rfl
def bg (ops : Array Oper) (g : Nat × Bool) : Gd :=
 match (ops[g.1]?).bind (·.dst) with
 | some t => match Nat.ble t 255 with
  | true => match accOf t with | .mk f => (match g.2 with
   | true => .mk fun env yes no => vGuard (f env) true yes no
   | false => .mk fun env yes no => vGuard (f env) false yes no)
  | false => .mk fun _ _ _ => false
 | none => .mk fun _ _ no => no
theorem bg_ok {ops : Array Oper} {g : Nat × Bool} {env : Env} {yes no : Bool} (h : (bg ops g).fn env yes no = true) :
  (wantedA ops (some g) env = some true ∧ yes = true) ∨ (wantedA ops (some g) env = some false ∧ no = true) := by
 obtain ⟨j, want⟩ := g
 unfold bg at h
 unfold wantedA
 simp only at h ⊢
 cases e : (ops[j]?).bind (·.dst) with
 | none => rw [e] at h; exact .inr ⟨rfl, h⟩
 | some t =>
  simp only [e] at h ⊢
  cases ht : Nat.ble t 255 with
  | false => simp only [ht] at h; exact Bool.noConfusion h
  | true =>
   simp only [ht] at h ⊢
   have ha := accOf_eq t
   cases ea : accOf t with | mk f =>
    rw [ea] at ha
    have ha' : f = get2 t := ha
    subst ha'
    simp only [ea] at h
    have h' : vGuard (get2 t env) want yes no = true := by cases want <;> exact h
    rcases vGuard_ok h' with ⟨b, hb, hh⟩ | ⟨hb, hh⟩
    ·rw [hb]
     rcases hh with ⟨rfl, hy⟩ | ⟨hne, hn⟩
     ·exact .inl ⟨(by cases b <;> rfl), hy⟩
     ·refine .inr ⟨?_, hn⟩
      cases b <;> cases want <;> first | rfl | exact absurd rfl hne
    ·rw [hb]; exact .inr ⟨rfl, hh⟩
end
end Go.Ev
end
section
namespace Go.Ev
variable [GTab] {P : Program} {o : Oper} {env : Env}
noncomputable section
inductive CV
 | no
 | yes (f : Env → St → (AVal → Bool) → Bool)
def VOK (P : Program) (o : Oper) (f : Env → St → (AVal → Bool) → Bool) : Prop :=
 ∀ env st k, f env st k = true → ∃ v, aop P o (aev env) st.H st.nx = some (.val v st.H st.nx) ∧ k v = true
def oK (r : Option ARes) : (AVal → Bool) → Bool :=
 Option.rec (motive := fun _ => (AVal → Bool) → Bool) (fun _ => false) (fun r => ARes.rec (motive := fun _ => (AVal → Bool) → Bool) (fun v _ _ k => k v) (fun _ _ _ => false) (fun _ _ _ => false) (fun _ _ => false) (fun _ => false) r) r
theorem oK_ok {r : Option ARes} {k : AVal → Bool} (h : oK r k = true) : ∃ v H nx, r = some (.val v H nx) ∧ k v = true := by
 cases r with
 | none => exact Bool.noConfusion h
 | some r => cases r <;> first | exact Bool.noConfusion h | exact ⟨_, _, _, rfl, h⟩
def gen (g : (Operand → AVal) → Heap → Nat → Option ARes) : CV := .yes fun env st k => oK (g (aev env) st.H st.nx) k
theorem gen_ok {g : (Operand → AVal) → Heap → Nat → Option ARes} (hg : aop P o = g) (hc : cls o.op = 0) : VOK P o fun env st k => oK (g (aev env) st.H st.nx) k := by
 intro env st k h
 obtain ⟨v, H, nx, e, hk⟩ := oK_ok h
 rw [← hg] at e
 obtain ⟨rfl, rfl⟩ := cls0_heap hc e
 exact ⟨v, e, hk⟩
def hCell (o : Option AObj) : Nat → (AVal → Bool) → Bool :=
 Option.rec (motive := fun _ => Nat → (AVal → Bool) → Bool) (fun _ _ => false) (fun ob => AObj.rec (motive := fun _ => Nat → (AVal → Bool) → Bool) (fun n ct _ _ off k => Bool.rec false (k (CT.getF ct off)) (Nat.ble (Nat.succ off) n)) (fun _ _ _ _ => false) ob) o
theorem hCell_ok {o : Option AObj} {off : Nat} {k : AVal → Bool} (h : hCell o off k = true) : ∃ n ct olds s, o = some (.cells n ct olds s) ∧ Nat.ble (Nat.succ off) n = true ∧ k (CT.get off ct) = true := by
 cases o with
 | none => exact Bool.noConfusion h
 | some ob =>
  cases ob with
  | map es c => exact Bool.noConfusion h
  | cells n ct olds s =>
   have h' : (Bool.rec false (k (CT.getF ct off)) (Nat.ble (Nat.succ off) n) : Bool) = true := h
   rw [CT.getF_eq] at h'
   refine ⟨n, ct, olds, s, rfl, ?_⟩
   cases hb : Nat.ble (Nat.succ off) n with
   | false => rw [hb] at h'; exact Bool.noConfusion h'
   | true => rw [hb] at h'; exact ⟨rfl, h'⟩
def hSlab (o : Option AObj) : Nat → Nat → (AVal → Bool) → Bool :=
 Option.rec (motive := fun _ => Nat → Nat → (AVal → Bool) → Bool) (fun _ _ _ => false) (fun ob => AObj.rec (motive := fun _ => Nat → Nat → (AVal → Bool) → Bool) (fun n ct _ _ off sz k => Bool.rec false (k (.agg (CT.slabF ct sz off))) (Nat.ble (Nat.add off sz) n)) (fun _ _ _ _ _ => false) ob) o
theorem hSlab_ok {o : Option AObj} {off sz : Nat} {k : AVal → Bool} (h : hSlab o off sz k = true) : ∃ n ct olds s, o = some (.cells n ct olds s) ∧ Nat.ble (Nat.add off sz) n = true ∧ k (.agg (CT.slab ct sz off)) = true := by
 cases o with
 | none => exact Bool.noConfusion h
 | some ob =>
  cases ob with
  | map es c => exact Bool.noConfusion h
  | cells n ct olds s =>
   have h' : (Bool.rec false (k (.agg (CT.slabF ct sz off))) (Nat.ble (Nat.add off sz) n) : Bool) = true := h
   rw [CT.slabF_eq] at h'
   refine ⟨n, ct, olds, s, rfl, ?_⟩
   cases hb : Nat.ble (Nat.add off sz) n with
   | false => rw [hb] at h'; exact Bool.noConfusion h'
   | true => rw [hb] at h'; exact ⟨rfl, h'⟩
def gCell (o : Option (List AVal)) : Nat → (AVal → Bool) → Bool := Option.rec (motive := fun _ => Nat → (AVal → Bool) → Bool) (fun _ _ => false) (fun l off k => List.rec (motive := fun _ => Nat → Bool) (fun _ => false) (fun v _ ih i => Nat.rec (motive := fun _ => Bool) (k v) (fun j _ => ih j) i) l off) o
theorem gNth : ∀ {l : List AVal} {i : Nat} {k : AVal → Bool}, (List.rec (motive := fun _ => Nat → Bool) (fun _ => false) (fun v _ ih i => Nat.rec (motive := fun _ => Bool) (k v) (fun j _ => ih j) i) l i : Bool) = true → ∃ v, l[i]? = some v ∧ k v = true
 | [], i, k, h => Bool.noConfusion h
 | v :: l, 0, k, h => ⟨v, rfl, h⟩
 | v :: l, i + 1, k, h => by
  obtain ⟨u, e, hk⟩ := gNth (l := l) (i := i) (k := k) h
  exact ⟨u, by simpa using e, hk⟩
theorem gCell_ok {o : Option (List AVal)} {off : Nat} {k : AVal → Bool} (h : gCell o off k = true) : ∃ l v, o = some l ∧ l[off]? = some v ∧ k v = true := by
 cases o with
 | none => exact Bool.noConfusion h
 | some l =>
  obtain ⟨v, e, hk⟩ := gNth (l := l) (i := off) (k := k) h
  exact ⟨l, v, rfl, e, hk⟩
theorem brec_ok {a b : Bool} (h : (Bool.rec false a b : Bool) = true) : b = true ∧ a = true := by
 cases b with
 | false => exact Bool.noConfusion h
 | true => exact ⟨rfl, h⟩
def ikN (k : IntKind) : Nat := IntKind.rec 0 1 2 3 4 5 6 7 k
theorem ikN_inj {k j : IntKind} (h : Nat.beq (ikN k) (ikN j) = true) : k = j := by
 cases k <;> cases j <;> first | rfl | exact Bool.noConfusion h
def iadd (a b : Int) : Int :=
 Int.rec (motive := fun _ => Int → Int) (fun x b => Int.rec (motive := fun _ => Nat → Int) (fun y x => .ofNat (Nat.add x y)) (fun y x => Int.add (.ofNat x) (.negSucc y)) b x)
  (fun x b => Int.add (.negSucc x) b) a b
theorem iadd_eq (a b : Int) : iadd a b = Int.add a b := by
 cases a with
 | ofNat x => cases b <;> rfl
 | negSucc x => rfl
def isub (a b : Int) : Int :=
 Int.rec (motive := fun _ => Int → Int) (fun x b => Int.rec (motive := fun _ => Nat → Int) (fun y x => Bool.rec (Int.sub (.ofNat x) (.ofNat y)) (.ofNat (Nat.sub x y)) (Nat.ble y x)) (fun y x => .ofNat (Nat.succ (Nat.add x y))) b x)
  (fun x b => Int.sub (.negSucc x) b) a b
theorem isub_eq (a b : Int) : isub a b = Int.sub a b := by
 cases a with
 | ofNat x =>
  cases b with
  | ofNat y =>
   show (Bool.rec (Int.sub (.ofNat x) (.ofNat y)) (.ofNat (Nat.sub x y)) (Nat.ble y x) : Int) = _
   cases h : Nat.ble y x with
   | false => rfl
   | true =>
    have := Nat.le_of_ble_eq_true h
    show Int.ofNat (x - y) = (x : Int) - (y : Int)
    simp only [Int.ofNat_eq_natCast]; omega
  | negSucc y => show Int.ofNat (x + y + 1) = (x : Int) - Int.negSucc y; simp only [Int.ofNat_eq_natCast]; omega
 | negSucc x => rfl
def two (x y : AVal) (f : IntKind → Int → Int → Bool) (s : Bool) : Bool := vIntS x (fun k a => vIntS y (fun j b => Bool.rec false (f k a b) (Nat.beq (ikN k) (ikN j))) s) s
theorem two_ok {x y : AVal} {f : IntKind → Int → Int → Bool} {s : Bool} (h : two x y f s = true) : (∃ k a b, x = .int k a ∧ y = .int k b ∧ f k a b = true) ∨ s = true := by
 rcases vIntS_ok (show vIntS x _ s = true from h) with ⟨k, a, e1, h⟩ | h
 ·rcases vIntS_ok (show vIntS y _ s = true from h) with ⟨j, b, e2, h⟩ | h
  ·obtain ⟨h1, h2⟩ := brec_ok h
   have := ikN_inj h1
   subst this
   exact .inl ⟨k, a, b, e1, e2, h2⟩
  ·exact .inr h
 ·exact .inr h
def binI (P : Program) (op : BinOp) (t : TypeId) (xo yo : Operand) (x y : Acc) : CV :=
 match x, y with
 | .mk x, .mk y => match op with
  | .add => .yes fun env st f => two (x env) (y env) (fun k a b => forceI (awrap k (iadd a b)) fun r => f (.int k r)) (oK (opBin P .add t xo yo (aev env) st.H st.nx) f)
  | .sub => .yes fun env st f => two (x env) (y env) (fun k a b => forceI (awrap k (isub a b)) fun r => f (.int k r)) (oK (opBin P .sub t xo yo (aev env) st.H st.nx) f)
  | .eql => .yes fun env st f => two (x env) (y env) (fun _ a b => f (.bool (ieq a b))) (oK (opBin P .eql t xo yo (aev env) st.H st.nx) f)
  | .neq => .yes fun env st f => two (x env) (y env) (fun _ a b => f (.bool (bnot (ieq a b)))) (oK (opBin P .neq t xo yo (aev env) st.H st.nx) f)
  | .lss => .yes fun env st f => two (x env) (y env) (fun _ a b => f (.bool (ilt a b))) (oK (opBin P .lss t xo yo (aev env) st.H st.nx) f)
  | .leq => .yes fun env st f => two (x env) (y env) (fun _ a b => f (.bool (bnot (ilt b a)))) (oK (opBin P .leq t xo yo (aev env) st.H st.nx) f)
  | .gtr => .yes fun env st f => two (x env) (y env) (fun _ a b => f (.bool (ilt b a))) (oK (opBin P .gtr t xo yo (aev env) st.H st.nx) f)
  | .geq => .yes fun env st f => two (x env) (y env) (fun _ a b => f (.bool (bnot (ilt a b)))) (oK (opBin P .geq t xo yo (aev env) st.H st.nx) f)
  | _ => .no
theorem slow_ok {op : BinOp} {t u : TypeId} {x y : Operand} (ho : o.op = .binOp op t x y u) {st : St} {k : AVal → Bool} (h : oK (opBin P op t x y (aev env) st.H st.nx) k = true) :
  ∃ v, aop P o (aev env) st.H st.nx = some (.val v st.H st.nx) ∧ k v = true :=
 gen_ok (P := P) (o := o) (g := opBin P op t x y) (by funext ρ H nx; unfold aop; rw [ho]) (by rw [ho]; rfl) env st k h
theorem binI_ok {op : BinOp} {t u : TypeId} {x y : Operand} {f : Env → St → (AVal → Bool) → Bool} (ho : o.op = .binOp op t x y u) (h : binI P op t x y (bx x) (bx y) = .yes f) : VOK P o f := by
 have key : ∀ env (st : St) k a b v, aev env x = .int k a → aev env y = .int k b → aInt op k a b = some v → op ≠ .shl → op ≠ .shr → aop P o (aev env) st.H st.nx = some (.val v st.H st.nx) := by
  intro env st k a b v hx hy hv h1 h2
  unfold aop
  rw [ho]
  show opBin P op t x y (aev env) st.H st.nx = _
  unfold opBin
  rw [hx, hy]
  cases op <;> first | exact absurd rfl h1 | exact absurd rfl h2 | (simp only [decide_true, hv])
 have hx := bx_eq x
 have hy := bx_eq y
 unfold binI at h
 cases ex : bx x with | mk fx => cases ey : bx y with | mk fy =>
  rw [ex] at h hx; rw [ey] at h hy
  have hx' : ∀ env, fx env = aev env x := hx
  have hy' : ∀ env, fy env = aev env y := hy
  cases op <;> try (cases h; done)
  all_goals
   cases h
   intro env st k hk
   rcases two_ok hk with ⟨kd, a, b, e1, e2, hf⟩ | hs
   case inr => exact slow_ok ho hs
   rw [hx'] at e1
   rw [hy'] at e2
  ·rw [forceI_eq, iadd_eq] at hf
   exact ⟨_, key env st kd a b _ e1 e2 (by simp only [aInt, forceI_eq]) (by decide) (by decide), hf⟩
  ·rw [forceI_eq, isub_eq] at hf
   exact ⟨_, key env st kd a b _ e1 e2 (by simp only [aInt, forceI_eq]) (by decide) (by decide), hf⟩
  all_goals exact ⟨_, key env st kd a b _ e1 e2 rfl (by decide) (by decide), hf⟩
def twoT (x y : AVal) (f : Nat → Nat → Nat → Nat → Bool) (s : Bool) : Bool := vStrS x (fun n a => vStrS y (fun m b => f n a m b) s) s
theorem twoT_ok {x y : AVal} {f : Nat → Nat → Nat → Nat → Bool} {s : Bool} (h : twoT x y f s = true) : (∃ n a m b, x = .str n a ∧ y = .str m b ∧ f n a m b = true) ∨ s = true := by
 rcases vStrS_ok (show vStrS x _ s = true from h) with ⟨n, a, e1, h⟩ | h
 ·rcases vStrS_ok (show vStrS y _ s = true from h) with ⟨m, b, e2, h⟩ | h
  ·exact .inl ⟨n, a, m, b, e1, e2, h⟩
  ·exact .inr h
 ·exact .inr h
def binT (P : Program) (op : BinOp) (t : TypeId) (xo yo : Operand) (x y : Acc) : CV :=
 match x, y with
 | .mk x, .mk y => match op with
  | .add => .yes fun env st f => twoT (x env) (y env) (fun n a m b => Bool.rec false (forceN (Nat.add n m) fun l => forceN (Nat.add (Nat.shiftLeft a (Nat.mul 8 m)) b) fun z => f (.str l z)) (Nat.ble (Nat.add n m) 9223372036854775807)) (oK (opBin P .add t xo yo (aev env) st.H st.nx) f)
  | .eql => .yes fun env st f => twoT (x env) (y env) (fun n a m b => f (.bool (Bool.rec false (Nat.beq a b) (Nat.beq n m)))) (oK (opBin P .eql t xo yo (aev env) st.H st.nx) f)
  | .neq => .yes fun env st f => twoT (x env) (y env) (fun n a m b => f (.bool (Bool.rec true (bnot (Nat.beq a b)) (Nat.beq n m)))) (oK (opBin P .neq t xo yo (aev env) st.H st.nx) f)
  | _ => .no
theorem binT_ok {op : BinOp} {t u : TypeId} {x y : Operand} {f : Env → St → (AVal → Bool) → Bool} (ho : o.op = .binOp op t x y u) (h : binT P op t x y (bx x) (bx y) = .yes f) : VOK P o f := by
 have key : ∀ env (st : St) n a m b v, aev env x = .str n a → aev env y = .str m b → aText op n a m b = some v → aop P o (aev env) st.H st.nx = some (.val v st.H st.nx) := by
  intro env st n a m b v hx hy hv
  unfold aop
  rw [ho]
  show opBin P op t x y (aev env) st.H st.nx = _
  unfold opBin
  rw [hx, hy]
  simp only [hv]
 have hx := bx_eq x
 have hy := bx_eq y
 unfold binT at h
 cases ex : bx x with | mk fx => cases ey : bx y with | mk fy =>
  rw [ex] at h hx; rw [ey] at h hy
  have hx' : ∀ env, fx env = aev env x := hx
  have hy' : ∀ env, fy env = aev env y := hy
  cases op <;> try (cases h; done)
  ·cases h
   intro env st k hk
   rcases twoT_ok hk with ⟨n, a, m, b, e1, e2, hk⟩ | hs
   case inr => exact slow_ok ho hs
   rw [hx'] at e1
   rw [hy'] at e2
   obtain ⟨h1, h2⟩ := brec_ok hk
   rw [forceN_eq, forceN_eq] at h2
   refine ⟨_, key env st n a m b _ e1 e2 ?_, h2⟩
   unfold aText
   simp only [h1, forceN_eq]
  all_goals
   cases h
   intro env st k hk
   rcases twoT_ok hk with ⟨n, a, m, b, e1, e2, hk⟩ | hs
   case inr => exact slow_ok ho hs
   rw [hx'] at e1
   rw [hy'] at e2
   exact ⟨_, key env st n a m b _ e1 e2 rfl, hk⟩
def nthK (l : List AVal) (i : Nat) : (AVal → Bool) → Bool :=
 List.rec (motive := fun _ => Nat → (AVal → Bool) → Bool) (fun _ _ => false) (fun v _ ih i k => Nat.rec (motive := fun _ => Bool) (k v) (fun j _ => ih j k) i) l i
theorem nthK_ok : ∀ {l : List AVal} {i : Nat} {k : AVal → Bool}, nthK l i k = true → ∃ v, l[i]? = some v ∧ k v = true
 | [], i, k, h => Bool.noConfusion h
 | v :: l, 0, k, h => ⟨v, rfl, h⟩
 | v :: l, i + 1, k, h => by
  have h' : nthK l i k = true := h
  obtain ⟨u, e, hk⟩ := nthK_ok h'
  exact ⟨u, by simpa using e, hk⟩
def dropF (n : Nat) : List AVal → List AVal := Nat.rec (motive := fun _ => List AVal → List AVal) (fun l => l) (fun _ ih l => List.rec [] (fun _ t _ => ih t) l) n
theorem dropF_eq : ∀ (n : Nat) (l : List AVal), dropF n l = l.drop n
 | 0, l => rfl
 | n + 1, [] => by show ([] : List AVal) = _; simp
 | n + 1, _ :: l => by show dropF n l = _; rw [dropF_eq n l]; simp
def takeF (n : Nat) : List AVal → List AVal := Nat.rec (motive := fun _ => List AVal → List AVal) (fun _ => []) (fun _ ih l => List.rec [] (fun v t _ => v :: ih t) l) n
theorem takeF_eq : ∀ (n : Nat) (l : List AVal), takeF n l = l.take n
 | 0, l => by show ([] : List AVal) = _; simp
 | n + 1, [] => by show ([] : List AVal) = _; simp
 | n + 1, v :: l => by show v :: takeF n l = _; rw [takeF_eq n l]; simp
def natK (i : Int) (f : Nat → Bool) : Bool := Int.rec (motive := fun _ => (Nat → Bool) → Bool) (fun n f => f n) (fun _ _ => false) i f
theorem natK_ok {i : Int} {f : Nat → Bool} (h : natK i f = true) : ∃ n, i = .ofNat n ∧ f n = true := by
 cases i with
 | ofNat n => exact ⟨n, rfl, h⟩
 | negSucc n => exact Bool.noConfusion h
def boolD : TypeDesc → Nat
 | .int _ => 1
 | .string => 2
 | _ => 0
def lenL (l : List AVal) : Nat := List.rec (motive := fun _ => Nat) 0 (fun _ _ n => Nat.succ n) l
theorem lenL_eq : ∀ l : List AVal, lenL l = l.length
 | [] => rfl
 | _ :: l => by show Nat.succ (lenL l) = _; rw [lenL_eq l]; rfl
def appL (a b : List AVal) : List AVal := List.rec (motive := fun _ => List AVal → List AVal) (fun b => b) (fun v _ ih b => v :: ih b) a b
theorem appL_eq : ∀ a b : List AVal, appL a b = a ++ b
 | [], _ => rfl
 | v :: a, b => by show v :: appL a b = _; rw [appL_eq a b]; rfl
def segF (off : Nat) : List AVal → List AVal → List AVal :=
 Nat.rec (motive := fun _ => List AVal → List AVal → List AVal) (fun cs l => appL cs (dropF (lenL cs) l)) (fun _ ih cs l => List.rec (motive := fun _ => List AVal) cs (fun h t _ => h :: ih cs t) l) off
theorem segF_eq : ∀ (off : Nat) (cs l : List AVal), segF off cs l = seg off cs l
 | 0, cs, l => by
  show appL cs (dropF (lenL cs) l) = _
  rw [appL_eq, dropF_eq, lenL_eq]
  simp [seg]
 | off + 1, cs, [] => by show cs = _; simp [seg]
 | off + 1, cs, h :: t => by
  show h :: segF off cs t = _
  rw [segF_eq off cs t]
  have : off + 1 + cs.length = (off + cs.length) + 1 := by omega
  simp [seg, this]
def setL (off : Nat) : AVal → List AVal → List AVal :=
 Nat.rec (motive := fun _ => AVal → List AVal → List AVal) (fun v l => List.rec (motive := fun _ => List AVal) [v] (fun _ t _ => v :: t) l) (fun _ ih v l => List.rec (motive := fun _ => List AVal) [v] (fun h t _ => h :: ih v t) l) off
theorem setL_eq : ∀ (off : Nat) (v : AVal) (l : List AVal), setL off v l = seg off [v] l
 | 0, v, [] => by show [v] = _; simp [seg]
 | 0, v, _ :: t => by show v :: t = _; simp [seg]
 | off + 1, v, [] => by show [v] = _; simp [seg]
 | off + 1, v, h :: t => by
  show h :: setL off v t = _
  rw [setL_eq off v t]
  simp [seg]
theorem seg_length {off : Nat} {cs l : List AVal} (h : off + cs.length ≤ l.length) : (seg off cs l).length = l.length := by
 unfold seg
 simp only [List.length_append, List.length_take, List.length_drop]
 omega
inductive Bf | mk (f : Env → List AVal → (List AVal → Bool) → Bool)
def Bf.fn : Bf → Env → List AVal → (List AVal → Bool) → Bool | .mk f => f
def cFill (place : Nat → Option (Nat × Nat)) (n : Nat) : List (Nat × Operand) → Bf
 | [] => .mk fun _ cells k => k cells
 | (i, x) :: rest => match place i, bx x, cFill place n rest with
  | some (off, size), .mk fx, .mk g => match Nat.ble (Nat.add off size) n, Nat.beq size 1 with
   | true, true => forceN off fun off => .mk fun env cells k => vOne (fx env) fun v => g env (setL off v cells) k
   | true, false => forceN off fun off => forceN size fun size => .mk fun env cells k => vAgg (fx env) fun cs => Bool.rec false (g env (segF off cs cells) k) (Nat.beq (lenL cs) size)
   | _, _ => .mk fun _ _ _ => false
  | _, _, _ => .mk fun _ _ _ => false
theorem cFill_ok {place : Nat → Option (Nat × Nat)} {n : Nat} : ∀ {ps : List (Nat × Operand)} {env : Env} {cells : List AVal} {k : List AVal → Bool}, cells.length = n → (cFill place n ps).fn env cells k = true → ∃ cs, aFill place (aev env) cells ps = some cs ∧ k cs = true
 | [], env, cells, k, _, h => ⟨cells, rfl, h⟩
 | (i, x) :: rest, env, cells, k, hn, h => by
  unfold cFill at h
  have hx := bx_eq x
  split at h <;> first | (exact Bool.noConfusion h) | skip
  rename_i off size fx g hp hfx hg
  rw [hfx] at hx
  have hx' : ∀ env, fx env = aev env x := hx
  unfold aFill
  split at h <;> first | (exact Bool.noConfusion h) | skip
  ·rename_i hle hs
   have hs' := Nat.eq_of_beq_eq_true hs
   subst hs'
   rw [forceN_eq] at h
   obtain ⟨c, hc, h2⟩ := vOne_ok (show vOne (fx env) _ = true from h)
   rw [hx'] at hc
   have hle' : off + 1 ≤ n := Nat.le_of_ble_eq_true hle
   have hlen : (seg off [c] cells).length = n := by rw [seg_length (by simp; omega)]; exact hn
   rw [setL_eq] at h2
   obtain ⟨cs, h3, h4⟩ := cFill_ok (ps := rest) hlen (by rw [hg]; exact h2)
   refine ⟨cs, ?_, h4⟩
   have bl : Nat.beq ([c] : List AVal).length 1 = true := rfl
   rw [hn]
   simp only [hp, hc, bl, hle]
   exact h3
  ·rename_i hle hs
   rw [forceN_eq, forceN_eq] at h
   obtain ⟨cs0, hc, h2⟩ := vAgg_ok (show vAgg (fx env) _ = true from h)
   rw [hx'] at hc
   obtain ⟨hl, h2⟩ := brec_ok h2
   rw [lenL_eq] at hl
   have hl' := Nat.eq_of_beq_eq_true hl
   have hle' : off + size ≤ n := Nat.le_of_ble_eq_true hle
   have hlen : (seg off cs0 cells).length = n := by rw [seg_length (by omega)]; exact hn
   rw [segF_eq] at h2
   obtain ⟨cs, h3, h4⟩ := cFill_ok (ps := rest) hlen (by rw [hg]; exact h2)
   refine ⟨cs, ?_, h4⟩
   rw [hn]
   have hac : acells (.agg cs0) = some cs0 := rfl
   simp only [hp, hc, hac, hl, hle]
   exact h3
def cBuild (P : Program) (t : TypeId) (ps : List (Nat × Operand)) : CV :=
 match zeroL P t, P.underlying t with
 | some z, some (.struct fields) => match places P fields.toList with
  | some pl => match cFill (fun i => pl[i]?) z.length ps with
   | .mk f => .yes fun env _ k => f env z fun cs => k (.agg cs)
  | none => .no
 | some z, some (.array _ elem) => match P.info? elem with
  | some e => match cFill (fun i => some (Nat.mul i e.size, e.size)) z.length ps with
   | .mk f => .yes fun env _ k => f env z fun cs => k (.agg cs)
  | none => .no
 | _, _ => .no
theorem cBuild_ok {t : TypeId} {ps : Array (Nat × Operand)} {f : Env → St → (AVal → Bool) → Bool} (hop : o.op = .build t ps) (h : cBuild P t ps.toList = .yes f) : VOK P o f := by
 have fin : ∀ env (st : St) cs, aBuild P t ps (aev env) = some cs → aop P o (aev env) st.H st.nx = some (.val (.agg cs) st.H st.nx) := by
  intro env st cs hcs
  unfold aop; rw [hop]
  show opBuild P t ps (aev env) st.H st.nx = _
  unfold opBuild
  simp only [hcs]
 unfold cBuild at h
 split at h <;> try (cases h; done)
 ·rename_i z fields hz hu
  split at h <;> try (cases h; done)
  rename_i pl hpl
  cases ef : cFill (fun i => pl[i]?) z.length ps.toList with | mk g =>
   rw [ef] at h
   cases h
   intro env st k hk
   obtain ⟨cs, hcs, hk⟩ := cFill_ok (place := fun i => pl[i]?) (n := z.length) (ps := ps.toList) (env := env) (cells := z) (k := fun cs => k (.agg cs)) rfl (by rw [ef]; exact hk)
   exact ⟨_, fin env st cs (by unfold aBuild; simp only [hz, hu, hpl]; exact hcs), hk⟩
 ·rename_i z n elem hz hu
  split at h <;> try (cases h; done)
  rename_i e he
  cases ef : cFill (fun i => some (Nat.mul i e.size, e.size)) z.length ps.toList with | mk g =>
   rw [ef] at h
   cases h
   intro env st k hk
   obtain ⟨cs, hcs, hk⟩ := cFill_ok (place := fun i => some (Nat.mul i e.size, e.size)) (n := z.length) (ps := ps.toList) (env := env) (cells := z) (k := fun cs => k (.agg cs)) rfl (by rw [ef]; exact hk)
   exact ⟨_, fin env st cs (by unfold aBuild; simp only [hz, hu, he]; exact hcs), hk⟩
def cVal (P : Program) (o : Op) : CV :=
 match o with
 | .move x => match bx x with | .mk fx => .yes fun env _ k => k (fx env)
 | .assign x => match bx x with | .mk fx => .yes fun env _ k => k (fx env)
 | .pick c a b => match bx c, bx a, bx b with | .mk c, .mk a, .mk b => .yes fun env _ k => vBool (c env) (k (a env)) (k (b env))
 | .load t a => match P.underlying t, P.info? t, bx a with
  | some d, some i, .mk fa => match aggD d with
   | false => .yes fun env st k => vPtrG (fa env) (fun b off => hCell (hget b st.H) off k) (fun g off => gCell (GTab.tab g) off k)
   | true => forceN i.size fun sz => .yes fun env st k => vPtrG (fa env) (fun b off => hSlab (hget b st.H) off sz k) (fun _ _ => oK (opLoad P t a (aev env) st.H st.nx) k)
  | _, _, _ => .no
 | .nilCheck x => match bx x with | .mk fx => .yes fun env _ k => vChk (fx env) k
 | .binOp op t x y _ => match P.underlying t with
  | some (.int _) => match binI P op t x y (bx x) (bx y) with
   | .yes f => .yes f
   | .no => gen (opBin P op t x y)
  | some .string => match binT P op t x y (bx x) (bx y) with
   | .yes f => .yes f
   | .no => gen (opBin P op t x y)
  | _ => gen (opBin P op t x y)
 | .unOp .not _ x => match bx x with | .mk fx => .yes fun env _ k => vBool (fx env) (k (.bool false)) (k (.bool true))
 | .unOp op _ x => gen (opUn op x)
 | .convert s d x => match P.underlying s, P.underlying d, bx x with
  | some _, some (.int j), .mk fx => .yes fun env st k => vIntS (fx env) (fun _ n => forceI (awrap j n) fun r => k (.int j r)) (oK (opConv P s d x (aev env) st.H st.nx) k)
  | _, _, _ => gen (opConv P s d x)
 | .fieldAddr s x f => match P.underlying s with
  | some (.struct fields) => match fields[f]? with
   | some fd => match P.info? fd.type, bx x with
    | some i, .mk fx => match Nat.beq i.size 0 with
     | false => forceN fd.offset fun q => .yes fun env _ k => vPtrG (fx env) (fun b off => k (.ptr b (Nat.add off q))) (fun g off => k (.gptr g (Nat.add off q)))
     | true => .no
    | _, _ => .no
   | none => .no
  | _ => .no
 | .field t x f => match P.underlying t with
  | some (.struct fields) => match fields[f]? with
   | some fd => match P.underlying fd.type, P.info? fd.type, bx x with
    | some d, some i, .mk fx => match aggD d with
     | false => forceN fd.offset fun q => .yes fun env _ k => vAgg (fx env) fun cs => nthK cs q k
     | true => forceN fd.offset fun q => forceN i.size fun sz => .yes fun env _ k => vAgg (fx env) fun cs => k (.agg (takeF sz (dropF q cs)))
    | _, _, _ => .no
   | none => .no
  | _ => .no
 | .indexAddr t x i => match P.underlying t with
  | some (.slice elem) => match P.info? elem, bx x, bx i with
   | some e, .mk fx, .mk fi => forceN e.size fun sz => .yes fun env _ k => vInt (fi env) fun _ i => natK i fun n => vSl (fx env) fun b off len => Bool.rec false (k (.ptr b (Nat.add off (Nat.mul n sz)))) (Nat.ble (Nat.succ n) len)
   | _, _, _ => .no
  | _ => gen (opIndexAddr P t x i)
 | .index t x i => match P.underlying t, bx x, bx i with
  | some .string, .mk fx, .mk fi => .yes fun env _ k => vInt (fi env) fun _ i => natK i fun n => vStr (fx env) fun l z => Bool.rec false (forceN (cutX l z n (Nat.succ n)) fun c => k (.int .u8 (.ofNat c))) (Nat.ble (Nat.succ n) l)
  | _, _, _ => gen (opIndex P t x i)
 | .extract t i => match bx t with | .mk ft => .yes fun env _ k => vTup (ft env) fun vs => nthK vs i k
 | .makeInterface t x => gen (opMakeInterface P t x)
 | .makeFunc fn a b => gen (opMakeFunc fn a b)
 | .slice t x lo hi mx => gen (opSlice P t x lo hi mx)
 | .typeAssert x _ a ok => gen (opAssert P x a ok)
 | .lookup t x i ok => gen (opLookup P t x i ok)
 | .build t ps => match cBuild P t ps.toList with
  | .yes f => .yes f
  | .no => gen (opBuild P t ps)
 | .call c => match c.callee with
  | .builtin .len => match c.argTypes.toList, c.args.toList with
   | [t], [x] => match P.underlying t, bx x with
    | some .string, .mk fx => .yes fun env _ k => vLenT (fx env) fun n => k (.int .i64 (.ofNat n))
    | some (.slice _), .mk fx => .yes fun env _ k => vLenS (fx env) fun n => k (.int .i64 (.ofNat n))
    | _, _ => gen (opCall P c)
   | _, _ => .no
  | .builtin .max => gen (opCall P c)
  | .builtin .min => gen (opCall P c)
  | _ => .no
 | _ => .no
theorem cVal_ok {f : Env → St → (AVal → Bool) → Bool} (h : cVal P o.op = .yes f) : VOK P o f := by
 unfold cVal at h
 split at h
 ·rename_i x hop
  have hx := bx_eq x
  cases e : bx x with | mk fx =>
   rw [e] at h hx; cases h
   intro env st k hk
   refine ⟨fx env, ?_, hk⟩
   unfold aop; rw [hop]
   have : fx env = aev env x := hx env
   rw [this]; rfl
 ·rename_i x hop
  have hx := bx_eq x
  cases e : bx x with | mk fx =>
   rw [e] at h hx; cases h
   intro env st k hk
   refine ⟨fx env, ?_, hk⟩
   unfold aop; rw [hop]
   have : fx env = aev env x := hx env
   rw [this]; rfl
 ·rename_i c a b hop
  have hc := bx_eq c; have ha := bx_eq a; have hb := bx_eq b
  cases ec : bx c with | mk fc => cases ea : bx a with | mk fa => cases eb : bx b with | mk fb =>
   rw [ec] at h hc; rw [ea] at h ha; rw [eb] at h hb; cases h
   intro env st k hk
   have hc' : fc env = aev env c := hc env
   have ha' : fa env = aev env a := ha env
   have hb' : fb env = aev env b := hb env
   have hk' : vBool (fc env) (k (fa env)) (k (fb env)) = true := hk
   unfold aop; rw [hop]
   show ∃ v, opPick c a b (aev env) st.H st.nx = _ ∧ _
   rcases vBool_ok hk' with ⟨e, hh⟩ | ⟨e, hh⟩
   ·rw [hc'] at e; rw [ha'] at hh
    exact ⟨_, by unfold opPick; rw [e], hh⟩
   ·rw [hc'] at e; rw [hb'] at hh
    exact ⟨_, by unfold opPick; rw [e], hh⟩
 ·rename_i t a hop
  split at h <;> try (cases h; done)
  rename_i d i fa hd hi ha
  have hx := bx_eq a; rw [ha] at hx
  have hx' : ∀ env, fa env = aev env a := hx
  split at h
  ·rename_i hagg
   cases h
   intro env st k hk
   rcases vPtrG_ok hk with ⟨b, off, e, hk⟩ | ⟨g, off, e, hk⟩
   ·obtain ⟨n, ct, olds, s, e2, e3, hk⟩ := hCell_ok hk
    rw [hget_eq] at e2
    refine ⟨_, ?_, hk⟩
    unfold aop; rw [hop]
    show opLoad P t a (aev env) st.H st.nx = _
    rw [hx'] at e
    simp only [opLoad, aLoad, e, e2, hd, hi, hagg, e3]
   ·obtain ⟨l, v, e2, e3, hk⟩ := gCell_ok hk
    refine ⟨v, ?_, hk⟩
    unfold aop; rw [hop]
    show opLoad P t a (aev env) st.H st.nx = _
    rw [hx'] at e
    simp only [opLoad, aLoad, e, e2, hd, hi, hagg, e3]
  ·rename_i hagg
   rw [forceN_eq] at h
   cases h
   intro env st k hk
   rcases vPtrG_ok hk with ⟨b, off, e, hk⟩ | ⟨g, off, e, hk⟩
   ·obtain ⟨n, ct, olds, s, e2, e3, hk⟩ := hSlab_ok hk
    rw [hget_eq] at e2
    refine ⟨_, ?_, hk⟩
    unfold aop; rw [hop]
    show opLoad P t a (aev env) st.H st.nx = _
    rw [hx'] at e
    simp only [opLoad, aLoad, e, e2, hd, hi, hagg, e3]
   ·exact gen_ok (by funext ρ H nx; unfold aop; rw [hop]) (by rw [hop]; rfl) env st k hk
 ·rename_i x hop
  have hx := bx_eq x
  cases e : bx x with | mk fx =>
   rw [e] at h hx; cases h
   intro env st k hk
   have hx' : fx env = aev env x := hx env
   obtain ⟨e2, hk⟩ := vChk_ok hk
   rw [hx'] at e2 hk
   refine ⟨_, ?_, hk⟩
   unfold aop; rw [hop]
   show opNilCheck x (aev env) st.H st.nx = _
   rcases e2 with ⟨b, off, e2⟩ | ⟨t, u, e2⟩ | ⟨g, off, e2⟩ <;> simp only [opNilCheck, e2]
 ·rename_i op t x y u hop
  have g : ∀ {f}, gen (opBin P op t x y) = .yes f → VOK P o f := fun {f} h => by
   cases h
   exact gen_ok (by funext ρ H nx; unfold aop; rw [hop]) (by rw [hop]; rfl)
  split at h
  ·split at h
   ·rename_i hb; cases h; exact binI_ok hop hb
   ·exact g h
  ·split at h
   ·rename_i hb; cases h; exact binT_ok hop hb
   ·exact g h
  ·exact g h
 ·rename_i t x hop
  have hx := bx_eq x
  cases e : bx x with | mk fx =>
   rw [e] at h hx; cases h
   intro env st k hk
   have hx' : fx env = aev env x := hx env
   have hk' : vBool (fx env) (k (.bool false)) (k (.bool true)) = true := hk
   unfold aop; rw [hop]
   show ∃ v, opUn .not x (aev env) st.H st.nx = _ ∧ _
   rcases vBool_ok hk' with ⟨e, hh⟩ | ⟨e, hh⟩
   ·rw [hx'] at e
    exact ⟨_, by unfold opUn; rw [e]; rfl, hh⟩
   ·rw [hx'] at e
    exact ⟨_, by unfold opUn; rw [e]; rfl, hh⟩
 ·rename_i op t x hne hop
  cases h
  exact gen_ok (by funext ρ H nx; unfold aop; rw [hop]) (by rw [hop]; rfl)
 ·rename_i s d x hop
  split at h
  ·rename_i ds j fx hs hd hx0
   have hx := bx_eq x; rw [hx0] at hx
   have hx' : ∀ env, fx env = aev env x := hx
   cases h
   intro env st k hk
   rcases vIntS_ok hk with ⟨kd, n, e, hk⟩ | hk
   case inr => exact gen_ok (P := P) (o := o) (g := opConv P s d x) (by funext ρ H nx; unfold aop; rw [hop]) (by rw [hop]; rfl) env st k hk
   rw [forceI_eq] at hk
   rw [hx'] at e
   refine ⟨_, ?_, hk⟩
   unfold aop; rw [hop]
   show opConv P s d x (aev env) st.H st.nx = _
   unfold opConv
   rw [hs, hd, e]
   simp only [forceI_eq]
  ·cases h
   exact gen_ok (by funext ρ H nx; unfold aop; rw [hop]) (by rw [hop]; rfl)
 ·rename_i s x f' hop
  split at h <;> try (cases h; done)
  rename_i fields hs
  split at h <;> try (cases h; done)
  rename_i fd hf
  split at h <;> try (cases h; done)
  rename_i i fx hi hx0
  have hx := bx_eq x; rw [hx0] at hx
  have hx' : ∀ env, fx env = aev env x := hx
  split at h <;> try (cases h; done)
  rename_i hz
  rw [forceN_eq] at h
  cases h
  intro env st k hk
  rcases vPtrG_ok hk with ⟨b, off, e, hk⟩ | ⟨b, off, e, hk⟩ <;> rw [hx'] at e
  all_goals
   refine ⟨_, ?_, hk⟩
   unfold aop; rw [hop]
   show opFieldAddr P s x f' (aev env) st.H st.nx = _
   unfold opFieldAddr
   simp only [hs, hf, hi, hz, e]
 ·rename_i t x f' hop
  split at h <;> try (cases h; done)
  rename_i fields hs
  split at h <;> try (cases h; done)
  rename_i fd hf
  split at h <;> try (cases h; done)
  rename_i d i fx hd hi hx0
  have hx := bx_eq x; rw [hx0] at hx
  have hx' : ∀ env, fx env = aev env x := hx
  split at h
  ·rename_i hagg
   rw [forceN_eq] at h
   cases h
   intro env st k hk
   obtain ⟨cs, e, hk⟩ := vAgg_ok hk
   rw [hx'] at e
   obtain ⟨v, hv, hk⟩ := nthK_ok hk
   refine ⟨v, ?_, hk⟩
   unfold aop; rw [hop]
   show opField P t x f' (aev env) st.H st.nx = _
   unfold opField aPart
   have hdrop : ∃ r, List.drop fd.offset cs = v :: r := by
    obtain ⟨hlt, hv'⟩ := List.getElem?_eq_some_iff.1 hv
    exact ⟨_, by rw [List.drop_eq_getElem_cons hlt, hv']⟩
   obtain ⟨r, hdrop⟩ := hdrop
   simp only [hs, hf, e, hd, hi, hagg, hdrop]
  ·rename_i hagg
   rw [forceN_eq, forceN_eq] at h
   cases h
   intro env st k hk
   obtain ⟨cs, e, hk⟩ := vAgg_ok hk
   rw [hx'] at e
   rw [takeF_eq, dropF_eq] at hk
   refine ⟨_, ?_, hk⟩
   unfold aop; rw [hop]
   show opField P t x f' (aev env) st.H st.nx = _
   unfold opField aPart
   simp only [hs, hf, e, hd, hi, hagg]
 ·rename_i t x i hop
  split at h
  ·rename_i elem hs
   split at h <;> try (cases h; done)
   rename_i e fx fi he hx0 hi0
   have hx := bx_eq x; rw [hx0] at hx
   have hx' : ∀ env, fx env = aev env x := hx
   have hi := bx_eq i; rw [hi0] at hi
   have hi' : ∀ env, fi env = aev env i := hi
   rw [forceN_eq] at h
   cases h
   intro env st k hk
   obtain ⟨kd, n, e1, hk⟩ := vInt_ok hk
   obtain ⟨m, rfl, hk⟩ := natK_ok hk
   obtain ⟨b, off, len, esz, full, e2, hk⟩ := vSl_ok hk
   obtain ⟨h1, hk⟩ := brec_ok hk
   rw [hi'] at e1
   rw [hx'] at e2
   refine ⟨_, ?_, hk⟩
   unfold aop; rw [hop]
   show opIndexAddr P t x i (aev env) st.H st.nx = _
   unfold opIndexAddr
   simp only [e1, asNat, hs, e2, h1, he]
  ·cases h
   exact gen_ok (by funext ρ H nx; unfold aop; rw [hop]) (by rw [hop]; rfl)
 ·rename_i t x i hop
  split at h
  ·rename_i fx fi hs hx0 hi0
   have hx := bx_eq x; rw [hx0] at hx
   have hx' : ∀ env, fx env = aev env x := hx
   have hi := bx_eq i; rw [hi0] at hi
   have hi' : ∀ env, fi env = aev env i := hi
   cases h
   intro env st k hk
   obtain ⟨kd, n, e1, hk⟩ := vInt_ok hk
   obtain ⟨m, rfl, hk⟩ := natK_ok hk
   obtain ⟨l, z, e2, hk⟩ := vStr_ok hk
   obtain ⟨h1, hk⟩ := brec_ok hk
   rw [forceN_eq] at hk
   rw [hi'] at e1
   rw [hx'] at e2
   refine ⟨_, ?_, hk⟩
   unfold aop; rw [hop]
   show opIndex P t x i (aev env) st.H st.nx = _
   unfold opIndex
   simp only [e1, asNat, hs, e2, h1, forceN_eq]
  ·cases h
   exact gen_ok (by funext ρ H nx; unfold aop; rw [hop]) (by rw [hop]; rfl)
 ·rename_i t i hop
  have hx := bx_eq t
  cases e : bx t with | mk fx =>
   rw [e] at h hx; cases h
   intro env st k hk
   have hx' : fx env = aev env t := hx env
   obtain ⟨vs, e2, hk⟩ := vTup_ok hk
   obtain ⟨v, hv, hk⟩ := nthK_ok hk
   rw [hx'] at e2
   refine ⟨v, ?_, hk⟩
   unfold aop; rw [hop]
   show opExtract t i (aev env) st.H st.nx = _
   unfold opExtract
   simp only [e2, hv]
 ·rename_i hop; cases h; exact gen_ok (by funext ρ H nx; unfold aop; rw [hop]) (by rw [hop]; rfl)
 ·rename_i hop; cases h; exact gen_ok (by funext ρ H nx; unfold aop; rw [hop]) (by rw [hop]; rfl)
 ·rename_i hop; cases h; exact gen_ok (by funext ρ H nx; unfold aop; rw [hop]) (by rw [hop]; rfl)
 ·rename_i hop; cases h; exact gen_ok (by funext ρ H nx; unfold aop; rw [hop]) (by rw [hop]; rfl)
 ·rename_i hop; cases h; exact gen_ok (by funext ρ H nx; unfold aop; rw [hop]) (by rw [hop]; rfl)
 ·rename_i hop
  split at h
  ·rename_i hb; cases h; exact cBuild_ok hop hb
  ·cases h; exact gen_ok (by funext ρ H nx; unfold aop; rw [hop]) (by rw [hop]; rfl)
 ·rename_i c hop
  have g : cls (.call c) = 0 → ∀ {f}, gen (opCall P c) = .yes f → VOK P o f := fun hc {f} h => by
   cases h
   exact gen_ok (by funext ρ H nx; unfold aop; rw [hop]) (by rw [hop]; exact hc)
  split at h
  ·rename_i hcal
   have hcl : cls (.call c) = 0 := by unfold cls; simp only [hcal]
   split at h <;> try (cases h; done)
   rename_i t x ht hx1
   split at h
   ·rename_i fx hs hx0
    have hx := bx_eq x; rw [hx0] at hx
    have hx' : ∀ env, fx env = aev env x := hx
    cases h
    intro env st k hk
    obtain ⟨n, z, e, hk⟩ := vLenT_ok hk
    rw [hx'] at e
    refine ⟨_, ?_, hk⟩
    unfold aop; rw [hop]
    show opCall P c (aev env) st.H st.nx = _
    unfold opCall
    simp only [hcal, opBuiltin0, ht, hx1, lenOfA, hs, e]
   ·rename_i el fx hs hx0
    have hx := bx_eq x; rw [hx0] at hx
    have hx' : ∀ env, fx env = aev env x := hx
    cases h
    intro env st k hk
    rcases vLenS_ok hk with ⟨b, off, n, esz, full, e, hk⟩ | ⟨e, hk⟩
    ·rw [hx'] at e
     refine ⟨_, ?_, hk⟩
     unfold aop; rw [hop]
     show opCall P c (aev env) st.H st.nx = _
     unfold opCall
     simp only [hcal, opBuiltin0, ht, hx1, lenOfA, hs, e]
    ·rw [hx'] at e
     refine ⟨_, ?_, hk⟩
     unfold aop; rw [hop]
     show opCall P c (aev env) st.H st.nx = _
     unfold opCall
     simp only [hcal, opBuiltin0, ht, hx1, lenOfA, hs, e]
   ·exact g hcl h
  ·rename_i hcal
   exact g (by unfold cls; simp only [hcal]) h
  ·rename_i hcal
   exact g (by unfold cls; simp only [hcal]) h
  ·cases h
 ·cases h
end
end Go.Ev
end
